/- share.Split's places, sorted by the library. -/
import Derived.Test.YteecfjkljmmecaaGreatSl
import Derived.Test.YteecfjkljmmecaaGreatSho
namespace Go.Proofs.YteecfjkljmmecaaGreat
open Go.RowKit Go.Sort Go.Shelf
theorem enters45 : ∀ args w, (callFunc 45 args).run Tryz.prog w = .ok (.enter 45 args) w := enters_of Tryz.func45 (by kernel_rfl) rfl
def pEnc {n : Nat} (x : Fin n) : Value := .int .i64 (x.val : Int)
theorem only_sorted1 {α : Type} [Inhabited α] {enc : α → Value} {w : World} {g m : Nat} {os : Array Obj} (d : Array α) : Only (fun i => i = g) w (sortWorld enc w g 0 m d os) := by
  refine ⟨rfl, rfl, rfl, by simp [sortWorld, putRow, mapBlock, Sort.ahead], fun i hi hne => ?_⟩
  unfold sortWorld
  simp only [grow, putRow, mapBlock, Sort.ahead]
  rw [Array.getElem?_append_left (by simpa using hi), Array.getElem?_modify, if_neg (fun e => hne e.symm)]
theorem sort_places {W : World} {g2 g3 g4 n : Nat} (rs : List Int) (hn : 0 < n) (hl4 : n ≤ 4096) (hp : W.cell? ⟨g3, 0, none⟩ = some (.slice (some ⟨g2, 0, none⟩) n n))
    (hr : W.rowIs g2 78 n (fun j => .int .u64 (rs[j]?.getD 0))) (hl : W.rowIs g4 3 n (fun j => .int .i64 (j : Int))) (h34 : g3 ≠ g4) (h24 : g2 ≠ g4) :
    Calls Tryz.prog 44 #[.slice (some ⟨g4, 0, none⟩) n n, .func (.func 45) #[] #[.pointer (some ⟨g3, 0, none⟩)]] W fun e w' => e = .returned (.tuple #[]) ∧ w'.rowIs g4 3 n (fun j => .int .i64 (((orderM rs n)[j]?.getD 0 : Nat) : Int)) ∧ Only (fun k => k = g4) W w' := by
  haveI : Inhabited (Fin n) := ⟨⟨0, hn⟩⟩
  have hH : Holds (pEnc (n := n)) W g4 0 (List.finRange n).toArray := fun j hj => by
    have hj' : j < n := by simpa using hj
    refine ⟨?_, hl.frozen _⟩
    rw [Nat.zero_add, hl.cell hj']
    simp [pEnc, hj', getElem!_pos]
  have hcmp : CmpLays1 Tryz.prog 45 #[.pointer (some ⟨g3, 0, none⟩)] (pEnc (n := n)) (placeCf rs n) g4 0 n W := fun m os dk hs x y => by
    have ho := only_sorted1 (enc := pEnc (n := n)) (w := W) (g := g4) (m := m) (os := os) dk
    have h1 := restCf_any g3 g2 n n x.val y.val (rs[x.val]?.getD 0) (rs[y.val]?.getD 0) (sortWorld (pEnc (n := n)) W g4 0 m dk os) x.isLt y.isLt (ho.keeps hp h34) (ho.keeps (hr.cell x.isLt) h24) (ho.keeps (hr.cell y.isLt) h24)
    exact h1.mono fun e w' h => h
  have hc := Any.slices_SortFunc_total Tryz.sort44 (pEnc (n := n)) (fun x => rfl) (placeCf rs n) (place_swo rs n) 45 #[.pointer (some ⟨g3, 0, none⟩)] g4 0 n (List.finRange n).toArray W enters45 (by simpa using hcmp) hH hl.lt (by simp; omega) (place_parts rs n)
  have e1 : (List.finRange n).toArray.size = n := by simp
  rw [e1] at hc
  refine hc.mono fun e w' ⟨he, m, os, hw⟩ => ⟨he, ?_, ?_⟩
  · rw [hw]
    obtain ⟨c, hb, hcn, hcc⟩ := hl
    have hlen : ((List.finRange n).mergeSort fun x y => !(ltOf (placeCf rs n)) y x).length = n := by
      rw [(List.mergeSort_perm _ _).length_eq]; simp
    refine ⟨putCells (pEnc (n := n)) 0 ((List.finRange n).mergeSort fun x y => !(ltOf (placeCf rs n)) y x).toArray c, ?_, by simp [putCells, hcn], fun i hi => ?_⟩
    · unfold sortWorld
      simp only [grow, putRow, mapBlock, Sort.ahead]
      have hlt := (Array.getElem?_eq_some_iff.1 hb).1
      rw [Array.getElem?_append_left (by simpa using hlt), Array.getElem?_modify, if_pos rfl, hb]
      rfl
    · simp only [putCells, Array.getElem?_mapIdx]
      rw [Array.getElem?_eq_getElem (show i < c.size by omega), Option.map_some, if_pos ⟨by omega, by simp; omega⟩]
      unfold orderM
      rw [Nat.sub_zero, List.getElem?_map, List.getElem?_eq_getElem (by omega), getElem!_pos _ i (by simpa [hlen] using hi)]
      rfl
  · rw [hw]
    exact only_sorted1 _
end Go.Proofs.YteecfjkljmmecaaGreat
