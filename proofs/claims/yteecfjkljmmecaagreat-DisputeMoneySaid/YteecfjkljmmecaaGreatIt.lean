/- slices.Sorted(maps.Keys(m)) at this dump (the first part as lay-iter.mjs prints it), and what it gives for a map of texts. -/
import Derived.Shelf.SlIter.Nil
import Derived.Shelf.SortM.Plain
import Derived.Shelf.SortM.SortNone
import Derived.Ground.GgzProg
import Derived.Ground.SlgmProg
import Derived.Test.YteecfjkljmmecaaGreatProg
import Derived.Test.YteecfjkljmmecaaGreatBase
import Derived.Test.YteecfjkljmmecaaGreatSho
namespace Go.Proofs
open Go.RowKit Go.Maps Go.Sort Go.Shelf


/-- slices.Sort's two contracts at this dump, at the fence that asks nothing. -/
theorem Tryz.sorts33 (m : Nat) : AnyZ.SortsIn Tryz.prog Tryz.sorted33_ren Fence.wide m :=
  ⟨fun blk off cap ss W hH hblk hsz => callsIn_wide.2 (AnyM.slices_Sort_string Tryz.sort52 blk off cap ss W hH hblk hsz),
   fun p cap W => callsIn_wide.2 (AnyM.slices_Sort_string_none Tryz.sort52 p cap W)⟩

/-- **maps.Keys[map[string]string,string,string], at whatever map, the nil one too:** a function value over ONE NEW BLOCK, which holds the map. -/
theorem Tryz.maps_Keys_34 (mb : Option Nat) (W : World) : CallsIn Fence.wide 5 Tryz.prog 34 #[.map mb] W fun e w' => e = .returned (.func (.func 53) #[] #[.pointer (some ⟨W.heap.size, 0, none⟩)]) ∧ w' = W.alloc (.cells #[.map mb] 62) :=
  AnyZ.keys_in Tryz.keys34 Fence.wide 5 trivial rfl mb W

set_option maxHeartbeats 1000000 in
/-- **slices.Sorted[string] AT WHAT maps.Keys[map[string]string,string,string] HANDED BACK FOR A MAP THAT IS NOT nil** ('w': the world AHEAD of maps.Keys' call): A NEW SLICE THAT HOLDS THE MAP's KEYS, SORTED; nil just where it has none; nothing that lay before has turned. -/
theorem Tryz.slices_Sorted_keys_33_34 {H : Type} (b nn : Nat) (D0 : DataW H) (R : Value → Option (DataW H × List MemPlace)) (w : World) (hown : w.ownsMap Tryz.prog 9 R b nn D0) (hmax : Maps.size D0 ≤ maxLen) (hbytes : Maps.size D0 * 16 ≤ 140737488355328) :
    CallsIn Fence.wide 5 Tryz.prog 33 #[.func (.func 53) #[] #[.pointer (some ⟨w.heap.size, 0, none⟩)]] (w.alloc (.cells #[.map (some b)] 62)) fun e w' => ∃ (v : Value) (ss : List (List UInt8)), e = .returned v ∧ ss.Perm (strKeys D0) ∧
      w'.ownsRow (w.alloc (.cells #[.map (some b)] 62)).heap.size 9 1 v ss.length ((ss.mergeSort (fun x y => decide (x ≤ y))).map encStr) ∧ (v = .slice none 0 0 ↔ ss = []) ∧ Below (w.alloc (.cells #[.map (some b)] 62)).heap.size (w.alloc (.cells #[.map (some b)] 62)) w' := by
  have hbl := hown.lt
  have hseq : SeqGives Fence.wide 2 Tryz.prog 53 #[.pointer (some ⟨w.heap.size, 0, none⟩)] encStr (fun ss => ss.Perm (strKeys D0)) (Maps.size D0) (w.alloc (.cells #[.map (some b)] 62)) :=
    AnyZ.keys_gives (ρ := Tryz.keys34_ren) { Tryz.keys34 with } Fence.wide _ trivial rfl (by omega) w.heap.size b nn D0 _ (by simp) (by simp) (by
      obtain ⟨es, clock, hb, Ft, hs, hD⟩ := hown
      exact ⟨es, clock, (Below.heap_alloc _ _ b hbl).trans hb, Ft, hs, hD⟩)
  exact AnyZ.sorted_in Tryz.sorted33 Fence.wide 5 trivial trivial trivial trivial rfl (by omega) (Tryz.sorts33 _) (enters_of Tryz.func52 (by kernel_rfl) rfl) 53 #[.pointer (some ⟨w.heap.size, 0, none⟩)] trivial (enters_of Tryz.func53 (by kernel_rfl) rfl) _ _ hmax hbytes _ hseq

end Go.Proofs
namespace Go.Proofs.YteecfjkljmmecaaGreat
open Go.RowKit Go.Maps Go.Sort Go.Shelf
def anyR : Value → Option (DataW Unit × List MemPlace) := fun _ => some (.nil, [])
def bl (k : ByteArray) : List UInt8 := k.data.toList
theorem keyOf_eStr {P : Program} {kt : TypeId} (hk : P.underlying kt = some .string) (k : ByteArray) (h : k.size ≤ maxLen) : keyOf P kt (eStr k) = some (.string (bl k)) := by
  simp [keyOf, hk, mapKey, eStr, bl, h]
theorem map_own {P : Program} {kt : TypeId} (hkt : P.underlying kt = some .string) {V : Type} {ev : V → Value} {w : World} {b : Nat} {M : List (ByteArray × V)} (h : MapAt eStr ev w b M) (hk : ∀ k ∈ akeys M, k.size ≤ maxLen) (hl : M.length ≤ maxLen) :
    ∃ D0 : DataW Unit, w.ownsMap P kt anyR b M.length D0 ∧ (strKeys D0).Perm ((akeys M).map bl) ∧ Maps.size D0 = M.length := by
  obtain ⟨es, clock, hb, hs, hm⟩ := h
  have hsz : es.size = M.length := by have := congrArg List.length hm; simpa using this
  have hkeys : es.toList.map (·.key) = (akeys M).map eStr := by rw [pairs_keys hm]; simp [akeys]
  have hrd : ∀ x ∈ es.toList, ∃ k ∈ akeys M, x.key = eStr k ∧ WideElems.rd P kt anyR x = some (.string (bl k), .nil) := by
    intro x hx
    have : x.key ∈ (akeys M).map eStr := hkeys ▸ List.mem_map.2 ⟨x, hx, rfl⟩
    obtain ⟨k, hk1, hk2⟩ := List.mem_map.1 this
    exact ⟨k, hk1, hk2.symm, by simp [WideElems.rd, ← hk2, keyOf_eStr hkt k (hk k hk1), anyR]⟩
  refine ⟨_, ⟨es, clock, hb, ⟨by omega, hs, fun x hx => ?_⟩, by omega, rfl⟩, ?_, ?_⟩
  · obtain ⟨k, _, _, h1⟩ := hrd x hx
    exact ⟨_, h1⟩
  · have hp : (strKeys (DataW.map ((es.toList.map (WideElems.rg P kt anyR)).foldr DataW.insert []))).Perm ((es.toList.map (WideElems.rg P kt anyR)).map fun p => strOf p.1) := (WideShapes.sorted_perm _).map _
    refine hp.trans ?_
    have : (es.toList.map (WideElems.rg P kt anyR)).map (fun p => strOf p.1) = (akeys M).map bl := by
      have e1 : (akeys M).map bl = ((akeys M).map eStr).map (fun v => match v with | .string s => bl s | _ => []) := by simp [eStr]
      rw [e1, ← hkeys, List.map_map, List.map_map]
      refine List.map_congr_left fun x hx => ?_
      obtain ⟨k, _, h1, h2⟩ := hrd x hx
      simp [WideElems.rg, h2, h1, eStr, strOf]
    rw [this]
  · show ((es.toList.map (WideElems.rg P kt anyR)).foldr DataW.insert []).length = _
    rw [(WideShapes.sorted_perm _).length_eq]
    simp [hsz]
theorem keys_any (mb : Option Nat) (W : World) : Calls Tryz.prog 34 #[.map mb] W fun e w' => e = .returned (.func (.func 53) #[] #[.pointer (some ⟨W.heap.size, 0, none⟩)]) ∧ w' = W.alloc (.cells #[.map mb] 62) :=
  callsIn_wide.1 (Tryz.maps_Keys_34 mb W)
theorem sortedKeys_any {V : Type} {ev : V → Value} {w : World} {b : Nat} {M : List (ByteArray × V)} (h : MapAt eStr ev w b M) (hk : ∀ k ∈ akeys M, k.size ≤ 1000000) (hl : M.length ≤ 1000000) :
    Calls Tryz.prog 33 #[.func (.func 53) #[] #[.pointer (some ⟨w.heap.size, 0, none⟩)]] (w.alloc (.cells #[.map (some b)] 62)) fun e w' => ∃ (v : Value) (ks : List ByteArray), e = .returned v ∧ ks.Perm (akeys M) ∧ (ks.map bl).Pairwise (· ≤ ·) ∧
      w'.ownsRow (w.alloc (.cells #[.map (some b)] 62)).heap.size 9 1 v ks.length (ks.map eStr) ∧ Only (fun _ => False) (w.alloc (.cells #[.map (some b)] 62)) w' := by
  have hM : maxLen = 9223372036854775807 := rfl
  obtain ⟨D0, h1, h2, h3⟩ := map_own (P := Tryz.prog) Tryz.underlying9 h (fun k hk' => by have := hk k hk'; omega) (by omega)
  refine (callsIn_wide.1 (Tryz.slices_Sorted_keys_33_34 b M.length D0 anyR w h1 (by omega) (by omega))).mono ?_
  rintro e w' ⟨v, ss, rfl, hp, hrow, _, hbel⟩
  have hperm : (ss.mergeSort (fun x y => decide (x ≤ y))).Perm ((akeys M).map bl) := (List.mergeSort_perm _ _).trans (hp.trans h2)
  refine ⟨v, (ss.mergeSort (fun x y => decide (x ≤ y))).map (fun l => ⟨l.toArray⟩), rfl, ?_, ?_, ?_, Only.of_below hbel⟩
  · have := hperm.map (fun l => (⟨l.toArray⟩ : ByteArray))
    rw [List.map_map] at this
    have e : (akeys M).map ((fun l => (⟨l.toArray⟩ : ByteArray)) ∘ bl) = akeys M := by
      conv => rhs; rw [← List.map_id (akeys M)]
      exact List.map_congr_left fun k _ => by simp [bl]
    rwa [e] at this
  · rw [List.map_map]
    have e : (ss.mergeSort (fun x y => decide (x ≤ y))).map (bl ∘ fun l => (⟨l.toArray⟩ : ByteArray)) = ss.mergeSort (fun x y => decide (x ≤ y)) := by
      conv => rhs; rw [← List.map_id (ss.mergeSort (fun x y => decide (x ≤ y)))]
      exact List.map_congr_left fun k _ => by simp [bl]
    rw [e]
    have := List.pairwise_mergeSort (le := fun x y : List UInt8 => decide (x ≤ y)) (fun a b c h1 h2 => by simp only [decide_eq_true_eq] at *; exact List.le_trans h1 h2) (fun a b => by simp only [Bool.or_eq_true, decide_eq_true_eq]; exact List.le_total a b) ss
    simpa using this
  · have e : ((ss.mergeSort (fun x y => decide (x ≤ y))).map (fun l => (⟨l.toArray⟩ : ByteArray))).map eStr = (ss.mergeSort (fun x y => decide (x ≤ y))).map encStr := by
      rw [List.map_map]
      exact List.map_congr_left fun k _ => by simp [eStr, encStr]
    rw [e]
    simpa using hrow
end Go.Proofs.YteecfjkljmmecaaGreat
