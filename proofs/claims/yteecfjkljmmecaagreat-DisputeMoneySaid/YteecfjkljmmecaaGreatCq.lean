/- WALKS: cmp.Compare at words, cmp.Or, the closure by which share.Split ranks what is left. -/
import Derived.Test.YteecfjkljmmecaaGreatWr
namespace Go.Proofs.YteecfjkljmmecaaGreat
open Go.RowKit Go.Sort Go.Shelf
theorem nan79 (a : Int) (w : World) : Calls Tryz.prog 79 #[.int .u64 a] w fun e w' => e = .returned (.bool false) ∧ w = w' := by
  go_enter Tryz.func79, Tryz.ntmps79
  go_wp2
  go_ret
  exact ⟨by simp, rfl⟩
set_option maxHeartbeats 1000000 in
theorem cmp47 (a b : Int) (w : World) : Calls Tryz.prog 47 #[.int .u64 a, .int .u64 b] w (IntPost (icmp a b) w) := by
  have hd : (a < b ∧ icmp a b = -1) ∨ (b < a ∧ ¬ a < b ∧ icmp a b = 1) ∨ (¬ a < b ∧ ¬ b < a ∧ icmp a b = 0) := by unfold icmp; omega
  go_enter Tryz.func47, Tryz.ntmps47
  rcases hd with ⟨h1, h2⟩ | ⟨h1, h3, h2⟩ | ⟨h1, h3, h2⟩ <;> have H := Lib.hid h2 <;> clear h2
  all_goals
    go_wp2_with (first | (go_at_call 79; refine (nan79 _ _).mono ?_; rintro e w' ⟨rfl, rfl⟩))
    go_ret
    exact ⟨by rw [H.out]; rfl, rfl⟩
def firstNot (zs : List Int) : Int := (zs.find? fun z => decide (z ≠ 0)).getD 0
def OrPost (zs : List Int) (w : World) (e : Ending) (w' : World) : Prop := e = .returned (.int .i64 (firstNot zs)) ∧ w = w'
theorem firstNot_at {zs : List Int} {k : Nat} {z : Int} (hz : zs[k]? = some z) (h : ∀ x ∈ zs.take k, x = 0) (hn : z ≠ 0) : firstNot zs = z := by
  have hk : k < zs.length := (List.getElem?_eq_some_iff.1 hz).1
  have e : zs = zs.take k ++ z :: zs.drop (k + 1) := by
    have hd : zs.drop k = z :: zs.drop (k + 1) := by
      rw [List.drop_eq_getElem_cons hk]
      rw [List.getElem?_eq_getElem hk] at hz
      injection hz with hz
      rw [hz]
    rw [← hd, List.take_append_drop]
  unfold firstNot
  rw [e, List.find?_append, List.find?_eq_none.2 (by intro x hx; simp [h x hx])]
  simp [hn]
theorem firstNot_none {zs : List Int} (h : ∀ x ∈ zs, x = 0) : firstNot zs = 0 := by
  unfold firstNot
  rw [List.find?_eq_none.2 (by intro x hx; simp [h x hx])]
  rfl
theorem take_snoc_mem {α : Type} {l : List α} {k : Nat} {z x : α} (hz : l[k]? = some z) (hx : x ∈ l.take (k + 1)) : x ∈ l.take k ∨ x = z := by
  rw [List.take_add_one, hz] at hx
  simpa using hx
set_option maxHeartbeats 1000000 in
theorem or_any {g c : Nat} (zs : List Int) (hl : zs.length ≤ 100000) (w : World) (hc : ∀ k z, zs[k]? = some z → w.cell? ⟨g, k, none⟩ = some (.int .i64 z)) : Calls Tryz.prog 46 #[.slice (some ⟨g, 0, none⟩) zs.length c] w (OrPost zs w) := by
  have hC := Lib.hid hc
  clear hc
  go_enter Tryz.func46, Tryz.ntmps46
  go_wp2
  go_loopg [8] (zs.length) (fun m v8 wr => ∃ k : Nat, v8 = .int .i64 (k : Int) ∧ k + m = zs.length ∧ Hid (∀ x ∈ zs.take k, x = 0) ∧ w = wr)
  case atStart => exact ⟨0, rfl, by omega, Lib.hid (by simp), rfl⟩
  case round =>
    obtain ⟨k, rfl, hg, hz, rfl⟩ := hrel
    by_cases hk : k < zs.length
    · obtain ⟨z, hzk⟩ : ∃ z, zs[k]? = some z := ⟨zs[k], List.getElem?_eq_getElem hk⟩
      have hck := hC.out k z hzk
      have hZ := Lib.hid hzk
      clear hzk
      by_cases h0 : z = 0
      · have hb : (z != 0) = false := by simpa using h0
        have hH := Lib.hid h0
        clear h0
        go_wp2
        go_roundg (zs.length - (k + 1))
        case measure => omega
        case rel => exact ⟨k + 1, by simp, by omega, Lib.hid fun x hx => (take_snoc_mem hZ.out hx).elim (hz.out x) fun e => e.trans hH.out, rfl⟩
      · have hb : (z != 0) = true := by simpa using h0
        go_wp2
        go_ret
        exact ⟨by rw [firstNot_at hZ.out hz.out h0]; rfl, rfl⟩
    · go_wp2
      go_ret
      have hall : zs.take k = zs := List.take_of_length_le (by omega)
      have hz' := hz.out
      rw [hall] at hz'
      exact ⟨by rw [firstNot_none hz']; rfl, rfl⟩
def restCf (ra rb : Int) (a b : Nat) : Int := firstNot [icmp rb ra, icmp a b]
theorem grow1 (w : World) (a : Obj) : (w.alloc a).drew = Sort.grow (w.drewN 1) #[a] := by
  rw [alloc_eq_grow, drew_grow]; rfl
def CfPost (n : Int) (W : World) (e : Ending) (w' : World) : Prop := e = .returned (.int .i64 n) ∧ ∃ q os', w' = Sort.grow (W.drewN q) os'
set_option maxHeartbeats 2000000 in
set_option maxRecDepth 100000 in
theorem restCf_any (pb rg n cap a b : Nat) (ra rb : Int) (W : World) (ha : a < n) (hb : b < n) (hp : W.cell? ⟨pb, 0, none⟩ = some (.slice (some ⟨rg, 0, none⟩) n cap)) (hra : W.cell? ⟨rg, a, none⟩ = some (.int .u64 ra)) (hrb : W.cell? ⟨rg, b, none⟩ = some (.int .u64 rb)) :
    Calls Tryz.prog 45 #[.int .i64 (a : Int), .int .i64 (b : Int), .pointer (some ⟨pb, 0, none⟩)] W (CfPost (restCf ra rb a b) W) := by
  have hfin := Lib.hid (show firstNot [icmp rb ra, icmp a b] = restCf ra rb a b from rfl)
  have c0 : ∀ V, Only (fun _ => False) W.drew V → V.cell? ⟨pb, 0, none⟩ = some (.slice (some ⟨rg, 0, none⟩) n cap) := fun V hV => hV.keeps hp not_false
  have c1 : ∀ V, Only (fun _ => False) W.drew V → V.cell? ⟨rg, a, none⟩ = some (.int .u64 ra) := fun V hV => hV.keeps hra not_false
  have c2 : ∀ V, Only (fun _ => False) W.drew V → V.cell? ⟨rg, b, none⟩ = some (.int .u64 rb) := fun V hV => hV.keeps hrb not_false
  have hO := Lib.hid (fun (V : World) => or_any (g := V.heap.size) (c := 2) [icmp rb ra, icmp a b] (by simp) ((V.alloc (.cells #[.int .i64 (icmp rb ra), .int .i64 (icmp a b)] 3)).drew) (fun k z hz => by
    match k, hz with
    | 0, hz => simp at hz; subst hz; go_simp
    | 1, hz => simp at hz; subst hz; go_simp
    | k + 2, hz => simp at hz))
  have hC1 := Lib.hid (fun V => cmp47 rb ra V)
  have hC2 := Lib.hid (fun V => cmp48 a b V)
  clear hp hra hrb
  go_enter Tryz.func45, Tryz.ntmps45
  go_wp2
  refine wp_region_ord (.read 0 (.read 1 (.read 2 (.read 3 (.read 4 (.read 5 (.read 6 (.read 7 (.read 9 (.read 10 (.turn 8 (.turn 11 (.turn 12 (.turn 13 (.read 14 .stop))))))))))))))) (Only (fun _ => False) _) (by kernel_rfl) (by kernel_rfl) (by kernel_rfl) (by first | exact Only.refl _ _ | assumption) ?_
  refine wpOrd_reads (v := ?_) rfl rfl (fun _ _ _ h => h) ?_ ?_
  rotate_left
  · intro W hW; go_simp; try with_reducible rfl
  go_frame
  refine wpOrd_reads (v := ?_) rfl rfl (fun _ _ _ h => h) ?_ ?_
  rotate_left
  · intro W hW; go_simp; try with_reducible rfl
  go_frame
  refine wpOrd_reads (v := ?_) rfl rfl (fun _ _ _ h => h) ?_ ?_
  rotate_left
  · intro W hW; go_simp; try with_reducible rfl
  go_frame
  refine wpOrd_reads (v := ?_) rfl rfl (fun _ _ _ h => h) ?_ ?_
  rotate_left
  · intro W hW; go_simp; try with_reducible rfl
  go_frame
  refine wpOrd_reads (v := ?_) rfl rfl (fun _ _ _ h => h) ?_ ?_
  rotate_left
  · intro W hW; go_simp; try with_reducible rfl
  go_frame
  refine wpOrd_reads (v := ?_) rfl rfl (fun _ _ _ h => h) ?_ ?_
  rotate_left
  · intro W hW; go_simp; try with_reducible rfl
  go_frame
  refine wpOrd_reads (v := ?_) rfl rfl (fun _ _ _ h => h) ?_ ?_
  rotate_left
  · intro W hW; go_simp; try with_reducible rfl
  go_frame
  refine wpOrd_reads (v := ?_) rfl rfl (fun _ _ _ h => h) ?_ ?_
  rotate_left
  · intro W hW; go_simp; try with_reducible rfl
  go_frame
  refine wpOrd_reads (v := ?_) rfl rfl (fun _ _ _ h => h) ?_ ?_
  rotate_left
  · intro W hW; go_simp; try with_reducible rfl
  go_frame
  refine wpOrd_reads (v := ?_) rfl rfl (fun _ _ _ h => h) ?_ ?_
  rotate_left
  · intro W hW; go_simp; try with_reducible rfl
  go_frame
  refine wpOrd_turns rfl ?_
  go_wp2_with (go_at_call 47; refine (hC1.out _).mono ?_; rintro e w' ⟨rfl, rfl⟩)
  refine ⟨Only.refl _ _, ?_⟩
  refine wpOrd_turns rfl ?_
  go_wp2_with (go_at_call 48; refine (hC2.out _).mono ?_; rintro e w' ⟨rfl, rfl⟩)
  refine ⟨Only.refl _ _, ?_⟩
  refine wpOrd_turns rfl ?_
  go_wp2
  refine ⟨(Only.refl _ _).alloc _, ?_⟩
  refine wpOrd_turns rfl ?_
  go_wp2_with (go_at_call 46; refine (hO.out _).mono ?_; rintro e w' ⟨rfl, rfl⟩)
  refine ⟨(Only.refl _ _).alloc _, ?_⟩
  refine wpOrd_reads (v := ?_) rfl rfl (fun _ _ _ h => h) ?_ ?_
  rotate_left
  · intro W hW; go_simp; try with_reducible rfl
  go_frame
  refine wpOrd_nil ?_
  go_wp2
  go_ret
  rw [hfin.out]
  refine ⟨rfl, ?_⟩
  exact ⟨1, _, grow1 _ _⟩
end Go.Proofs.YteecfjkljmmecaaGreat
