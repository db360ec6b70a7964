/- WALKS: cmp.Compare at texts, cmp.Or, the closure by which accounts are sorted. -/
import Derived.Test.YtoeokakcdfdjkaaBase
import Derived.Test.YtoeokakcdfdjkaaProg
import Derived.Test.YtoeokakcdfdjkaaMod
import Derived.Sort.Grow
import Derived.Shelf.SlSortCmp.Insertion
import Derived.WalkLawsBesides
import Derived.Deep.LoopGhost
import Derived.Lib.Hide
namespace Go.Proofs.Ytoeokakcdfdjkaa
open Go.RowKit Go.Sort
theorem isNaN_any (a : ByteArray) (w : World) : Calls Try.prog 65 #[.string a] w fun e w' => e = .returned (.bool false) ∧ w = w' := by
  go_enter Try.func65, Try.ntmps65
  go_wp2
  go_ret
  exact ⟨by simp, rfl⟩
def scmp (a b : ByteArray) : Int := if Op.bytesLess a.toList b.toList = true then -1 else if a.toList = b.toList then 0 else 1
def ScmpPost (a b : ByteArray) (w : World) (e : Ending) (w' : World) : Prop := e = .returned (.int .i64 (scmp a b)) ∧ w = w'
set_option maxHeartbeats 1000000 in
theorem cmp_any (a b : ByteArray) (w : World) : Calls Try.prog 42 #[.string a, .string b] w (ScmpPost a b w) := by
  go_enter Try.func42, Try.ntmps42
  go_wp2_with (first | (go_at_call 65; refine (isNaN_any _ _).mono ?_; rintro e w' ⟨rfl, rfl⟩))
  · go_ret
    exact ⟨by rw [scmp, if_pos (by assumption)]; rfl, rfl⟩
  · go_ret
    exact ⟨by rw [scmp, if_neg (by simp_all), if_neg (by simp_all)]; rfl, rfl⟩
  · go_ret
    exact ⟨by rw [scmp, if_neg (by simp_all), if_pos (by simp_all)]; rfl, rfl⟩
def firstNot (zs : List Int) : Int := (zs.find? fun z => decide (z ≠ 0)).getD 0
def OrPost (zs : List Int) (w : World) (e : Ending) (w' : World) : Prop := e = .returned (.int .i64 (firstNot zs)) ∧ w = w'
theorem firstNot_at {zs : List Int} {k : Nat} {z : Int} (hz : zs[k]? = some z) (h : ∀ x ∈ zs.take k, x = 0) (hn : z ≠ 0) : firstNot zs = z := by
  obtain ⟨e, hl⟩ := split_at hz
  unfold firstNot
  rw [e, List.find?_append, List.find?_eq_none.2 (by intro x hx; simp [h x hx])]
  simp [hn]
theorem firstNot_none {zs : List Int} (h : ∀ x ∈ zs, x = 0) : firstNot zs = 0 := by
  unfold firstNot
  rw [List.find?_eq_none.2 (by intro x hx; simp [h x hx])]
  rfl
theorem take_snoc_mem {α : Type} {l : List α} {k : Nat} {z x : α} (hz : l[k]? = some z) (hx : x ∈ l.take (k + 1)) : x ∈ l.take k ∨ x = z := by
  rw [List.take_add_one, hz] at hx
  simpa using hx
set_option maxHeartbeats 1000000 in
theorem or_any {g c : Nat} (zs : List Int) (hl : zs.length ≤ 100000) (w : World) (hc : ∀ k z, zs[k]? = some z → w.cell? ⟨g, k, none⟩ = some (.int .i64 z)) : Calls Try.prog 41 #[.slice (some ⟨g, 0, none⟩) zs.length c] w (OrPost zs w) := by
  have hC := Lib.hid hc
  clear hc
  go_enter Try.func41, Try.ntmps41
  go_wp2
  go_loopg [8] (zs.length) (fun m v8 wr => ∃ k : Nat, v8 = .int .i64 (k : Int) ∧ k + m = zs.length ∧ Hid (∀ x ∈ zs.take k, x = 0) ∧ w = wr)
  case atStart => exact ⟨0, rfl, by omega, Lib.hid (by simp), rfl⟩
  case round =>
    obtain ⟨k, rfl, hg, hz, rfl⟩ := hrel
    by_cases hk : k < zs.length
    · obtain ⟨z, hzk⟩ : ∃ z, zs[k]? = some z := ⟨zs[k], List.getElem?_eq_getElem hk⟩
      have hck := hC.out k z hzk
      have hZ := Lib.hid hzk
      clear hzk
      by_cases h0 : z = 0
      · have hb : (z != 0) = false := by simpa using h0
        have hH := Lib.hid h0
        clear h0
        go_wp2
        go_roundg (zs.length - (k + 1))
        case measure => omega
        case rel => exact ⟨k + 1, by simp, by omega, Lib.hid fun x hx => (take_snoc_mem hZ.out hx).elim (hz.out x) fun e => e.trans hH.out, rfl⟩
      · have hb : (z != 0) = true := by simpa using h0
        go_wp2
        go_ret
        exact ⟨by rw [firstNot_at hZ.out hz.out h0]; rfl, rfl⟩
    · go_wp2
      go_ret
      have hall : zs.take k = zs := List.take_of_length_le (by omega)
      have hz' := hz.out
      rw [hall] at hz'
      exact ⟨by rw [firstNot_none hz']; rfl, rfl⟩
def entEnc (e : Ent) : List Value := [.string e.acct, .string e.cur, .int .i64 e.amt]
def entCf (x y : Ent) : Int := firstNot [scmp x.acct y.acct, scmp x.cur y.cur]
def CfPost (n : Int) (W : World) (e : Ending) (w' : World) : Prop := e = .returned (.int .i64 n) ∧ ∃ q os', w' = Sort.grow (W.drewN q) os'
theorem grow3 (w : World) (a b c : Obj) : (((w.alloc a).alloc b).alloc c).drew = Sort.grow (w.drewN 1) #[a, b, c] := by
  rw [alloc_eq_grow, alloc_eq_grow, alloc_eq_grow, grow_grow, grow_grow, drew_grow]; rfl
set_option maxHeartbeats 2000000 in
set_option maxRecDepth 100000 in
theorem accCf_any (x y : Ent) (W : World) : Calls Try.prog 40 #[.agg #[.string x.acct, .string x.cur, .int .i64 x.amt], .agg #[.string y.acct, .string y.cur, .int .i64 y.amt]] W (CfPost (entCf x y) W) := by
  have hfin := Lib.hid (show firstNot [scmp x.acct y.acct, scmp x.cur y.cur] = entCf x y from rfl)
  obtain ⟨x1, x2, x3⟩ := x
  obtain ⟨y1, y2, y3⟩ := y
  simp only at hfin ⊢
  go_enter Try.func40, Try.ntmps40
  go_wp2
  generalize hW1 : ((W.alloc (Obj.cells #[Value.string x1, Value.string x2, Value.int IntKind.i64 x3] 44)).alloc (Obj.cells #[Value.string y1, Value.string y2, Value.int IntKind.i64 y3] 44)) = W1
  have c0 : ∀ V, Only (fun _ => False) W1.drew V → V.cell? ⟨W.heap.size, 0, none⟩ = some (.string x1) := fun V hV => hV.keeps (by subst hW1; go_simp) not_false
  have c1 : ∀ V, Only (fun _ => False) W1.drew V → V.cell? ⟨W.heap.size, 1, none⟩ = some (.string x2) := fun V hV => hV.keeps (by subst hW1; go_simp) not_false
  have c2 : ∀ V, Only (fun _ => False) W1.drew V → V.cell? ⟨W.heap.size + 1, 0, none⟩ = some (.string y1) := fun V hV => hV.keeps (by subst hW1; go_simp) not_false
  have c3 : ∀ V, Only (fun _ => False) W1.drew V → V.cell? ⟨W.heap.size + 1, 1, none⟩ = some (.string y2) := fun V hV => hV.keeps (by subst hW1; go_simp) not_false
  have hO := Lib.hid (fun (V : World) => or_any (g := V.heap.size) (c := 2) [scmp x1 y1, scmp x2 y2] (by simp) ((V.alloc (.cells #[.int .i64 (scmp x1 y1), .int .i64 (scmp x2 y2)] 3)).drew) (fun k z hz => by
    match k, hz with
    | 0, hz => simp at hz; subst hz; go_simp
    | 1, hz => simp at hz; subst hz; go_simp
    | k + 2, hz => simp at hz))
  have hC1 := Lib.hid (fun V => cmp_any x1 y1 V)
  have hC2 := Lib.hid (fun V => cmp_any x2 y2 V)
  have hW := Lib.hid hW1
  clear hW1
  refine wp_region_ord (.read 0 (.read 1 (.read 2 (.read 3 (.read 5 (.read 6 (.read 7 (.read 8 (.turn 4 (.turn 9 (.turn 10 (.turn 11 (.read 12 .stop))))))))))))) (Only (fun _ => False) _) (by kernel_rfl) (by kernel_rfl) (by kernel_rfl) (by first | exact Only.refl _ _ | assumption) ?_
  refine wpOrd_reads (v := ?_) rfl rfl (fun _ _ _ h => h) ?_ ?_
  rotate_left
  · intro W hW; go_simp; try with_reducible rfl
  go_frame
  refine wpOrd_reads (v := ?_) rfl rfl (fun _ _ _ h => h) ?_ ?_
  rotate_left
  · intro W hW; go_simp; try with_reducible rfl
  go_frame
  refine wpOrd_reads (v := ?_) rfl rfl (fun _ _ _ h => h) ?_ ?_
  rotate_left
  · intro W hW; go_simp; try with_reducible rfl
  go_frame
  refine wpOrd_reads (v := ?_) rfl rfl (fun _ _ _ h => h) ?_ ?_
  rotate_left
  · intro W hW; go_simp; try with_reducible rfl
  go_frame
  refine wpOrd_reads (v := ?_) rfl rfl (fun _ _ _ h => h) ?_ ?_
  rotate_left
  · intro W hW; go_simp; try with_reducible rfl
  go_frame
  refine wpOrd_reads (v := ?_) rfl rfl (fun _ _ _ h => h) ?_ ?_
  rotate_left
  · intro W hW; go_simp; try with_reducible rfl
  go_frame
  refine wpOrd_reads (v := ?_) rfl rfl (fun _ _ _ h => h) ?_ ?_
  rotate_left
  · intro W hW; go_simp; try with_reducible rfl
  go_frame
  refine wpOrd_reads (v := ?_) rfl rfl (fun _ _ _ h => h) ?_ ?_
  rotate_left
  · intro W hW; go_simp; try with_reducible rfl
  go_frame
  refine wpOrd_turns rfl ?_
  go_wp2_with (go_at_call 42; refine (hC1.out _).mono ?_; rintro e w' ⟨rfl, rfl⟩)
  refine ⟨Only.refl _ _, ?_⟩
  refine wpOrd_turns rfl ?_
  go_wp2_with (go_at_call 42; refine (hC2.out _).mono ?_; rintro e w' ⟨rfl, rfl⟩)
  refine ⟨Only.refl _ _, ?_⟩
  refine wpOrd_turns rfl ?_
  go_wp2
  refine ⟨(Only.refl _ _).alloc _, ?_⟩
  refine wpOrd_turns rfl ?_
  go_wp2_with (go_at_call 41; refine (hO.out _).mono ?_; rintro e w' ⟨rfl, rfl⟩)
  refine ⟨(Only.refl _ _).alloc _, ?_⟩
  refine wpOrd_reads (v := ?_) rfl rfl (fun _ _ _ h => h) ?_ ?_
  rotate_left
  · intro W hW; go_simp; try with_reducible rfl
  go_frame
  refine wpOrd_nil ?_
  go_wp2
  go_ret
  rw [hfin.out]
  refine ⟨rfl, ?_⟩
  have hw := hW.out
  subst hw
  exact ⟨1, _, grow3 _ _ _ _⟩
end Go.Proofs.Ytoeokakcdfdjkaa
