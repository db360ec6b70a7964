/- WALKS: the small functions of the ledger. -/
import Derived.Test.YtoeokakcdfdjkaaLay
import Derived.Lib.Hide
namespace Go.Proofs.Ytoeokakcdfdjkaa
open Go.RowKit

set_option maxHeartbeats 400000 in
theorem free_any (fl bl hl : Int) (w : World) (h0 : -1099511627776 ≤ fl) (h1 : fl ≤ 0) (h2 : -4398046511104 ≤ bl) (h3 : bl ≤ 4398046511104) (h4 : 0 ≤ hl) (h5 : hl ≤ 4398046511104) :
    Calls Try.prog 32 #[.agg #[.int .i64 fl, .int .i64 bl, .int .i64 hl]] w fun e w' => e = .returned (.int .i64 (bl - hl - fl)) ∧ Only (fun _ => False) w w' := by
  go_enter Try.func32, Try.ntmps32
  go_wp2
  go_ret
  exact ⟨rfl, (Only.refl _ _).alloc _⟩

set_option maxHeartbeats 400000 in
theorem new_any (s : ByteArray) (w : World) :
    Calls Try.prog 28 #[.string s] w fun e w' => e = .returned (.pointer (some ⟨w.heap.size + 2, 0, none⟩)) ∧ LAt w' ⟨w.heap.size + 2, w.heap.size, w.heap.size + 1, s, .slice none 0 0⟩ ⟨[], [], []⟩ ∧ Only (fun _ => False) w w' := by
  have hmm := @run_makeMap Try.prog
  go_enter Try.func28, Try.ntmps28
  go_wp2
  go_ret
  refine ⟨rfl, ⟨?_, ?_, ?_, by show w.heap.size ≠ w.heap.size + 1; omega, [], rfl, ⟨rfl, .inl ⟨rfl, rfl⟩⟩, by simp⟩, (((Only.refl _ _).alloc _).alloc _).alloc _⟩
  · have := (MapKept.heap_alloc ((w.alloc (.map #[] 0)).alloc (.map #[] 0)) (.cells #[.string s, .map (some w.heap.size), .slice none 0 0, .map (some (w.heap.size + 1))] 75)).1
    simpa using this
  · exact (MapAt.made w).only (((Only.refl (fun _ => False) _).alloc _).alloc _) id
  · have := MapAt.made (ek := eStr) (ev := eHold) (w.alloc (.map #[] 0))
    have := this.only ((Only.refl (fun _ => False) _).alloc (.cells #[.string s, .map (some w.heap.size), .slice none 0 0, .map (some (w.heap.size + 1))] 75)) id
    simpa using this

section
variable {w : World} {l : Loc} {S : Led}

set_option maxHeartbeats 400000 in
theorem balance_any (h : LAt w l S) (k1 k2 : ByteArray) :
    Calls Try.prog 15 #[.pointer (some ⟨l.lb, 0, none⟩), .string k1, .string k2] w fun e w' => e = .returned (.tuple #[.int .i64 (acctOr S.A (k1, k2)).bal, .bool (aget S.A (k1, k2)).isSome]) ∧ Only (fun _ => False) w w' := by
  obtain ⟨c0, c1, c2, c3⟩ := h.c
  have hl := look_acct h.accts k1 k2 true
  simp only [if_true, eAcct] at hl
  generalize acctOr S.A (k1, k2) = r at hl ⊢
  generalize (aget S.A (k1, k2)).isSome = ok at hl ⊢
  clear h
  go_enter Try.func15, Try.ntmps15
  go_wp2
  go_ret2
  exact ⟨rfl, (Only.refl _ _).alloc _⟩

set_option maxHeartbeats 400000 in
theorem freeOf_any (h : LAt w l S) (G : Good S) (k1 k2 : ByteArray) :
    Calls Try.prog 18 #[.pointer (some ⟨l.lb, 0, none⟩), .string k1, .string k2] w fun e w' => e = .returned (.tuple #[.int .i64 (acctOr S.A (k1, k2)).free, .bool (aget S.A (k1, k2)).isSome]) ∧ Only (fun _ => False) w w' := by
  obtain ⟨c0, c1, c2, c3⟩ := h.c
  have hl := look_acct h.accts k1 k2 true
  have hb := G.bounds (k1, k2)
  simp only [if_true, eAcct] at hl
  unfold Acct.free at hb ⊢
  have hM : maxA = 1099511627776 := rfl
  rw [hM] at hb
  clear hM
  generalize acctOr S.A (k1, k2) = r at hl hb ⊢
  generalize (aget S.A (k1, k2)).isSome = ok at hl ⊢
  clear h G
  obtain ⟨fl, bl, hd⟩ := r
  simp only at hl hb ⊢
  have hc := fun W => free_any fl bl hd W (by omega) (by omega) (by omega) (by omega) (by omega) (by omega)
  have hC := Lib.hid hc
  clear hb hc
  go_enter Try.func18, Try.ntmps18
  go_wp2_with (go_at_call 32; refine (hC.out _).mono ?_; rintro e w1 ⟨rfl, ho⟩)
  go_ret2
  exact ⟨rfl, ((Only.refl _ _).alloc _).trans ho (fun _ _ h => h)⟩

set_option maxHeartbeats 400000 in
theorem put_any (h : LAt w l S) (k1 k2 : ByteArray) (fl : Int) :
    Calls Try.prog 35 #[.pointer (some ⟨l.lb, 0, none⟩), .agg #[.string k1, .string k2], .int .i64 fl] w fun e w' => e = .returned (.tuple #[]) ∧ LAt w' l { S with A := aput S.A (k1, k2) ⟨fl, 0, 0⟩ } ∧ Only (fun i => i = l.ab) w w' := by
  obtain ⟨c0, c1, c2, c3⟩ := h.c
  have hlt := h.accts.lt
  go_enter Try.func35, Try.ntmps35
  go_wp2
  have hc1 : ∀ W, Only (fun i => i = l.ab) (w.alloc (.cells #[.string k1, .string k2] 68)).drew W → W.cell? ⟨l.lb, 1, none⟩ = some (.map (some l.ab)) := fun W hW => hW.keeps (((Only.refl (fun _ => False) w).alloc _).drew.keeps c1 id) h.ne_ab
  have hc4 : ∀ W, Only (fun i => i = l.ab) (w.alloc (.cells #[.string k1, .string k2] 68)).drew W → W.cell? ⟨w.heap.size, 0, none⟩ = some (.string k1) := fun W hW => hW.keeps (by go_simp) (fun e => by simp only at e; omega)
  have hc5 : ∀ W, Only (fun i => i = l.ab) (w.alloc (.cells #[.string k1, .string k2] 68)).drew W → W.cell? ⟨w.heap.size, 1, none⟩ = some (.string k2) := fun W hW => hW.keeps (by go_simp) (fun e => by simp only at e; omega)
  refine wp_region_ord (.read 0 (.read 1 (.read 2 (.read 3 (.read 4 (.read 5 (.read 6 (.turn 7 .stop)))))))) (Only (fun i => i = l.ab) _) (by kernel_rfl) (by kernel_rfl) (by kernel_rfl) (by first | exact Only.refl _ _ | assumption) ?_
  refine wpOrd_reads (v := ?_) rfl rfl (fun _ _ _ h => h) ?_ ?_
  rotate_left
  · intro W hW; go_simp; try with_reducible rfl
  go_frame
  refine wpOrd_reads (v := ?_) rfl rfl (fun _ _ _ h => h) ?_ ?_
  rotate_left
  · intro W hW; go_simp; try with_reducible rfl
  go_frame
  refine wpOrd_reads (v := ?_) rfl rfl (fun _ _ _ h => h) ?_ ?_
  rotate_left
  · intro W hW; go_simp; try with_reducible rfl
  go_frame
  refine wpOrd_reads (v := ?_) rfl rfl (fun _ _ _ h => h) ?_ ?_
  rotate_left
  · intro W hW; go_simp; try with_reducible rfl
  go_frame
  refine wpOrd_reads (v := ?_) rfl rfl (fun _ _ _ h => h) ?_ ?_
  rotate_left
  · intro W hW; go_simp; try with_reducible rfl
  go_frame
  refine wpOrd_reads (v := ?_) rfl rfl (fun _ _ _ h => h) ?_ ?_
  rotate_left
  · intro W hW; go_simp; try with_reducible rfl
  go_frame
  refine wpOrd_reads (v := ?_) rfl rfl (fun _ _ _ h => h) ?_ ?_
  rotate_left
  · intro W hW; go_simp; try with_reducible rfl
  go_frame
  refine wpOrd_turns rfl ?_
  refine wpList_store_map rfl _ _ _ 72 70 rfl kOps Try.underlying72 l.ab S.A (h.accts.only ((Only.refl (fun _ => False) w).alloc _).drew id) rfl (k1, k2) ⟨fl, 0, 0⟩ rfl rfl ?_
  intro w1 hM1 ho1 hs1
  refine wpList_nil ⟨ho1, ?_⟩
  refine wpOrd_nil ?_
  go_wp2
  go_end0
  have hq := h.quiet ((Only.refl (fun _ => False) w).alloc (.cells #[.string k1, .string k2] 68)).drew
  exact ⟨rfl, hq.putA ho1 hM1, (((Only.refl _ _).alloc _).drew).trans ho1 (fun _ _ h => h)⟩

set_option maxHeartbeats 1000000 in
theorem keep_any (h : LAt w l S) (k1 k2 : ByteArray) (more : Int) (hb : -9000000000000000000 ≤ (acctOr S.A (k1, k2)).held + more ∧ (acctOr S.A (k1, k2)).held + more ≤ 9000000000000000000) :
    Calls Try.prog 33 #[.pointer (some ⟨l.lb, 0, none⟩), .agg #[.string k1, .string k2], .int .i64 more] w fun e w' => e = .returned (.tuple #[]) ∧ LAt w' l { S with A := keepL S.A (k1, k2) more } ∧ Only (fun i => i = l.ab) w w' := by
  obtain ⟨c0, c1, c2, c3⟩ := h.c
  have hlt := h.accts.lt
  have hkl : keepL S.A (k1, k2) more = aput S.A (k1, k2) ⟨(acctOr S.A (k1, k2)).floor, (acctOr S.A (k1, k2)).bal, (acctOr S.A (k1, k2)).held + more⟩ := rfl
  rw [hkl]
  have hlk : ∀ W, Only (fun _ => False) w W → (Instr.lookup 72 (.map (some l.ab)) (.agg #[.string k1, .string k2]) false).run Try.prog W = .ok (.agg #[.int .i64 (acctOr S.A (k1, k2)).floor, .int .i64 (acctOr S.A (k1, k2)).bal, .int .i64 (acctOr S.A (k1, k2)).held]) W := fun W hW => look_acct (h.accts.only hW id) k1 k2 false
  generalize acctOr S.A (k1, k2) = r at hb hlk ⊢
  clear hkl
  obtain ⟨fl, bl, hd⟩ := r
  simp only at hb hlk ⊢
  obtain ⟨hb1, hb2⟩ := hb
  go_enter Try.func33, Try.ntmps33
  go_wp2
  have ho0 := ((Only.refl (fun _ => False) w).alloc (.cells #[.string k1, .string k2] 68)).drew
  have hc1 : ∀ W, Only (fun _ => False) (w.alloc (.cells #[.string k1, .string k2] 68)).drew W → W.cell? ⟨l.lb, 1, none⟩ = some (.map (some l.ab)) := fun W hW => hW.keeps (ho0.keeps c1 id) id
  have hc4 : ∀ W, Only (fun _ => False) (w.alloc (.cells #[.string k1, .string k2] 68)).drew W → W.cell? ⟨w.heap.size, 0, none⟩ = some (.string k1) := fun W hW => hW.keeps (by go_simp) id
  have hc5 : ∀ W, Only (fun _ => False) (w.alloc (.cells #[.string k1, .string k2] 68)).drew W → W.cell? ⟨w.heap.size, 1, none⟩ = some (.string k2) := fun W hW => hW.keeps (by go_simp) id
  have hlk' : ∀ W, Only (fun _ => False) (w.alloc (.cells #[.string k1, .string k2] 68)).drew W → (Instr.lookup 72 (.map (some l.ab)) (.agg #[.string k1, .string k2]) false).run Try.prog W = .ok (.agg #[.int .i64 fl, .int .i64 bl, .int .i64 hd]) W := fun W hW => hlk W (ho0.trans hW fun _ _ h => h)
  clear hlk
  refine wp_region_ord (.read 0 (.read 1 (.read 2 (.read 3 (.read 4 (.read 5 (.turn 6 (.turn 7 .stop)))))))) (Only (fun _ => False) _) (by kernel_rfl) (by kernel_rfl) (by kernel_rfl) (by first | exact Only.refl _ _ | assumption) ?_
  refine wpOrd_reads (v := ?_) rfl rfl (fun _ _ _ h => h) ?_ ?_
  rotate_left
  · intro W hW; go_simp; try with_reducible rfl
  go_frame
  refine wpOrd_reads (v := ?_) rfl rfl (fun _ _ _ h => h) ?_ ?_
  rotate_left
  · intro W hW; go_simp; try with_reducible rfl
  go_frame
  refine wpOrd_reads (v := ?_) rfl rfl (fun _ _ _ h => h) ?_ ?_
  rotate_left
  · intro W hW; go_simp; try with_reducible rfl
  go_frame
  refine wpOrd_reads (v := ?_) rfl rfl (fun _ _ _ h => h) ?_ ?_
  rotate_left
  · intro W hW; go_simp; try with_reducible rfl
  go_frame
  refine wpOrd_reads (v := ?_) rfl rfl (fun _ _ _ h => h) ?_ ?_
  rotate_left
  · intro W hW; go_simp; try with_reducible rfl
  go_frame
  refine wpOrd_reads (v := ?_) rfl rfl (fun _ _ _ h => h) ?_ ?_
  rotate_left
  · intro W hW; go_simp; try with_reducible rfl
  go_frame
  refine wpOrd_turns rfl ?_
  go_wp2
  refine ⟨(Only.refl _ _).alloc _, ?_⟩
  refine wpOrd_turns rfl ?_
  go_wp2
  refine ⟨(Only.refl _ _).alloc _, ?_⟩
  refine wpOrd_nil ?_
  go_wp2
  generalize hw2 : ((w.alloc (Obj.cells #[Value.string k1, Value.string k2] 68)).alloc (Obj.cells #[Value.int IntKind.i64 fl, Value.int IntKind.i64 bl, Value.int IntKind.i64 (hd + more)] 70)).drew = w2
  have ho2 : Only (fun _ => False) w w2 := hw2 ▸ (((Only.refl (fun _ => False) w).alloc _).alloc _).drew
  have hd1 : w2.cell? ⟨l.lb, 1, none⟩ = some (.map (some l.ab)) := ho2.keeps c1 id
  have hd2 : w2.cell? ⟨w.heap.size, 0, none⟩ = some (.string k1) := by subst hw2; go_simp
  have hd3 : w2.cell? ⟨w.heap.size, 1, none⟩ = some (.string k2) := by subst hw2; go_simp
  have hd4 : w2.cell? ⟨w.heap.size + 1, 0, none⟩ = some (.int .i64 fl) := by subst hw2; go_simp
  have hd5 : w2.cell? ⟨w.heap.size + 1, 1, none⟩ = some (.int .i64 bl) := by subst hw2; go_simp
  have hd6 : w2.cell? ⟨w.heap.size + 1, 2, none⟩ = some (.int .i64 (hd + more)) := by subst hw2; go_simp
  clear hw2 hc1 hc4 hc5 hlk'
  have hc1 : ∀ W, Only (fun i => i = l.ab) w2.drew W → W.cell? ⟨l.lb, 1, none⟩ = some (.map (some l.ab)) := fun W hW => hW.keeps hd1 h.ne_ab
  have hc2 : ∀ W, Only (fun i => i = l.ab) w2.drew W → W.cell? ⟨w.heap.size, 0, none⟩ = some (.string k1) := fun W hW => hW.keeps hd2 (fun e => by simp only at e; omega)
  have hc3 : ∀ W, Only (fun i => i = l.ab) w2.drew W → W.cell? ⟨w.heap.size, 1, none⟩ = some (.string k2) := fun W hW => hW.keeps hd3 (fun e => by simp only at e; omega)
  have hc4 : ∀ W, Only (fun i => i = l.ab) w2.drew W → W.cell? ⟨w.heap.size + 1, 0, none⟩ = some (.int .i64 fl) := fun W hW => hW.keeps hd4 (fun e => by simp only at e; omega)
  have hc5 : ∀ W, Only (fun i => i = l.ab) w2.drew W → W.cell? ⟨w.heap.size + 1, 1, none⟩ = some (.int .i64 bl) := fun W hW => hW.keeps hd5 (fun e => by simp only at e; omega)
  have hc6 : ∀ W, Only (fun i => i = l.ab) w2.drew W → W.cell? ⟨w.heap.size + 1, 2, none⟩ = some (.int .i64 (hd + more)) := fun W hW => hW.keeps hd6 (fun e => by simp only at e; omega)
  refine wp_region_ord (.read 0 (.read 1 (.read 2 (.read 3 (.read 4 (.read 5 (.turn 6 .stop))))))) (Only (fun i => i = l.ab) _) (by kernel_rfl) (by kernel_rfl) (by kernel_rfl) (by first | exact Only.refl _ _ | assumption) ?_
  refine wpOrd_reads (v := ?_) rfl rfl (fun _ _ _ h => h) ?_ ?_
  rotate_left
  · intro W hW; go_simp; try with_reducible rfl
  go_frame
  refine wpOrd_reads (v := ?_) rfl rfl (fun _ _ _ h => h) ?_ ?_
  rotate_left
  · intro W hW; go_simp; try with_reducible rfl
  go_frame
  refine wpOrd_reads (v := ?_) rfl rfl (fun _ _ _ h => h) ?_ ?_
  rotate_left
  · intro W hW; go_simp; try with_reducible rfl
  go_frame
  refine wpOrd_reads (v := ?_) rfl rfl (fun _ _ _ h => h) ?_ ?_
  rotate_left
  · intro W hW; go_simp; try with_reducible rfl
  go_frame
  refine wpOrd_reads (v := ?_) rfl rfl (fun _ _ _ h => h) ?_ ?_
  rotate_left
  · intro W hW; go_simp; try with_reducible rfl
  go_frame
  refine wpOrd_reads (v := ?_) rfl rfl (fun _ _ _ h => h) ?_ ?_
  rotate_left
  · intro W hW; go_simp; try with_reducible rfl
  go_frame
  refine wpOrd_turns rfl ?_
  refine wpList_store_map rfl _ _ _ 72 70 rfl kOps Try.underlying72 l.ab S.A (h.accts.only ho2.drew id) rfl (k1, k2) ⟨fl, bl, hd + more⟩ rfl rfl ?_
  intro w3 hM3 ho3 hs3
  refine wpList_nil ⟨ho3, ?_⟩
  refine wpOrd_nil ?_
  go_wp2
  go_end0
  exact ⟨rfl, (h.quiet ho2.drew).putA ho3 hM3, ho2.drew.andThen ho3⟩

set_option maxHeartbeats 1000000 in
theorem less_any (h : LAt w l S) (id acct cur : ByteArray) (amt n : Int) (hb : -9000000000000000000 ≤ (acctOr S.A (acct, cur)).held + -n ∧ (acctOr S.A (acct, cur)).held + -n ≤ 9000000000000000000)
    (hn : -2000000000000000000 ≤ n ∧ n ≤ 2000000000000000000 ∧ -2000000000000000000 ≤ amt ∧ amt ≤ 2000000000000000000) :
    Calls Try.prog 36 #[.pointer (some ⟨l.lb, 0, none⟩), .agg #[.string id, .string acct, .string cur, .int .i64 amt], .int .i64 n] w fun e w' => e = .returned (.tuple #[]) ∧ LAt w' l (lessM S ⟨id, acct, cur, amt⟩ n) ∧ Only (fun i => i = l.ab ∨ i = l.hb) w w' := by
  have hC := Lib.hid (keep_any (h.quiet ((Only.refl (fun _ => False) w).alloc (.cells #[.string id, .string acct, .string cur, .int .i64 amt] 66))) acct cur (-n) hb)
  have hab := h.accts.lt
  have hhb := h.holds.lt
  obtain ⟨hn1, hn2, hn3, hn4⟩ := hn
  clear hb
  go_enter Try.func36, Try.ntmps36
  go_wp2_with (go_at_call 33; refine (hC.out).mono ?_; rintro e w1 ⟨rfl, hL1, ho1⟩; have hs1 := ho1.size; simp at hs1; have hd0 : w1.cell? ⟨w.heap.size, 0, none⟩ = some (.string id) := ho1.keeps (by simp) (fun e => by simp only at e; omega); have hd1 : w1.cell? ⟨w.heap.size, 1, none⟩ = some (.string acct) := ho1.keeps (by simp) (fun e => by simp only at e; omega); have hd2 : w1.cell? ⟨w.heap.size, 2, none⟩ = some (.string cur) := ho1.keeps (by simp) (fun e => by simp only at e; omega); have hd3 : w1.cell? ⟨w.heap.size, 3, none⟩ = some (.int .i64 amt) := ho1.keeps (by simp) (fun e => by simp only at e; omega); have hf3 : w1.frozen? ⟨w.heap.size, 3, none⟩ = false := (ho1.frozen (by simp) (fun e => by simp only at e; omega)).trans (by simp))
  · have ht : amt - n = 0 := by
      have : (amt - n == 0) = true := by assumption
      exact eq_of_beq this
    have hT := Lib.hid ht
    clear ht
    have ho2 : Only (fun i => i = l.ab) w (w1.setCell ⟨w.heap.size, 3, none⟩ (.int .i64 (amt - n))) := (((Only.refl (fun _ => False) w).alloc _).andThen ho1).setCell (fun hlt => absurd hlt (by simp)) _
    have ho3 : Only (fun i => i = l.ab) (w.alloc (.cells #[.string id, .string acct, .string cur, .int .i64 amt] 66)) w1 := ho1
    have hL2 := hL1.store (p := ⟨w.heap.size, 3, none⟩) (.int .i64 (amt - n)) (fun hF => by have := h.F_lt (S := S) hF; simp only at this; omega) (ho1.heap (k := w.heap.size) (MapKept.heap_alloc w (.cells #[.string id, .string acct, .string cur, .int .i64 amt] 66)).1 (fun e => by omega)) (by decide)
    generalize hw2 : w1.setCell ⟨w.heap.size, 3, none⟩ (.int .i64 (amt - n)) = w2 at ho2 hL2 ⊢
    have e0 : w2.cell? ⟨w.heap.size, 0, none⟩ = some (.string id) := by subst hw2; go_simp
    have e1 : w2.cell? ⟨w.heap.size, 1, none⟩ = some (.string acct) := by subst hw2; go_simp
    have e2 : w2.cell? ⟨w.heap.size, 2, none⟩ = some (.string cur) := by subst hw2; go_simp
    have e3 : w2.cell? ⟨w.heap.size, 3, none⟩ = some (.int .i64 (amt - n)) := by subst hw2; go_simp
    clear hw2 hd0 hd1 hd2 hd3 hf3 ho3 ho1 hL1 hs1
    obtain ⟨c0, c1, c2, c3⟩ := hL2.c
    have hneb := h.ne_hb
    have hc1 : ∀ W, Only (fun i => i = l.hb) w2.drew W → W.cell? ⟨l.lb, 3, none⟩ = some (.map (some l.hb)) := fun W hW => hW.keeps c3 hneb
    have hc2 : ∀ W, Only (fun i => i = l.hb) w2.drew W → W.cell? ⟨w.heap.size, 0, none⟩ = some (.string id) := fun W hW => hW.keeps e0 (fun e => by simp only at e; omega)
    refine wp_region_ord (.read 0 (.read 1 (.read 2 (.read 3 (.read 4 (.read 5 (.turn 6 .stop))))))) (Only (fun i => i = l.hb) _) (by kernel_rfl) (by kernel_rfl) (by kernel_rfl) (by first | exact Only.refl _ _ | assumption) ?_
    refine wpOrd_reads (v := ?_) rfl rfl (fun _ _ _ h => h) ?_ ?_
    rotate_left
    · intro W hW; go_simp; try with_reducible rfl
    go_frame
    refine wpOrd_reads (v := ?_) rfl rfl (fun _ _ _ h => h) ?_ ?_
    rotate_left
    · intro W hW; go_simp; try with_reducible rfl
    go_frame
    refine wpOrd_reads (v := ?_) rfl rfl (fun _ _ _ h => h) ?_ ?_
    rotate_left
    · intro W hW; go_simp; try with_reducible rfl
    go_frame
    refine wpOrd_reads (v := ?_) rfl rfl (fun _ _ _ h => h) ?_ ?_
    rotate_left
    · intro W hW; go_simp; try with_reducible rfl
    go_frame
    refine wpOrd_reads (v := ?_) rfl rfl (fun _ _ _ h => h) ?_ ?_
    rotate_left
    · intro W hW; go_simp; try with_reducible rfl
    go_frame
    refine wpOrd_reads (v := ?_) rfl rfl (fun _ _ _ h => h) ?_ ?_
    rotate_left
    · intro W hW; go_simp; try with_reducible rfl
    go_frame
    refine wpOrd_turns rfl ?_
    refine wpList_delete_map rfl _ _ 73 66 rfl sOps Try.underlying73 l.hb S.H (hL2.holds.only ((Only.refl (fun _ => False) w2).drew) not_false) rfl id rfl ?_
    intro w3 hM3 ho3 hs3
    refine wpList_nil ⟨ho3, ?_⟩
    refine wpOrd_nil ?_
    go_wp2
    refine bodyPost_ret (v := .tuple #[]) (results_none rfl _ _ _) rfl ?_
    refine ⟨rfl, ?_, (ho2.drew.mono (fun i _ e => Or.inl e)).trans (ho3.mono (fun i _ e => Or.inr e)) (fun i _ e => e)⟩
    have := (hL2.quiet (Only.refl _ _).drew).putH ho3 hM3
    unfold lessM
    rw [if_pos hT.out]
    exact this
  · have ht : ¬ (amt - n = 0) := by
      have : (amt - n == 0) = false := by assumption
      exact fun e => by rw [e] at this; simp at this
    have hT := Lib.hid ht
    clear ht
    have ho2 : Only (fun i => i = l.ab) w (w1.setCell ⟨w.heap.size, 3, none⟩ (.int .i64 (amt - n))) := (((Only.refl (fun _ => False) w).alloc _).andThen ho1).setCell (fun hlt => absurd hlt (by simp)) _
    have ho3 : Only (fun i => i = l.ab) (w.alloc (.cells #[.string id, .string acct, .string cur, .int .i64 amt] 66)) w1 := ho1
    have hL2 := hL1.store (p := ⟨w.heap.size, 3, none⟩) (.int .i64 (amt - n)) (fun hF => by have := h.F_lt (S := S) hF; simp only at this; omega) (ho1.heap (k := w.heap.size) (MapKept.heap_alloc w (.cells #[.string id, .string acct, .string cur, .int .i64 amt] 66)).1 (fun e => by omega)) (by decide)
    generalize hw2 : w1.setCell ⟨w.heap.size, 3, none⟩ (.int .i64 (amt - n)) = w2 at ho2 hL2 ⊢
    have e0 : w2.cell? ⟨w.heap.size, 0, none⟩ = some (.string id) := by subst hw2; go_simp
    have e1 : w2.cell? ⟨w.heap.size, 1, none⟩ = some (.string acct) := by subst hw2; go_simp
    have e2 : w2.cell? ⟨w.heap.size, 2, none⟩ = some (.string cur) := by subst hw2; go_simp
    have e3 : w2.cell? ⟨w.heap.size, 3, none⟩ = some (.int .i64 (amt - n)) := by subst hw2; go_simp
    clear hw2 hd0 hd1 hd2 hd3 hf3 ho3 ho1 hL1 hs1
    obtain ⟨c0, c1, c2, c3⟩ := hL2.c
    have hneb := h.ne_hb
    have hc1 : ∀ W, Only (fun i => i = l.hb) w2.drew W → W.cell? ⟨l.lb, 3, none⟩ = some (.map (some l.hb)) := fun W hW => hW.keeps c3 hneb
    have hc2 : ∀ W, Only (fun i => i = l.hb) w2.drew W → W.cell? ⟨w.heap.size, 0, none⟩ = some (.string id) := fun W hW => hW.keeps e0 (fun e => by simp only at e; omega)
    have hc3 : ∀ W, Only (fun i => i = l.hb) w2.drew W → W.cell? ⟨w.heap.size, 1, none⟩ = some (.string acct) := fun W hW => hW.keeps e1 (fun e => by simp only at e; omega)
    have hc4 : ∀ W, Only (fun i => i = l.hb) w2.drew W → W.cell? ⟨w.heap.size, 2, none⟩ = some (.string cur) := fun W hW => hW.keeps e2 (fun e => by simp only at e; omega)
    have hc5 : ∀ W, Only (fun i => i = l.hb) w2.drew W → W.cell? ⟨w.heap.size, 3, none⟩ = some (.int .i64 (amt - n)) := fun W hW => hW.keeps e3 (fun e => by simp only at e; omega)
    refine wp_region_ord (.read 0 (.read 1 (.read 2 (.read 3 (.read 4 (.read 5 (.read 6 (.turn 7 .stop)))))))) (Only (fun i => i = l.hb) _) (by kernel_rfl) (by kernel_rfl) (by kernel_rfl) (by first | exact Only.refl _ _ | assumption) ?_
    refine wpOrd_reads (v := ?_) rfl rfl (fun _ _ _ h => h) ?_ ?_
    rotate_left
    · intro W hW; go_simp; try with_reducible rfl
    go_frame
    refine wpOrd_reads (v := ?_) rfl rfl (fun _ _ _ h => h) ?_ ?_
    rotate_left
    · intro W hW; go_simp; try with_reducible rfl
    go_frame
    refine wpOrd_reads (v := ?_) rfl rfl (fun _ _ _ h => h) ?_ ?_
    rotate_left
    · intro W hW; go_simp; try with_reducible rfl
    go_frame
    refine wpOrd_reads (v := ?_) rfl rfl (fun _ _ _ h => h) ?_ ?_
    rotate_left
    · intro W hW; go_simp; try with_reducible rfl
    go_frame
    refine wpOrd_reads (v := ?_) rfl rfl (fun _ _ _ h => h) ?_ ?_
    rotate_left
    · intro W hW; go_simp; try with_reducible rfl
    go_frame
    refine wpOrd_reads (v := ?_) rfl rfl (fun _ _ _ h => h) ?_ ?_
    rotate_left
    · intro W hW; go_simp; try with_reducible rfl
    go_frame
    refine wpOrd_reads (v := ?_) rfl rfl (fun _ _ _ h => h) ?_ ?_
    rotate_left
    · intro W hW; go_simp; try with_reducible rfl
    go_frame
    refine wpOrd_turns rfl ?_
    refine wpList_store_map rfl _ _ _ 73 66 rfl sOps Try.underlying73 l.hb S.H (hL2.holds.only ((Only.refl (fun _ => False) w2).drew) not_false) rfl id ⟨id, acct, cur, amt - n⟩ rfl rfl ?_
    intro w3 hM3 ho3 hs3
    refine wpList_nil ⟨ho3, ?_⟩
    refine wpOrd_nil ?_
    go_wp2
    go_end0
    refine ⟨rfl, ?_, (ho2.drew.mono (fun i _ e => Or.inl e)).trans (ho3.mono (fun i _ e => Or.inr e)) (fun i _ e => e)⟩
    have := (hL2.quiet (Only.refl _ _).drew).putH ho3 hM3
    unfold lessM
    rw [if_neg hT.out]
    exact this
end
end Go.Proofs.Ytoeokakcdfdjkaa
