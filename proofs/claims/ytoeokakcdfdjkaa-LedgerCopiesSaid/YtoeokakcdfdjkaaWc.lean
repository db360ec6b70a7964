/- WALKS: Let, Open, Hold. -/
import Derived.Test.YtoeokakcdfdjkaaWa
import Derived.Test.YtoeokakcdfdjkaaWb
namespace Go.Proofs.Ytoeokakcdfdjkaa
open Go.RowKit Go.Shelf
section
variable {w : World} {l : Loc} {S : Led}

theorem ret_int {k : IntKind} {a b : Int} (h : a = b) : Ending.returned (.int k a) = .returned (.int k b) := by rw [h]

set_option maxHeartbeats 1000000 in
theorem let_any (h : LAt w l S) (G : Good S) (nm : ByteArray) :
    Calls Try.prog 17 #[.pointer (some ⟨l.lb, 0, none⟩), .string nm] w fun e w' => e = .returned (.int .i64 (letM S nm).2) ∧ LAt w' l (letM S nm).1 ∧ Only (fun i => i = l.ab ∨ i = l.hb) w w' := by
  obtain ⟨c0, c1, c2, c3⟩ := h.c
  have hl := look_hold h.holds nm true
  simp only [if_true, eHold] at hl
  unfold letM
  cases hk : aget S.H nm with
  | none =>
    rw [hk] at hl
    simp only [Option.isSome_none, Bool.false_eq_true, if_false] at hl ⊢
    generalize holdOr S.H nm = r at hl
    clear hk
    go_enter Try.func17, Try.ntmps17
    go_wp2
    go_ret
    exact ⟨rfl, h.quiet ((Only.refl _ _).alloc _), (Only.refl _ _).alloc _⟩
  | some hd =>
    rw [hk, holdOr_of hk] at hl
    simp only [Option.isSome_some, if_true] at hl ⊢
    rw [holdOr_of hk]
    have hg := G.hold _ (aget_mem hk)
    have hbd := G.bounds hd.key
    obtain ⟨id, acct, cur, amt⟩ := hd
    simp only [HoldD.key] at hl hg hbd ⊢
    have hM : maxA = 1099511627776 := rfl
    rw [hM] at hg hbd
    have hC := Lib.hid (less_any (h.quiet ((Only.refl (fun _ => False) w).alloc (.cells #[.string id, .string acct, .string cur, .int .i64 amt] 66))) id acct cur amt amt (by omega) (by omega))
    clear hM hg hbd hk
    go_enter Try.func17, Try.ntmps17
    go_wp2_with (go_at_call 36; refine (hC.out).mono ?_; rintro e w1 ⟨rfl, hL1, ho1⟩)
    go_ret
    exact ⟨rfl, hL1, ((Only.refl (fun _ => False) _).alloc _).andThen ho1⟩

/-- What an act leaves: its error, and the ledger. -/
def LPost (l : Loc) (w : World) (r : Led × Int) (F : Nat → Prop) (e : Ending) (w' : World) : Prop := e = .returned (.int .i64 r.2) ∧ LAt w' l r.1 ∧ Only F w w'
theorem LPost.of {l : Loc} {w w' : World} {r : Led × Int} {F : Nat → Prop} {S' : Led} {n : Int} (hr : r = (S', n)) (hL : LAt w' l S') (ho : Only F w w') : LPost l w r F (.returned (.int .i64 n)) w' := by
  subst hr; exact ⟨rfl, hL, ho⟩

set_option maxHeartbeats 2000000 in
set_option maxRecDepth 100000 in
theorem open_any (h : LAt w l S) (k1 k2 : ByteArray) (fl : Int) :
    Calls Try.prog 14 #[.pointer (some ⟨l.lb, 0, none⟩), .string k1, .string k2, .int .i64 fl] w (LPost l w (openM S k1 k2 fl) (fun i => i = l.ab)) := by
  have hlk : ∀ W, Only (fun _ => False) w W → (Instr.lookup 72 (.map (some l.ab)) (.agg #[.string k1, .string k2]) true).run Try.prog W = .ok (.tuple #[.agg #[.int .i64 (acctOr S.A (k1, k2)).floor, .int .i64 (acctOr S.A (k1, k2)).bal, .int .i64 (acctOr S.A (k1, k2)).held], .bool (aget S.A (k1, k2)).isSome]) W := fun W hW => look_acct (h.accts.only hW not_false) k1 k2 true
  have hlen : ∀ W, Only (fun _ => False) w W → (Builtin.len_ #[72] 3 #[.map (some l.ab)]).run Try.prog W = .ok (.int .i64 S.A.length) W := fun W hW => (h.accts.only hW not_false).len Try.underlying72 3
  obtain ⟨c0, c1, c2, c3⟩ := h.c
  have hab := h.accts.lt
  generalize acctOr S.A (k1, k2) = r at hlk
  generalize hth : (aget S.A (k1, k2)).isSome = there at hlk
  have hT := Lib.hid hth
  clear hth
  obtain ⟨rf, rb, rh⟩ := r
  simp only at hlk
  go_enter Try.func14, Try.ntmps14
  go_wp2
  have ho0 := ((Only.refl (fun _ => False) w).alloc (.cells #[.string k1, .string k2] 68)).drew
  have hc1 : ∀ W, Only (fun _ => False) (w.alloc (.cells #[.string k1, .string k2] 68)).drew W → W.cell? ⟨l.lb, 1, none⟩ = some (.map (some l.ab)) := fun W hW => hW.keeps (ho0.keeps c1 not_false) not_false
  have hc4 : ∀ W, Only (fun _ => False) (w.alloc (.cells #[.string k1, .string k2] 68)).drew W → W.cell? ⟨w.heap.size, 0, none⟩ = some (.string k1) := fun W hW => hW.keeps (by go_simp) not_false
  have hc5 : ∀ W, Only (fun _ => False) (w.alloc (.cells #[.string k1, .string k2] 68)).drew W → W.cell? ⟨w.heap.size, 1, none⟩ = some (.string k2) := fun W hW => hW.keeps (by go_simp) not_false
  have hlk' : ∀ W, Only (fun _ => False) (w.alloc (.cells #[.string k1, .string k2] 68)).drew W → (Instr.lookup 72 (.map (some l.ab)) (.agg #[.string k1, .string k2]) true).run Try.prog W = .ok (.tuple #[.agg #[.int .i64 rf, .int .i64 rb, .int .i64 rh], .bool there]) W := fun W hW => hlk W (ho0.trans hW fun _ _ h => h)
  clear hlk
  refine wp_region_ord (.read 0 (.read 1 (.read 2 (.read 3 (.read 4 (.read 5 (.read 6 (.read 7 (.read 8 (.turn 9 (.turn 10 (.read 11 .stop)))))))))))) (Only (fun _ => False) _) (by kernel_rfl) (by kernel_rfl) (by kernel_rfl) (by first | exact Only.refl _ _ | assumption) ?_
  refine wpOrd_reads (v := ?_) rfl rfl (fun _ _ _ h => h) ?_ ?_
  rotate_left
  · intro W hW; go_simp; try with_reducible rfl
  go_frame
  refine wpOrd_reads (v := ?_) rfl rfl (fun _ _ _ h => h) ?_ ?_
  rotate_left
  · intro W hW; go_simp; try with_reducible rfl
  go_frame
  refine wpOrd_reads (v := ?_) rfl rfl (fun _ _ _ h => h) ?_ ?_
  rotate_left
  · intro W hW; go_simp; try with_reducible rfl
  go_frame
  refine wpOrd_reads (v := ?_) rfl rfl (fun _ _ _ h => h) ?_ ?_
  rotate_left
  · intro W hW; go_simp; try with_reducible rfl
  go_frame
  refine wpOrd_reads (v := ?_) rfl rfl (fun _ _ _ h => h) ?_ ?_
  rotate_left
  · intro W hW; go_simp; try with_reducible rfl
  go_frame
  refine wpOrd_reads (v := ?_) rfl rfl (fun _ _ _ h => h) ?_ ?_
  rotate_left
  · intro W hW; go_simp; try with_reducible rfl
  go_frame
  refine wpOrd_reads (v := ?_) rfl rfl (fun _ _ _ h => h) ?_ ?_
  rotate_left
  · intro W hW; go_simp; try with_reducible rfl
  go_frame
  refine wpOrd_reads (v := ?_) rfl rfl (fun _ _ _ h => h) ?_ ?_
  rotate_left
  · intro W hW; go_simp; try with_reducible rfl
  go_frame
  refine wpOrd_reads (v := ?_) rfl rfl (fun _ _ _ h => h) ?_ ?_
  rotate_left
  · intro W hW; go_simp; try with_reducible rfl
  go_frame
  refine wpOrd_turns rfl ?_
  go_wp2
  refine ⟨(Only.refl _ _).alloc _, ?_⟩
  refine wpOrd_turns rfl ?_
  go_wp2
  refine ⟨(Only.refl _ _).alloc _, ?_⟩
  refine wpOrd_reads (v := ?_) rfl rfl (fun _ _ _ h => h) ?_ ?_
  rotate_left
  · intro W hW; go_simp; try with_reducible rfl
  go_frame
  refine wpOrd_nil ?_
  go_wp2_with fail
  generalize hw2 : World.drew (World.alloc (World.alloc w _) _) = w2
  have hoE : Only (fun _ => False) w w2 := hw2 ▸ (((Only.refl (fun _ => False) w).alloc _).alloc _).drew
  have hd1 : ∀ W, Only (fun _ => False) w2 W → W.cell? ⟨l.lb, 1, none⟩ = some (.map (some l.ab)) := fun W hW => hW.keeps (hoE.keeps c1 not_false) not_false
  have hd2 : ∀ W, Only (fun _ => False) w2 W → W.cell? ⟨w.heap.size, 0, none⟩ = some (.string k1) := fun W hW => hW.keeps (by subst hw2; go_simp) not_false
  have hd3 : ∀ W, Only (fun _ => False) w2 W → W.cell? ⟨w.heap.size, 1, none⟩ = some (.string k2) := fun W hW => hW.keeps (by subst hw2; go_simp) not_false
  have hlen' : ∀ W, Only (fun _ => False) w2 W → (Builtin.len_ #[72] 3 #[.map (some l.ab)]).run Try.prog W = .ok (.int .i64 S.A.length) W := fun W hW => hlen W (hoE.trans hW fun _ _ h => h)
  have hP := Lib.hid (fun (W : World) (hW : Only (fun _ => False) w2 W) => put_any (h.quiet (hoE.trans hW fun _ _ h => h)) k1 k2 fl)
  have hq : Only (fun _ => False) w2 w2 := Only.refl _ _
  clear hw2 hc1 hc4 hc5 hlk' hlen
  go_wp2_with fail
  refine (name_any _ _).mono ?_
  rintro e w3 ⟨rfl, ho3⟩
  have hL2 := h.quiet hoE
  go_wp2_with (first | (go_at_call 34; refine (currency_any _ _).mono ?_; rintro e w4 ⟨rfl, ho4⟩; have ho5 := ho3.trans ho4 fun _ _ h => h; clear ho3 ho4) | (go_at_call 35; refine (hP.out _ (by assumption)).mono ?_; rintro e w6 ⟨rfl, hL6, ho6⟩))
  · go_ret; exact LPost.of (by unfold openM; simp_all) (hL2.quiet ho5) ((hoE.trans ho5 fun _ _ h => h).mono fun _ _ h => h.elim)
  · go_ret; exact LPost.of (by unfold openM maxA; rw [if_neg (by simp_all), if_pos (by omega)]) (hL2.quiet ho5) ((hoE.trans ho5 fun _ _ h => h).mono fun _ _ h => h.elim)
  · go_ret; exact LPost.of (by unfold openM maxA; rw [if_neg (by simp_all), if_neg (by omega), if_pos (by rw [hT.out]; assumption)]) (hL2.quiet ho5) ((hoE.trans ho5 fun _ _ h => h).mono fun _ _ h => h.elim)
  · go_ret; exact LPost.of (by unfold openM maxA; rw [if_neg (by simp_all), if_neg (by omega), if_neg (by rw [hT.out]; simp_all), if_pos (by omega)]) (hL2.quiet ho5) ((hoE.trans ho5 fun _ _ h => h).mono fun _ _ h => h.elim)
  · go_ret; exact LPost.of (by unfold openM maxA; rw [if_neg (by simp_all), if_neg (by omega), if_neg (by rw [hT.out]; simp_all), if_neg (by omega)]) hL6 ((hoE.trans ho5 fun _ _ h => h).andThen ho6)
  · go_ret; exact LPost.of (by unfold openM maxA; rw [if_neg (by simp_all), if_pos (by omega)]) (hL2.quiet ho5) ((hoE.trans ho5 fun _ _ h => h).mono fun _ _ h => h.elim)
  · go_ret; exact LPost.of (by unfold openM; simp_all) (hL2.quiet ho3) ((hoE.trans ho3 fun _ _ h => h).mono fun _ _ h => h.elim)
end
end Go.Proofs.Ytoeokakcdfdjkaa
