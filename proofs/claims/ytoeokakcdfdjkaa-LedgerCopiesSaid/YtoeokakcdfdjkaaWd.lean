/- WALKS: Hold. -/
import Derived.Test.YtoeokakcdfdjkaaWc
namespace Go.Proofs.Ytoeokakcdfdjkaa
open Go.RowKit Go.Shelf
section
variable {w : World} {l : Loc} {S : Led}

set_option maxHeartbeats 4000000 in
set_option maxRecDepth 100000 in
theorem hold_any (h : LAt w l S) (G : Good S) (nm k1 k2 : ByteArray) (n : Int) :
    Calls Try.prog 12 #[.pointer (some ⟨l.lb, 0, none⟩), .string nm, .string k1, .string k2, .int .i64 n] w (LPost l w (holdM S nm k1 k2 n) (fun i => i = l.ab ∨ i = l.hb)) := by
  have hbd := G.bounds (k1, k2)
  have hM : maxA = 1099511627776 := rfl
  unfold Acct.free at hbd
  rw [hM] at hbd
  have hK := Lib.hid (fun (W : World) (H' : List (ByteArray × HoldD)) (hL : LAt W l { S with H := H' }) (hn : 1 ≤ n ∧ n ≤ 1099511627776) => keep_any hL k1 k2 n (by show -9000000000000000000 ≤ (acctOr S.A (k1, k2)).held + n ∧ (acctOr S.A (k1, k2)).held + n ≤ 9000000000000000000; omega))
  have hlk : ∀ W, Only (fun _ => False) w W → (Instr.lookup 72 (.map (some l.ab)) (.agg #[.string k1, .string k2]) true).run Try.prog W = .ok (.tuple #[.agg #[.int .i64 (acctOr S.A (k1, k2)).floor, .int .i64 (acctOr S.A (k1, k2)).bal, .int .i64 (acctOr S.A (k1, k2)).held], .bool (aget S.A (k1, k2)).isSome]) W := fun W hW => look_acct (h.accts.only hW not_false) k1 k2 true
  have hlh : ∀ W, Only (fun _ => False) w W → (Instr.lookup 73 (.map (some l.hb)) (.string nm) true).run Try.prog W = .ok (.tuple #[.agg #[.string (holdOr S.H nm).id, .string (holdOr S.H nm).acct, .string (holdOr S.H nm).cur, .int .i64 (holdOr S.H nm).amt], .bool (aget S.H nm).isSome]) W := fun W hW => look_hold (h.holds.only hW not_false) nm true
  have hlen : ∀ W, Only (fun _ => False) w W → (Builtin.len_ #[73] 3 #[.map (some l.hb)]).run Try.prog W = .ok (.int .i64 S.H.length) W := fun W hW => (h.holds.only hW not_false).len Try.underlying73 3
  obtain ⟨c0, c1, c2, c3⟩ := h.c
  have hab := h.accts.lt
  have hhb := h.holds.lt
  generalize hr : acctOr S.A (k1, k2) = r at hlk hbd
  have hR := Lib.hid hr
  clear hr hM G
  generalize hth : (aget S.A (k1, k2)).isSome = there at hlk
  have hT := Lib.hid hth
  clear hth
  generalize hkn : (aget S.H nm).isSome = known at hlh
  have hN := Lib.hid hkn
  clear hkn
  generalize holdOr S.H nm = q at hlh
  obtain ⟨rf, rb, rh⟩ := r
  obtain ⟨q1, q2, q3, q4⟩ := q
  simp only at hlk hlh hbd
  have hFr := Lib.hid (fun W => free_any rf rb rh W (by omega) (by omega) (by omega) (by omega) (by omega) (by omega))
  clear hbd
  go_enter Try.func12, Try.ntmps12
  go_wp2
  have ho0 := ((Only.refl (fun _ => False) w).alloc (.cells #[.string k1, .string k2] 68)).drew
  have hc1 : ∀ W, Only (fun _ => False) (w.alloc (.cells #[.string k1, .string k2] 68)).drew W → W.cell? ⟨l.lb, 1, none⟩ = some (.map (some l.ab)) := fun W hW => hW.keeps (ho0.keeps c1 not_false) not_false
  have hc4 : ∀ W, Only (fun _ => False) (w.alloc (.cells #[.string k1, .string k2] 68)).drew W → W.cell? ⟨w.heap.size, 0, none⟩ = some (.string k1) := fun W hW => hW.keeps (by go_simp) not_false
  have hc5 : ∀ W, Only (fun _ => False) (w.alloc (.cells #[.string k1, .string k2] 68)).drew W → W.cell? ⟨w.heap.size, 1, none⟩ = some (.string k2) := fun W hW => hW.keeps (by go_simp) not_false
  have hlk' : ∀ W, Only (fun _ => False) (w.alloc (.cells #[.string k1, .string k2] 68)).drew W → (Instr.lookup 72 (.map (some l.ab)) (.agg #[.string k1, .string k2]) true).run Try.prog W = .ok (.tuple #[.agg #[.int .i64 rf, .int .i64 rb, .int .i64 rh], .bool there]) W := fun W hW => hlk W (ho0.trans hW fun _ _ h => h)
  clear hlk
  refine wp_region_ord (.read 0 (.read 1 (.read 2 (.read 3 (.read 4 (.read 5 (.read 6 (.read 7 (.read 8 (.turn 9 (.turn 10 (.read 11 .stop)))))))))))) (Only (fun _ => False) _) (by kernel_rfl) (by kernel_rfl) (by kernel_rfl) (by first | exact Only.refl _ _ | assumption) ?_
  refine wpOrd_reads (v := ?_) rfl rfl (fun _ _ _ h => h) ?_ ?_
  rotate_left
  · intro W hW; go_simp; try with_reducible rfl
  go_frame
  refine wpOrd_reads (v := ?_) rfl rfl (fun _ _ _ h => h) ?_ ?_
  rotate_left
  · intro W hW; go_simp; try with_reducible rfl
  go_frame
  refine wpOrd_reads (v := ?_) rfl rfl (fun _ _ _ h => h) ?_ ?_
  rotate_left
  · intro W hW; go_simp; try with_reducible rfl
  go_frame
  refine wpOrd_reads (v := ?_) rfl rfl (fun _ _ _ h => h) ?_ ?_
  rotate_left
  · intro W hW; go_simp; try with_reducible rfl
  go_frame
  refine wpOrd_reads (v := ?_) rfl rfl (fun _ _ _ h => h) ?_ ?_
  rotate_left
  · intro W hW; go_simp; try with_reducible rfl
  go_frame
  refine wpOrd_reads (v := ?_) rfl rfl (fun _ _ _ h => h) ?_ ?_
  rotate_left
  · intro W hW; go_simp; try with_reducible rfl
  go_frame
  refine wpOrd_reads (v := ?_) rfl rfl (fun _ _ _ h => h) ?_ ?_
  rotate_left
  · intro W hW; go_simp; try with_reducible rfl
  go_frame
  refine wpOrd_reads (v := ?_) rfl rfl (fun _ _ _ h => h) ?_ ?_
  rotate_left
  · intro W hW; go_simp; try with_reducible rfl
  go_frame
  refine wpOrd_reads (v := ?_) rfl rfl (fun _ _ _ h => h) ?_ ?_
  rotate_left
  · intro W hW; go_simp; try with_reducible rfl
  go_frame
  refine wpOrd_turns rfl ?_
  go_wp2
  refine ⟨(Only.refl _ _).alloc _, ?_⟩
  refine wpOrd_turns rfl ?_
  go_wp2
  refine ⟨(Only.refl _ _).alloc _, ?_⟩
  refine wpOrd_reads (v := ?_) rfl rfl (fun _ _ _ h => h) ?_ ?_
  rotate_left
  · intro W hW; go_simp; try with_reducible rfl
  go_frame
  refine wpOrd_nil ?_
  generalize hw2 : World.drew (World.alloc (World.alloc w _) _) = w2
  have hoE : Only (fun _ => False) w w2 := hw2 ▸ (((Only.refl (fun _ => False) w).alloc _).alloc _).drew
  have hd1 : ∀ W, Only (fun _ => False) w2 W → W.cell? ⟨l.lb, 1, none⟩ = some (.map (some l.ab)) := fun W hW => hW.keeps (hoE.keeps c1 not_false) not_false
  have hd0 : ∀ W, Only (fun _ => False) w2 W → W.cell? ⟨l.lb, 3, none⟩ = some (.map (some l.hb)) := fun W hW => hW.keeps (hoE.keeps c3 not_false) not_false
  have hd2 : ∀ W, Only (fun _ => False) w2 W → W.cell? ⟨w.heap.size, 0, none⟩ = some (.string k1) := fun W hW => hW.keeps (by subst hw2; go_simp) not_false
  have hd3 : ∀ W, Only (fun _ => False) w2 W → W.cell? ⟨w.heap.size, 1, none⟩ = some (.string k2) := fun W hW => hW.keeps (by subst hw2; go_simp) not_false
  have hd4 : ∀ W, Only (fun _ => False) w2 W → W.cell? ⟨w.heap.size + 1, 0, none⟩ = some (.int .i64 rf) := fun W hW => hW.keeps (by subst hw2; go_simp) not_false
  have hd5 : ∀ W, Only (fun _ => False) w2 W → W.cell? ⟨w.heap.size + 1, 1, none⟩ = some (.int .i64 rb) := fun W hW => hW.keeps (by subst hw2; go_simp) not_false
  have hd6 : ∀ W, Only (fun _ => False) w2 W → W.cell? ⟨w.heap.size + 1, 2, none⟩ = some (.int .i64 rh) := fun W hW => hW.keeps (by subst hw2; go_simp) not_false
  have hlh' : ∀ W, Only (fun _ => False) w2 W → (Instr.lookup 73 (.map (some l.hb)) (.string nm) true).run Try.prog W = .ok (.tuple #[.agg #[.string q1, .string q2, .string q3, .int .i64 q4], .bool known]) W := fun W hW => hlh W (hoE.trans hW fun _ _ h => h)
  have hlen' : ∀ W, Only (fun _ => False) w2 W → (Builtin.len_ #[73] 3 #[.map (some l.hb)]).run Try.prog W = .ok (.int .i64 S.H.length) W := fun W hW => hlen W (hoE.trans hW fun _ _ h => h)
  have hsz : w.heap.size + 2 = w2.heap.size := by subst hw2; simp
  have hL2 := h.quiet hoE
  have hmaps : ∀ W, Only (fun _ => False) w2 W → MapAt eStr eHold W l.hb S.H := fun W hW => hL2.holds.only hW not_false
  have hLs : ∀ W, Only (fun _ => False) w2 W → LAt W l S := fun W hW => hL2.quiet hW
  have hMp := Lib.hid hmaps
  have hLL := Lib.hid hLs
  have hS := Lib.hid hsz
  have hsz' : w.heap.size + 2 ≤ w2.heap.size := by omega
  have hq0 : Only (fun _ => False) w2 w2 := Only.refl _ _
  have hq1 : ∀ o, Only (fun _ => False) w2 (w2.alloc o) := fun o => (Only.refl _ _).alloc o
  clear hw2 hc1 hc4 hc5 hlk' hlen hlh hsz hmaps hLs
  go_wp2_with (first
    | (go_at_call 31; refine (name_any _ _).mono ?_; rintro e w3 ⟨rfl, ho3⟩; have ho4 := (hq1 _).trans ho3 fun _ _ h => h; clear ho3)
    | (go_at_call 32; refine (hFr.out _).mono ?_; rintro e w5 ⟨rfl, ho5⟩; have ho6 := ho4.trans ho5 fun _ _ h => h; clear ho5)
    | (at_mapUpdate; refine wpList_store_map rfl _ _ _ 73 66 rfl sOps Try.underlying73 l.hb S.H (hMp.out _ ho6) rfl nm ⟨nm, k1, k2, n⟩ rfl rfl ?_; intro w7 hM7 ho7 hs7; have hL7 := (hLL.out _ ho6).putH ho7 hM7; have he2 : w7.cell? ⟨w.heap.size, 0, none⟩ = some (.string k1) := ho7.keeps (hd2 _ ho6) (fun e => by simp only at e; omega); have he3 : w7.cell? ⟨w.heap.size, 1, none⟩ = some (.string k2) := ho7.keeps (hd3 _ ho6) (fun e => by simp only at e; omega); clear hs7)
    | (go_at_call 33; refine (hK.out _ _ hL7 (by omega)).mono ?_; rintro e w8 ⟨rfl, hL8, ho8⟩))
  · go_ret; exact LPost.of (by unfold holdM; simp_all) (hLL.out _ ho4) ((hoE.trans ho4 fun _ _ h => h).mono fun _ _ h => h.elim)
  · go_ret; exact LPost.of (by unfold holdM; rw [if_neg (by simp_all), if_pos (by rw [hN.out]; assumption)]) (hLL.out _ ho4) ((hoE.trans ho4 fun _ _ h => h).mono fun _ _ h => h.elim)
  · go_ret; exact LPost.of (by unfold holdM; rw [if_neg (by simp_all), if_neg (by rw [hN.out]; simp_all), if_pos (by rw [hT.out]; assumption)]) (hLL.out _ ho4) ((hoE.trans ho4 fun _ _ h => h).mono fun _ _ h => h.elim)
  · go_ret; exact LPost.of (by unfold holdM maxA; rw [if_neg (by simp_all), if_neg (by rw [hN.out]; simp_all), if_neg (by rw [hT.out]; simp_all), if_pos (by omega)]) (hLL.out _ ho4) ((hoE.trans ho4 fun _ _ h => h).mono fun _ _ h => h.elim)
  · go_ret; exact LPost.of (by unfold holdM maxA; rw [if_neg (by simp_all), if_neg (by rw [hN.out]; simp_all), if_neg (by rw [hT.out]; simp_all), if_neg (by omega), if_pos (by rw [hR.out]; simp only [Acct.free]; omega)]) (hLL.out _ ho6) ((hoE.trans ho6 fun _ _ h => h).mono fun _ _ h => h.elim)
  · go_ret; exact LPost.of (by unfold holdM maxA; rw [if_neg (by simp_all), if_neg (by rw [hN.out]; simp_all), if_neg (by rw [hT.out]; simp_all), if_neg (by omega), if_neg (by rw [hR.out]; simp only [Acct.free]; omega), if_pos (by omega)]) (hLL.out _ ho6) ((hoE.trans ho6 fun _ _ h => h).mono fun _ _ h => h.elim)
  · go_ret; exact LPost.of (by unfold holdM maxA; rw [if_neg (by simp_all), if_neg (by rw [hN.out]; simp_all), if_neg (by rw [hT.out]; simp_all), if_neg (by omega), if_neg (by rw [hR.out]; simp only [Acct.free]; omega), if_neg (by omega)]) hL8 (((hoE.trans ho6 fun _ _ h => h).andThen (ho7.mono fun _ _ e => Or.inr e)).trans (ho8.mono fun _ _ e => Or.inl e) fun _ _ h => h)
  · go_ret; exact LPost.of (by unfold holdM maxA; rw [if_neg (by simp_all), if_neg (by rw [hN.out]; simp_all), if_neg (by rw [hT.out]; simp_all), if_pos (by omega)]) (hLL.out _ ho4) ((hoE.trans ho4 fun _ _ h => h).mono fun _ _ h => h.elim)
end
end Go.Proofs.Ytoeokakcdfdjkaa
