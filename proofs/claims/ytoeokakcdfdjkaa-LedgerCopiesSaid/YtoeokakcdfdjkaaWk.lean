/- WALKS: do. -/
import Derived.Test.YtoeokakcdfdjkaaWi
namespace Go.Proofs.Ytoeokakcdfdjkaa
open Go.RowKit Go.Shelf

structure ActM where
  kind : Int
  a : ByteArray
  b : ByteArray
  c : ByteArray
  n : Int
  l : List Ent
def doM (S : Led) (x : ActM) : Led × Int × Int :=
  if x.kind % 5 = 0 then ((openM S x.a x.c x.n).1, 0, (openM S x.a x.c x.n).2)
  else if x.kind % 5 = 1 then postM S x.a x.l
  else if x.kind % 5 = 2 then ((holdM S x.a x.b x.c x.n).1, 0, (holdM S x.a x.b x.c x.n).2)
  else if x.kind % 5 = 3 then ((takeM S x.a x.b x.n).1, 0, (takeM S x.a x.b x.n).2)
  else ((letM S x.a).1, 0, (letM S x.a).2)
section
variable {S : Led} {x : ActM}
theorem doM_0 (h : x.kind % 5 = 0) : doM S x = ((openM S x.a x.c x.n).1, 0, (openM S x.a x.c x.n).2) := by unfold doM; rw [if_pos h]
theorem doM_1 (h : x.kind % 5 = 1) : doM S x = postM S x.a x.l := by unfold doM; rw [if_neg (by omega), if_pos h]
theorem doM_2 (h : x.kind % 5 = 2) : doM S x = ((holdM S x.a x.b x.c x.n).1, 0, (holdM S x.a x.b x.c x.n).2) := by unfold doM; rw [if_neg (by omega), if_neg (by omega), if_pos h]
theorem doM_3 (h : x.kind % 5 = 3) : doM S x = ((takeM S x.a x.b x.n).1, 0, (takeM S x.a x.b x.n).2) := by unfold doM; rw [if_neg (by omega), if_neg (by omega), if_neg (by omega), if_pos h]
theorem doM_4 (h0 : ¬ x.kind % 5 = 0) (h1 : ¬ x.kind % 5 = 1) (h2 : ¬ x.kind % 5 = 2) (h3 : ¬ x.kind % 5 = 3) : doM S x = ((letM S x.a).1, 0, (letM S x.a).2) := by unfold doM; rw [if_neg h0, if_neg h1, if_neg h2, if_neg h3]
end
section
variable {w : World} {l : Loc} {S : Led}

theorem LPostV.of_post {l : Loc} {w w' w0 : World} {S' : Led} {pv' v : Value} (hL : LAt w' { l with pv := pv' } S') (ho : Only l.F w w') (hp : pv'.ownBlock = l.pv.ownBlock ∨ ∀ b, pv'.ownBlock = some b → w.heap.size ≤ b) (h0 : Only (fun _ => False) w0 w) : LPostV l w0 S' v (.returned v) w' :=
  ⟨pv', rfl, hL, h0.andThen ho, hp.imp (fun h => h) fun h b hb => Nat.le_trans h0.size (h b hb)⟩
set_option maxHeartbeats 4000000 in
set_option maxRecDepth 100000 in
theorem do_any (h : LAt w l S) (G : Good S) (k : Int) (hk : 0 ≤ k ∧ k ≤ 255) (a b c : ByteArray) (n : Int) {xv : Value} {xs : List Ent} (hx : ReadsEnts w xv xs) (hxl : xs.length ≤ 100000) (htl : a.size ≤ 1000000) (hxF : 0 < xs.length → ∀ b, xv.ownBlock = some b → ¬ l.F b) (hsp : xv.oneCell' = true) :
    Calls Try.prog 13 #[.pointer (some ⟨l.lb, 0, none⟩), .agg #[.int .u8 k, .string a, .string b, .string c, .int .i64 n, xv]] w (LPostV l w (doM S ⟨k, a, b, c, n, xs⟩).1 (.tuple #[.int .i64 (doM S ⟨k, a, b, c, n, xs⟩).2.1, .int .i64 (doM S ⟨k, a, b, c, n, xs⟩).2.2])) := by
  have hL : ∀ W, Only (fun _ => False) w W → LAt W l S := fun W hW => h.quiet hW
  have hO := Lib.hid (fun W (hW : Only (fun _ => False) w W) => open_any (hL W hW) a c n)
  have hP := Lib.hid (fun W (hW : Only (fun _ => False) w W) => post_any (hL W hW) G a (hx.only hW fun _ _ => id) hxl htl hxF)
  have hH := Lib.hid (fun W (hW : Only (fun _ => False) w W) => hold_any (hL W hW) G a b c n)
  have hT := Lib.hid (fun W (hW : Only (fun _ => False) w W) => take_any (hL W hW) G a b n htl)
  have hE := Lib.hid (fun W (hW : Only (fun _ => False) w W) => let_any (hL W hW) G a)
  obtain ⟨A, c', rfl, _⟩ := hx
  clear hL hxF
  go_enter Try.func13, Try.ntmps13
  have hoB : Only (fun _ => False) w (w.alloc (.cells #[.int .u8 k, .string a, .string b, .string c, .int .i64 n, .slice A xs.length c'] 31)) := (Only.refl _ w).alloc _
  go_wp2_with (first
    | (go_at_call 14; refine (hO.out _ hoB).mono ?_; rintro e w1 ⟨rfl, hL1, ho1⟩)
    | (go_at_call 29; refine (hP.out _ hoB).mono ?_; rintro e w1 ⟨pv', rfl, hL1, ho1, hp1⟩)
    | (go_at_call 12; refine (hH.out _ hoB).mono ?_; rintro e w1 ⟨rfl, hL1, ho1⟩)
    | (go_at_call 16; refine (hT.out _ hoB).mono ?_; rintro e w1 ⟨pv', rfl, hL1, ho1, hp1⟩)
    | (go_at_call 17; refine (hE.out _ hoB).mono ?_; rintro e w1 ⟨rfl, hL1, ho1⟩))
  · go_ret2
    rw [doM_0 (by simp_all)]
    exact LPostV.same rfl hL1 (hoB.andThen ho1) (fun i hi => .inr (.inl hi))
  · go_ret2
    rw [doM_1 (by simp_all)]
    exact LPostV.of_post hL1 ho1 hp1 hoB
  · go_ret2
    rw [doM_2 (by simp_all)]
    exact LPostV.same rfl hL1 (hoB.andThen ho1) (fun i hi => hi.elim (fun h => .inr (.inl h)) (fun h => .inr (.inr (.inl h))))
  · go_ret2
    rw [doM_3 (by simp_all)]
    exact LPostV.of_post hL1 ho1 hp1 hoB
  · go_ret2
    rw [doM_4 (by simp_all) (by simp_all) (by simp_all) (by simp_all)]
    exact LPostV.same rfl hL1 (hoB.andThen ho1) (fun i hi => hi.elim (fun h => .inr (.inl h)) (fun h => .inr (.inr (.inl h))))
end
end Go.Proofs.Ytoeokakcdfdjkaa
