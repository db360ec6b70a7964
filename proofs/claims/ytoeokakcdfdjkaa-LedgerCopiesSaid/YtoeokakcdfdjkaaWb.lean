/- WALKS: names and currencies. -/
import Derived.Test.YtoeokakcdfdjkaaLay
import Derived.Shelf.GgClosure.StringsIndexFuncTop
import Derived.Test.YtoeokakcdfdjkaaSho
import Derived.Ground.GgwProg
import Derived.Lib.Hide
namespace Go.Proofs.Ytoeokakcdfdjkaa
open Go.RowKit Go.Shelf

set_option maxHeartbeats 1000000 in
theorem odd58 (r : Nat) (W : World) : Calls Try.prog 58 #[.int .i32 (r : Int)] W fun e w' => e = .returned (.bool (oddName r)) ∧ w' = W := by
  unfold oddName
  go_enter Try.func58, Try.ntmps58
  go_wp2
  all_goals (go_ret; refine ⟨congrArg (fun b => Ending.returned (Value.bool b)) ?_, rfl⟩; first | rfl | (rw [Bool.eq_iff_iff]; simp; omega) | (simp; omega))
set_option maxHeartbeats 1000000 in
theorem odd60 (r : Nat) (W : World) : Calls Try.prog 60 #[.int .i32 (r : Int)] W fun e w' => e = .returned (.bool (oddCur r)) ∧ w' = W := by
  unfold oddCur
  go_enter Try.func60, Try.ntmps60
  go_wp2
  all_goals (go_ret; refine ⟨congrArg (fun b => Ending.returned (Value.bool b)) ?_, rfl⟩; first | rfl | (rw [Bool.eq_iff_iff]; simp; omega) | (simp; omega))
theorem pred58 (w : World) : PredAt Try.prog 58 #[] encR oddName w := fun W r _ => (odd58 r W).mono fun _ _ ⟨he, hw⟩ => ⟨he, 0, hw⟩
theorem pred60 (w : World) : PredAt Try.prog 60 #[] encR oddCur w := fun W r _ => (odd60 r W).mono fun _ _ ⟨he, hw⟩ => ⟨he, 0, hw⟩

set_option maxHeartbeats 1000000 in
theorem name_any (s : ByteArray) (w : World) : Calls Try.prog 31 #[.string s] w fun e w' => e = .returned (.bool (nameB s)) ∧ Only (fun _ => False) w w' := by
  have hC := Lib.hid (Any.strings_IndexFunc Try.l15 58 #[] (enters_of Try.func58 (by kernel_rfl) rfl) _ s w (pred58 w))
  unfold nameB
  generalize Lib.idxFunc oddName true s = I at hC ⊢
  by_cases h1 : 1 ≤ s.size <;> by_cases h2 : s.size ≤ 32
  all_goals
    go_enter Try.func31, Try.ntmps31
    go_wp2_with (go_at_call 59; refine (hC.out).mono ?_; rintro e w1 ⟨rfl, ho⟩)
    all_goals first | (exfalso; omega) | skip
  · go_ret; exact ⟨congrArg (fun b => Ending.returned (Value.bool b)) (by simp [h1, h2]), Only.of_below ho⟩
  · go_ret; exact ⟨congrArg (fun b => Ending.returned (Value.bool b)) (by simp), Only.refl _ _⟩
  · go_ret; exact ⟨congrArg (fun b => Ending.returned (Value.bool b)) (by simp), Only.refl _ _⟩
set_option maxHeartbeats 1000000 in
theorem currency_any (s : ByteArray) (w : World) : Calls Try.prog 34 #[.string s] w fun e w' => e = .returned (.bool (curB s)) ∧ Only (fun _ => False) w w' := by
  have hC := Lib.hid (Any.strings_IndexFunc Try.l15 60 #[] (enters_of Try.func60 (by kernel_rfl) rfl) _ s w (pred60 w))
  unfold curB
  generalize Lib.idxFunc oddCur true s = I at hC ⊢
  by_cases h1 : s.size = 3
  all_goals
    go_enter Try.func34, Try.ntmps34
    go_wp2_with (go_at_call 59; refine (hC.out).mono ?_; rintro e w1 ⟨rfl, ho⟩)
  · go_ret; exact ⟨congrArg (fun b => Ending.returned (Value.bool b)) (by simp [h1]), Only.of_below ho⟩
  · go_ret; exact ⟨congrArg (fun b => Ending.returned (Value.bool b)) (by simp [h1]), Only.refl _ _⟩
end Go.Proofs.Ytoeokakcdfdjkaa
