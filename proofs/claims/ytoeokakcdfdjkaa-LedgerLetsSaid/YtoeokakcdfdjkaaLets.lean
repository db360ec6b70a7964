/- Proved: whatever the acts and the sum, supercargolaw36.LedgerLets returns true and its arguments read as they read before. No condition. -/
import Derived.Test.YtoeokakcdfdjkaaRows
import Derived.Test.YtoeokakcdfdjkaaRd
import Derived.Test.YtoeokakcdfdjkaaWn
import Derived.WalkKit
import Derived.ProofKit
namespace Go.Proofs.Ytoeokakcdfdjkaa
open Go.ChangeShapes Go.WideShapes Go.ChangeAt Go.RowKit
open Go.ChangeMaps (open_string shut_string)
theorem own0 : ownKnob Try.prog.godebug = none := by kernel_rfl
theorem laidOut0 : laidOutB Try.prog = true := by kernel_rfl
theorem Only.belowAll {w w' : World} (h : Only (fun _ => False) w w') : Below w.heap.size w w' := h.below _ (fun _ _ hf => hf.elim) (Nat.le_refl _)
set_option maxRecDepth 100000 in
theorem lets_lifted (os : Os) (started : os.Started) (H : Type) (enc : TypeId × Value → H) :
    ReturnsInHanded {} Try.checked os 4 .any (Rows.ledgerLetsSpec.pre6 enc Try.prog Try.f4 Rows.ledgerLetsRow.domain false) (Rows.ledgerLetsSpec.post enc Try.prog Try.f4 false true false false) := by
  refine returnsInHanded_of_change (C := Try.checked) own0 started (by kernel_rfl) Try.func4
    (ChangeSpec.witness6 (enc := enc) (C := Try.checked) false ⟨#[], #[.slice none 0 0, .int .i64 0], []⟩ 8 (by kernel_rfl) (by kernel_rfl) (by kernel_rfl) (by kernel_rfl)) ?_
  intro W base args ds gs before hval0 hW hcnd _
  have hval : ∀ (j : Nat) t v, Try.f4.params[j]? = some t → args[j]? = some v → Value.okWide Try.prog W .any base t v := hval0
  have hW' := hW
  obtain ⟨p, q, hA0, hV, rfl, hfz, hnd⟩ := hW
  have hA : DataW.TrodAll enc Try.prog W 0 (fun _ => true) true Try.f4.params.toList args.toList ds p := hA0
  rw [Try.params4] at hA hval
  obtain ⟨v0, v1, d0, d1, p0, p1, rfl, rfl, rfl, h0, h1⟩ := trodAll_two hA
  obtain ⟨rfl, rfl⟩ := trodVars_none hV
  obtain ⟨a1, rfl, rfl, rfl, w1⟩ := open_int Try.underlying2 (hval 1 2 v1 rfl rfl) h1
  obtain ⟨a0, l0, c0, rfl⟩ := okWide_slice Try.underlying22 (hval 0 22 v0 rfl rfl)
  have k0 := h0
  have lt0 : ∀ x ∈ p0, x.block < W.heap.size := by obtain ⟨m, hm⟩ := k0; exact DataW.trod_lt m _ _ _ hm
  obtain ⟨xs, hx, hl⟩ : ∃ xs, ReadsActs W W.heap.size (.slice a0 l0 c0) xs ∧ xs.length ≤ 9223372036854775807 := by obtain ⟨m, hm⟩ := k0; exact acts_of hm
  clear hA0 hval0
  refine (lets_law hx hl a1).mono fun e W' ⟨he, ho⟩ => ?_
  have bel := ho.belowAll
  subst he
  exact ⟨_, rfl, _, _, _, [], _, [], hW', trodAll_mk1 (shut_bool Try.underlying4 _), (trodAll_mk2 (Below.trod laidOut0 (by kernel_rfl) (of_decide_eq_true (by kernel_rfl)) k0 bel lt0) (shut_int Try.underlying2 w1)), rfl, bel.frame _, fun h => by cases h⟩
theorem lets_holds : Rows.LedgerLetsSaid :=
  OpenClaim.holds_of_wide 4 Try.f4 rfl rfl rfl rfl rfl rfl rfl ⟨rfl, rfl, rfl, rfl, rfl⟩ rfl rfl rfl rfl rfl (by kernel_rfl) Try.func4 (by kernel_rfl)
    (of_decide_eq_true (by kernel_rfl)) (by unfold Func.isWrapper; first | (rw [if_pos (by decide +kernel)]; kernel_rfl) | (rw [if_neg (by decide +kernel)]; exact ⟨rfl, rfl⟩))
    (fun os started H enc _ => lets_lifted os started H enc)
#print axioms lets_holds
end Go.Proofs.Ytoeokakcdfdjkaa
