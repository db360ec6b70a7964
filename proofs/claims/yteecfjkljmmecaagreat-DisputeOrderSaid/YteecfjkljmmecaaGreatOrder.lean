/- Proved: whatever the claimants, the turn and the thing, supercargolaw47.DisputeOrder returns true and its arguments read as they read before. No condition. -/
import Derived.Test.YteecfjkljmmecaaGreatRows
import Derived.Test.YteecfjkljmmecaaGreatRd
import Derived.Test.YteecfjkljmmecaaGreatLe
import Derived.WalkKit
import Derived.ProofKit
namespace Go.Proofs.YteecfjkljmmecaaGreat
open Go.ChangeShapes Go.WideShapes Go.ChangeAt Go.RowKit
open Go.ChangeMaps (open_string shut_string)
theorem own0 : ownKnob Tryz.prog.godebug = none := by kernel_rfl
theorem laidOut0 : laidOutB Tryz.prog = true := by kernel_rfl
theorem Only.belowAll {w w' : World} (h : Only (fun _ => False) w w') : Below w.heap.size w w' := h.below _ (fun _ _ hf => hf.elim) (Nat.le_refl _)
set_option maxRecDepth 100000 in
theorem order_lifted (os : Os) (started : os.Started) (H : Type) (enc : TypeId × Value → H) :
    ReturnsInHanded {} Tryz.checked os 7 .any (Rows.disputeOrderSpec.pre6 enc Tryz.prog Tryz.f7 Rows.disputeOrderRow.domain false) (Rows.disputeOrderSpec.post enc Tryz.prog Tryz.f7 false true false false) := by
  refine returnsInHanded_of_change_sized (C := Tryz.checked) own0 started (by kernel_rfl) Tryz.func7
    (ChangeSpec.witness6 (enc := enc) (C := Tryz.checked) false ⟨#[], #[.slice none 0 0, .int .i64 0, .string ByteArray.empty], []⟩ 8 (by kernel_rfl) (by kernel_rfl) (by kernel_rfl) (by kernel_rfl)) ?_
  intro W base args ds gs before hval0 hW hcnd hsz _
  have hval : ∀ (j : Nat) t v, Tryz.f7.params[j]? = some t → args[j]? = some v → Value.okWide Tryz.prog W .any base t v := hval0
  have hS : ∀ j t d, (Tryz.f7.params.toList ++ Rows.disputeOrderSpec.plain.varTypes Tryz.prog)[j]? = some t → (ds ++ gs)[j]? = some d → ∀ n ∈ DataW.weights Tryz.prog t d, n ≤ reachBytes := fun j t d ht hd n hn => by
    have := List.all_eq_true.1 hsz _ (DataW.weights_mem_each ht hd n hn)
    simpa using this
  have hW' := hW
  obtain ⟨p, q, hA0, hV, rfl, hfz, hnd⟩ := hW
  have hA : DataW.TrodAll enc Tryz.prog W 0 (fun _ => true) true Tryz.f7.params.toList args.toList ds p := hA0
  rw [Tryz.params7] at hA hval hS
  obtain ⟨v0, v1, v2, d0, d1, d2, p0, p1, p2, rfl, rfl, rfl, h0, h1, h2⟩ := trodAll_three hA
  obtain ⟨rfl, rfl⟩ := trodVars_none hV
  have k0 := h0
  have lt0 : ∀ x ∈ p0, x.block < W.heap.size := by obtain ⟨m, hm⟩ := k0; exact DataW.trod_lt m _ _ _ hm
  obtain ⟨s0, l0, c0, rfl⟩ := okWide_slice Tryz.underlying24 (hval 0 24 v0 rfl rfl)
  obtain ⟨a0, hx0, hR0, hK0, hl0, hs0⟩ : ∃ xs, ReadsC W (.slice s0 l0 c0) xs ∧ Reach xs ∧ (∀ c ∈ xs, InKind c) ∧ xs.length ≤ 2513169434843 ∧ (∀ a, s0 = some a → a.spot = none) := by obtain ⟨m, hm⟩ := k0; exact clms_of hm (Lib.hid (hval 0 24 (.slice s0 l0 c0) rfl rfl)) (hS 0 24 d0 rfl rfl)
  obtain ⟨a1, rfl, rfl, rfl, w1⟩ := open_int Tryz.underlying3 (hval 1 3 v1 rfl rfl) h1
  obtain ⟨a2, rfl, rfl, rfl, w2⟩ := open_string Tryz.underlying9 (hval 2 9 v2 rfl rfl) h2
  clear hA0 hval0
  refine (order_law W a1 a2 hx0 (fun A n c e a ha => hs0 a (by injection e with e1; rw [e1]; exact ha)) (fun A n c e => by injection e with e1 e2 e3; rw [← e2, ← e3]; exact slice_cap Tryz.underlying24 (hval 0 24 (.slice s0 l0 c0) rfl rfl)) hR0 hl0).mono fun e W' ⟨he, ho⟩ => ?_
  have bel := ho.belowAll
  subst he
  exact ⟨_, rfl, _, _, _, [], _, [], hW', trodAll_mk1 (shut_bool Tryz.underlying4 _), (trodAll_mk3 (Below.trod laidOut0 (by kernel_rfl) (of_decide_eq_true (by kernel_rfl)) k0 bel lt0) (shut_int Tryz.underlying3 w1) (shut_string Tryz.underlying9 w2)), rfl, bel.frame _, fun h => by cases h⟩
theorem order_holds : Rows.DisputeOrderSaid :=
  OpenClaim.holds_of_wide 7 Tryz.f7 rfl rfl rfl rfl rfl rfl rfl ⟨rfl, rfl, rfl, rfl, rfl⟩ rfl rfl rfl rfl rfl (by kernel_rfl) Tryz.func7 (by kernel_rfl)
    (of_decide_eq_true (by kernel_rfl)) (by unfold Func.isWrapper; first | (rw [if_pos (by decide +kernel)]; kernel_rfl) | (rw [if_neg (by decide +kernel)]; exact ⟨rfl, rfl⟩))
    (fun os started H enc _ => order_lifted os started H enc)
#print axioms order_holds
end Go.Proofs.YteecfjkljmmecaaGreat
