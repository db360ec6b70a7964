/- Proved: whatever the three claimants, supercargolaw47.DisputeOrders returns true and its arguments read as they read before. No condition. -/
import Derived.Test.YteecfjkljmmecaaGreatRows
import Derived.Test.YteecfjkljmmecaaGreatRd
import Derived.Test.YteecfjkljmmecaaGreatLo
import Derived.WalkKit
import Derived.ProofKit
namespace Go.Proofs.YteecfjkljmmecaaGreat
open Go.ChangeShapes Go.WideShapes Go.ChangeAt Go.RowKit
open Go.ChangeMaps (open_string shut_string)
theorem own0 : ownKnob Tryz.prog.godebug = none := by kernel_rfl
theorem laidOut0 : laidOutB Tryz.prog = true := by kernel_rfl
theorem Only.belowAll {w w' : World} (h : Only (fun _ => False) w w') : Below w.heap.size w w' := h.below _ (fun _ _ hf => hf.elim) (Nat.le_refl _)
set_option maxRecDepth 100000 in
theorem orders_lifted (os : Os) (started : os.Started) (H : Type) (enc : TypeId × Value → H) :
    ReturnsInHanded {} Tryz.checked os 5 .any (Rows.disputeOrdersSpec.pre6 enc Tryz.prog Tryz.f5 Rows.disputeOrdersRow.domain false) (Rows.disputeOrdersSpec.post enc Tryz.prog Tryz.f5 false true false false) := by
  refine returnsInHanded_of_change_sized (C := Tryz.checked) own0 started (by kernel_rfl) Tryz.func5
    (ChangeSpec.witness6 (enc := enc) (C := Tryz.checked) false ⟨#[], #[.agg #[.string ByteArray.empty, .string ByteArray.empty, .int .i64 0, .int .i64 0, .int .i64 0], .agg #[.string ByteArray.empty, .string ByteArray.empty, .int .i64 0, .int .i64 0, .int .i64 0], .agg #[.string ByteArray.empty, .string ByteArray.empty, .int .i64 0, .int .i64 0, .int .i64 0]], []⟩ 8 (by kernel_rfl) (by kernel_rfl) (by kernel_rfl) (by kernel_rfl)) ?_
  intro W base args ds gs before hval0 hW hcnd hsz _
  have hval : ∀ (j : Nat) t v, Tryz.f5.params[j]? = some t → args[j]? = some v → Value.okWide Tryz.prog W .any base t v := hval0
  have hS : ∀ j t d, (Tryz.f5.params.toList ++ Rows.disputeOrdersSpec.plain.varTypes Tryz.prog)[j]? = some t → (ds ++ gs)[j]? = some d → ∀ n ∈ DataW.weights Tryz.prog t d, n ≤ reachBytes := fun j t d ht hd n hn => by
    have := List.all_eq_true.1 hsz _ (DataW.weights_mem_each ht hd n hn)
    simpa using this
  have hW' := hW
  obtain ⟨p, q, hA0, hV, rfl, hfz, hnd⟩ := hW
  have hA : DataW.TrodAll enc Tryz.prog W 0 (fun _ => true) true Tryz.f5.params.toList args.toList ds p := hA0
  rw [Tryz.params5] at hA hval hS
  obtain ⟨v0, v1, v2, d0, d1, d2, p0, p1, p2, rfl, rfl, rfl, h0, h1, h2⟩ := trodAll_three hA
  obtain ⟨rfl, rfl⟩ := trodVars_none hV
  have k0 := h0
  have k1 := h1
  have k2 := h2
  have lt0 : ∀ x ∈ p0, x.block < W.heap.size := by obtain ⟨m, hm⟩ := k0; exact DataW.trod_lt m _ _ _ hm
  have lt1 : ∀ x ∈ p1, x.block < W.heap.size := by obtain ⟨m, hm⟩ := k1; exact DataW.trod_lt m _ _ _ hm
  have lt2 : ∀ x ∈ p2, x.block < W.heap.size := by obtain ⟨m, hm⟩ := k2; exact DataW.trod_lt m _ _ _ hm
  obtain ⟨a, rfl, _, a1, a2⟩ : ∃ c : Clm, v0 = cVal c ∧ InKind c ∧ c.name.size ≤ 140737488351232 ∧ c.thing.size ≤ 140737488351232 := by obtain ⟨m, hm⟩ := k0; exact clm_val (Lib.hid (hval 0 23 v0 rfl rfl)) hm (hS 0 23 d0 rfl rfl)
  obtain ⟨b, rfl, _, b1, b2⟩ : ∃ c : Clm, v1 = cVal c ∧ InKind c ∧ c.name.size ≤ 140737488351232 ∧ c.thing.size ≤ 140737488351232 := by obtain ⟨m, hm⟩ := k1; exact clm_val (Lib.hid (hval 1 23 v1 rfl rfl)) hm (hS 1 23 d1 rfl rfl)
  obtain ⟨c, rfl, _, c1, c2⟩ : ∃ c : Clm, v2 = cVal c ∧ InKind c ∧ c.name.size ≤ 140737488351232 ∧ c.thing.size ≤ 140737488351232 := by obtain ⟨m, hm⟩ := k2; exact clm_val (Lib.hid (hval 2 23 v2 rfl rfl)) hm (hS 2 23 d2 rfl rfl)
  clear hA0 hval0
  refine (orders_law W a b c (fun x hx => by simp only [List.mem_cons, List.not_mem_nil, or_false] at hx; rcases hx with rfl | rfl | rfl <;> exact ⟨by assumption, by assumption⟩)).mono fun e W' ⟨he, ho⟩ => ?_
  have bel := ho.belowAll
  subst he
  exact ⟨_, rfl, _, _, _, [], _, [], hW', trodAll_mk1 (shut_bool Tryz.underlying4 _), (trodAll_mk3 (Below.trod laidOut0 (by kernel_rfl) (of_decide_eq_true (by kernel_rfl)) k0 bel lt0) (Below.trod laidOut0 (by kernel_rfl) (of_decide_eq_true (by kernel_rfl)) k1 bel lt1) (Below.trod laidOut0 (by kernel_rfl) (of_decide_eq_true (by kernel_rfl)) k2 bel lt2)), rfl, bel.frame _, fun h => by cases h⟩
theorem orders_holds : Rows.DisputeOrdersSaid :=
  OpenClaim.holds_of_wide 5 Tryz.f5 rfl rfl rfl rfl rfl rfl rfl ⟨rfl, rfl, rfl, rfl, rfl⟩ rfl rfl rfl rfl rfl (by kernel_rfl) Tryz.func5 (by kernel_rfl)
    (of_decide_eq_true (by kernel_rfl)) (by unfold Func.isWrapper; first | (rw [if_pos (by decide +kernel)]; kernel_rfl) | (rw [if_neg (by decide +kernel)]; exact ⟨rfl, rfl⟩))
    (fun os started H enc _ => orders_lifted os started H enc)
#print axioms orders_holds
end Go.Proofs.YteecfjkljmmecaaGreat
