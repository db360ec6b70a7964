/- Proved: whatever the two claimants and the others, supercargolaw47.DisputeBetter returns true and its arguments read as they read before. No condition. -/
import Derived.Test.YteecfjkljmmecaaGreatRows
import Derived.Test.YteecfjkljmmecaaGreatRd
import Derived.Test.YteecfjkljmmecaaGreatLg
import Derived.WalkKit
import Derived.ProofKit
namespace Go.Proofs.YteecfjkljmmecaaGreat
open Go.ChangeShapes Go.WideShapes Go.ChangeAt Go.RowKit
open Go.ChangeMaps (open_string shut_string)
theorem own0 : ownKnob Tryz.prog.godebug = none := by kernel_rfl
theorem laidOut0 : laidOutB Tryz.prog = true := by kernel_rfl
theorem Only.belowAll {w w' : World} (h : Only (fun _ => False) w w') : Below w.heap.size w w' := h.below _ (fun _ _ hf => hf.elim) (Nat.le_refl _)
set_option maxRecDepth 100000 in
theorem bettr_lifted (os : Os) (started : os.Started) (H : Type) (enc : TypeId × Value → H) :
    ReturnsInHanded {} Tryz.checked os 3 .any (Rows.disputeBetterSpec.pre6 enc Tryz.prog Tryz.f3 Rows.disputeBetterRow.domain false) (Rows.disputeBetterSpec.post enc Tryz.prog Tryz.f3 false true false false) := by
  refine returnsInHanded_of_change_sized (C := Tryz.checked) own0 started (by kernel_rfl) Tryz.func3
    (ChangeSpec.witness6 (enc := enc) (C := Tryz.checked) false ⟨#[], #[.agg #[.string ByteArray.empty, .string ByteArray.empty, .int .i64 0, .int .i64 0, .int .i64 0], .agg #[.string ByteArray.empty, .string ByteArray.empty, .int .i64 0, .int .i64 0, .int .i64 0], .slice none 0 0], []⟩ 8 (by kernel_rfl) (by kernel_rfl) (by kernel_rfl) (by kernel_rfl)) ?_
  intro W base args ds gs before hval0 hW hcnd hsz _
  have hval : ∀ (j : Nat) t v, Tryz.f3.params[j]? = some t → args[j]? = some v → Value.okWide Tryz.prog W .any base t v := hval0
  have hS : ∀ j t d, (Tryz.f3.params.toList ++ Rows.disputeBetterSpec.plain.varTypes Tryz.prog)[j]? = some t → (ds ++ gs)[j]? = some d → ∀ n ∈ DataW.weights Tryz.prog t d, n ≤ reachBytes := fun j t d ht hd n hn => by
    have := List.all_eq_true.1 hsz _ (DataW.weights_mem_each ht hd n hn)
    simpa using this
  have hW' := hW
  obtain ⟨p, q, hA0, hV, rfl, hfz, hnd⟩ := hW
  have hA : DataW.TrodAll enc Tryz.prog W 0 (fun _ => true) true Tryz.f3.params.toList args.toList ds p := hA0
  rw [Tryz.params3] at hA hval hS
  obtain ⟨v0, v1, v2, d0, d1, d2, p0, p1, p2, rfl, rfl, rfl, h0, h1, h2⟩ := trodAll_three hA
  obtain ⟨rfl, rfl⟩ := trodVars_none hV
  have k0 := h0
  have lt0 : ∀ x ∈ p0, x.block < W.heap.size := by obtain ⟨m, hm⟩ := k0; exact DataW.trod_lt m _ _ _ hm
  obtain ⟨a0, rfl, hK0, hN0, hT0⟩ : ∃ c : Clm, v0 = cVal c ∧ InKind c ∧ c.name.size ≤ 140737488351232 ∧ c.thing.size ≤ 140737488351232 := by obtain ⟨m, hm⟩ := k0; exact clm_val (Lib.hid (hval 0 23 v0 rfl rfl)) hm (hS 0 23 d0 rfl rfl)
  have k1 := h1
  have lt1 : ∀ x ∈ p1, x.block < W.heap.size := by obtain ⟨m, hm⟩ := k1; exact DataW.trod_lt m _ _ _ hm
  obtain ⟨a1, rfl, hK1, hN1, hT1⟩ : ∃ c : Clm, v1 = cVal c ∧ InKind c ∧ c.name.size ≤ 140737488351232 ∧ c.thing.size ≤ 140737488351232 := by obtain ⟨m, hm⟩ := k1; exact clm_val (Lib.hid (hval 1 23 v1 rfl rfl)) hm (hS 1 23 d1 rfl rfl)
  have k2 := h2
  have lt2 : ∀ x ∈ p2, x.block < W.heap.size := by obtain ⟨m, hm⟩ := k2; exact DataW.trod_lt m _ _ _ hm
  obtain ⟨s2, l2, c2, rfl⟩ := okWide_slice Tryz.underlying24 (hval 2 24 v2 rfl rfl)
  obtain ⟨a2, hx2, hR2, hK2, hl2, hs2⟩ : ∃ xs, ReadsC W (.slice s2 l2 c2) xs ∧ Reach xs ∧ (∀ c ∈ xs, InKind c) ∧ xs.length ≤ 2513169434843 ∧ (∀ a, s2 = some a → a.spot = none) := by obtain ⟨m, hm⟩ := k2; exact clms_of hm (Lib.hid (hval 2 24 (.slice s2 l2 c2) rfl rfl)) (hS 2 24 d2 rfl rfl)
  clear hA0 hval0
  refine (better_law W a0 a1 hx2 (fun A n c e a ha => hs2 a (by injection e with e1; rw [e1]; exact ha)) hR2 (fun x hx => by simp only [List.mem_cons, List.not_mem_nil, or_false] at hx; rcases hx with rfl | rfl <;> exact ⟨by assumption, by assumption⟩) hl2).mono fun e W' ⟨he, ho⟩ => ?_
  have bel := ho.belowAll
  subst he
  exact ⟨_, rfl, _, _, _, [], _, [], hW', trodAll_mk1 (shut_bool Tryz.underlying4 _), (trodAll_mk3 (Below.trod laidOut0 (by kernel_rfl) (of_decide_eq_true (by kernel_rfl)) k0 bel lt0) (Below.trod laidOut0 (by kernel_rfl) (of_decide_eq_true (by kernel_rfl)) k1 bel lt1) (Below.trod laidOut0 (by kernel_rfl) (of_decide_eq_true (by kernel_rfl)) k2 bel lt2)), rfl, bel.frame _, fun h => by cases h⟩
theorem bettr_holds : Rows.DisputeBetterSaid :=
  OpenClaim.holds_of_wide 3 Tryz.f3 rfl rfl rfl rfl rfl rfl rfl ⟨rfl, rfl, rfl, rfl, rfl⟩ rfl rfl rfl rfl rfl (by kernel_rfl) Tryz.func3 (by kernel_rfl)
    (of_decide_eq_true (by kernel_rfl)) (by unfold Func.isWrapper; first | (rw [if_pos (by decide +kernel)]; kernel_rfl) | (rw [if_neg (by decide +kernel)]; exact ⟨rfl, rfl⟩))
    (fun os started H enc _ => bettr_lifted os started H enc)
#print axioms bettr_holds
end Go.Proofs.YteecfjkljmmecaaGreat
