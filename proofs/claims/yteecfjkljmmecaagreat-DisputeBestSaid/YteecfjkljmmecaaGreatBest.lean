/- Proved: whatever the claimants, supercargolaw47.DisputeBest returns true and its arguments read as they read before. No condition. -/
import Derived.Test.YteecfjkljmmecaaGreatRows
import Derived.Test.YteecfjkljmmecaaGreatRd
import Derived.Test.YteecfjkljmmecaaGreatLb
import Derived.WalkKit
import Derived.ProofKit
namespace Go.Proofs.YteecfjkljmmecaaGreat
open Go.ChangeShapes Go.WideShapes Go.ChangeAt Go.RowKit
open Go.ChangeMaps (open_string shut_string)
theorem own0 : ownKnob Tryz.prog.godebug = none := by kernel_rfl
theorem laidOut0 : laidOutB Tryz.prog = true := by kernel_rfl
theorem Only.belowAll {w w' : World} (h : Only (fun _ => False) w w') : Below w.heap.size w w' := h.below _ (fun _ _ hf => hf.elim) (Nat.le_refl _)
set_option maxRecDepth 100000 in
theorem best_lifted (os : Os) (started : os.Started) (H : Type) (enc : TypeId × Value → H) :
    ReturnsInHanded {} Tryz.checked os 6 .any (Rows.disputeBestSpec.pre6 enc Tryz.prog Tryz.f6 Rows.disputeBestRow.domain false) (Rows.disputeBestSpec.post enc Tryz.prog Tryz.f6 false true false false) := by
  refine returnsInHanded_of_change_sized (C := Tryz.checked) own0 started (by kernel_rfl) Tryz.func6
    (ChangeSpec.witness6 (enc := enc) (C := Tryz.checked) false ⟨#[], #[.slice none 0 0], []⟩ 8 (by kernel_rfl) (by kernel_rfl) (by kernel_rfl) (by kernel_rfl)) ?_
  intro W base args ds gs before hval0 hW hcnd hsz _
  have hval : ∀ (j : Nat) t v, Tryz.f6.params[j]? = some t → args[j]? = some v → Value.okWide Tryz.prog W .any base t v := hval0
  have hS : ∀ j t d, (Tryz.f6.params.toList ++ Rows.disputeBestSpec.plain.varTypes Tryz.prog)[j]? = some t → (ds ++ gs)[j]? = some d → ∀ n ∈ DataW.weights Tryz.prog t d, n ≤ reachBytes := fun j t d ht hd n hn => by
    have := List.all_eq_true.1 hsz _ (DataW.weights_mem_each ht hd n hn)
    simpa using this
  have hW' := hW
  obtain ⟨p, q, hA0, hV, rfl, hfz, hnd⟩ := hW
  have hA : DataW.TrodAll enc Tryz.prog W 0 (fun _ => true) true Tryz.f6.params.toList args.toList ds p := hA0
  rw [Tryz.params6] at hA hval hS
  obtain ⟨v0, d0, rfl, rfl, h0⟩ := trodAll_one hA
  obtain ⟨rfl, rfl⟩ := trodVars_none hV
  have k0 := h0
  have lt0 : ∀ x ∈ p, x.block < W.heap.size := by obtain ⟨m, hm⟩ := k0; exact DataW.trod_lt m _ _ _ hm
  obtain ⟨s0, l0, c0, rfl⟩ := okWide_slice Tryz.underlying24 (hval 0 24 v0 rfl rfl)
  obtain ⟨a0, hx0, hR0, hK0, hl0, hs0⟩ : ∃ xs, ReadsC W (.slice s0 l0 c0) xs ∧ Reach xs ∧ (∀ c ∈ xs, InKind c) ∧ xs.length ≤ 2513169434843 ∧ (∀ a, s0 = some a → a.spot = none) := by obtain ⟨m, hm⟩ := k0; exact clms_of hm (Lib.hid (hval 0 24 (.slice s0 l0 c0) rfl rfl)) (hS 0 24 d0 rfl rfl)
  clear hA0 hval0
  refine (best_law W hx0 (fun A n c e a ha => hs0 a (by injection e with e1; rw [e1]; exact ha)) hR0 hl0).mono fun e W' ⟨he, ho⟩ => ?_
  have bel := ho.belowAll
  subst he
  exact ⟨_, rfl, _, _, _, [], _, [], hW', trodAll_mk1 (shut_bool Tryz.underlying4 _), (trodAll_mk1 (Below.trod laidOut0 (by kernel_rfl) (of_decide_eq_true (by kernel_rfl)) k0 bel lt0)), rfl, bel.frame _, fun h => by cases h⟩
theorem best_holds : Rows.DisputeBestSaid :=
  OpenClaim.holds_of_wide 6 Tryz.f6 rfl rfl rfl rfl rfl rfl rfl ⟨rfl, rfl, rfl, rfl, rfl⟩ rfl rfl rfl rfl rfl (by kernel_rfl) Tryz.func6 (by kernel_rfl)
    (of_decide_eq_true (by kernel_rfl)) (by unfold Func.isWrapper; first | (rw [if_pos (by decide +kernel)]; kernel_rfl) | (rw [if_neg (by decide +kernel)]; exact ⟨rfl, rfl⟩))
    (fun os started H enc _ => best_lifted os started H enc)
#print axioms best_holds
end Go.Proofs.YteecfjkljmmecaaGreat
