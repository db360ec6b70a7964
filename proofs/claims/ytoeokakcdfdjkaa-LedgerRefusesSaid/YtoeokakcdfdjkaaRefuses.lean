/- Proved: whatever the acts and the further act, supercargolaw36.LedgerRefuses returns true and its arguments read as they read before. No condition. -/
import Derived.Test.YtoeokakcdfdjkaaRows
import Derived.Test.YtoeokakcdfdjkaaRd
import Derived.Test.YtoeokakcdfdjkaaWx
import Derived.WalkKit
import Derived.ProofKit
namespace Go.Proofs.Ytoeokakcdfdjkaa
open Go.ChangeShapes Go.WideShapes Go.ChangeAt Go.RowKit
open Go.ChangeMaps (open_string shut_string)
theorem own0 : ownKnob Try.prog.godebug = none := by kernel_rfl
theorem laidOut0 : laidOutB Try.prog = true := by kernel_rfl
theorem Only.belowAll {w w' : World} (h : Only (fun _ => False) w w') : Below w.heap.size w w' := h.below _ (fun _ _ hf => hf.elim) (Nat.le_refl _)
theorem act_cs {cs : Array Value} {u0 u1 u2 u3 u4 u5 : Value} (hsz : cs.size = 6) (e0 : cs.toList[0]? = some u0) (e1 : cs.toList[1]? = some u1) (e2 : cs.toList[2]? = some u2) (e3 : cs.toList[3]? = some u3) (e4 : cs.toList[4]? = some u4) (e5 : cs.toList[5]? = some u5) : cs = #[u0, u1, u2, u3, u4, u5] := by
  obtain ⟨li⟩ := cs
  have hl6 : li.length = 6 := by simpa using hsz
  match li, hl6 with
  | [w0, w1, w2, w3, w4, w5], _ =>
    simp at e0 e1 e2 e3 e4 e5
    rw [e0, e1, e2, e3, e4, e5]
set_option maxRecDepth 100000 in
theorem refuses_lifted (os : Os) (started : os.Started) (H : Type) (enc : TypeId × Value → H) :
    ReturnsInHanded {} Try.checked os 6 .any (Rows.ledgerRefusesSpec.pre6 enc Try.prog Try.f6 Rows.ledgerRefusesRow.domain false) (Rows.ledgerRefusesSpec.post enc Try.prog Try.f6 false true false false) := by
  refine returnsInHanded_of_change (C := Try.checked) own0 started (by kernel_rfl) Try.func6
    (ChangeSpec.witness6 (enc := enc) (C := Try.checked) false ⟨#[], #[.slice none 0 0, .agg #[.int .u8 0, .string ByteArray.empty, .string ByteArray.empty, .string ByteArray.empty, .int .i64 0, .slice none 0 0]], []⟩ 8 (by kernel_rfl) (by kernel_rfl) (by kernel_rfl) (by kernel_rfl)) ?_
  intro W base args ds gs before hval0 hW hcnd _
  have hval : ∀ (j : Nat) t v, Try.f6.params[j]? = some t → args[j]? = some v → Value.okWide Try.prog W .any base t v := hval0
  have hW' := hW
  obtain ⟨p, q, hA0, hV, rfl, hfz, hnd⟩ := hW
  have hA : DataW.TrodAll enc Try.prog W 0 (fun _ => true) true Try.f6.params.toList args.toList ds p := hA0
  rw [Try.params6] at hA hval
  obtain ⟨v0, v1, d0, d1, p0, p1, rfl, rfl, rfl, h0, h1⟩ := trodAll_two hA
  obtain ⟨rfl, rfl⟩ := trodVars_none hV
  obtain ⟨a0, l0, c0, rfl⟩ := okWide_slice Try.underlying22 (hval 0 22 v0 rfl rfl)
  have k0 := h0
  have lt0 : ∀ x ∈ p0, x.block < W.heap.size := by obtain ⟨m, hm⟩ := k0; exact DataW.trod_lt m _ _ _ hm
  obtain ⟨xs, hx, hl⟩ : ∃ xs, ReadsActs W W.heap.size (.slice a0 l0 c0) xs ∧ xs.length ≤ 9223372036854775807 := by obtain ⟨m, hm⟩ := k0; exact acts_of hm
  obtain ⟨cs, rfl, hsz⟩ := okWide_struct Try.underlying31 (hval 1 31 v1 rfl rfl)
  have k1 := h1
  have lt1 : ∀ x ∈ p1, x.block < W.heap.size := by obtain ⟨m, hm⟩ := k1; exact DataW.trod_lt m _ _ _ hm
  obtain ⟨y, lv, y0, y1, e0, e1, e2, e3, e4, e5, hre, hbl⟩ : ∃ (y : ActM) (lv : Value), 0 ≤ y.kind ∧ y.kind ≤ 255 ∧ cs.toList[0]? = some (.int .u8 y.kind) ∧ cs.toList[1]? = some (.string y.a) ∧ cs.toList[2]? = some (.string y.b) ∧ cs.toList[3]? = some (.string y.c) ∧ cs.toList[4]? = some (.int .i64 y.n) ∧
    cs.toList[5]? = some lv ∧ ReadsEnts W lv y.l ∧ (0 < y.l.length → ∀ b, lv.ownBlock = some b → b < W.heap.size) := by obtain ⟨m, hm⟩ := k1; exact act_of hm
  have hcs := act_cs (hsz.trans cells31) e0 e1 e2 e3 e4 e5
  subst hcs
  clear hA0 hval0
  refine (refuses_law hx hl y ⟨y0, y1⟩ hre hbl).mono fun e W' ⟨he, ho⟩ => ?_
  have bel := ho.belowAll
  subst he
  exact ⟨_, rfl, _, _, _, [], _, [], hW', trodAll_mk1 (shut_bool Try.underlying4 _), (trodAll_mk2 (Below.trod laidOut0 (by kernel_rfl) (of_decide_eq_true (by kernel_rfl)) k0 bel lt0) (Below.trod laidOut0 (by kernel_rfl) (of_decide_eq_true (by kernel_rfl)) k1 bel lt1)), rfl, bel.frame _, fun h => by cases h⟩
theorem refuses_holds : Rows.LedgerRefusesSaid :=
  OpenClaim.holds_of_wide 6 Try.f6 rfl rfl rfl rfl rfl rfl rfl ⟨rfl, rfl, rfl, rfl, rfl⟩ rfl rfl rfl rfl rfl (by kernel_rfl) Try.func6 (by kernel_rfl)
    (of_decide_eq_true (by kernel_rfl)) (by unfold Func.isWrapper; first | (rw [if_pos (by decide +kernel)]; kernel_rfl) | (rw [if_neg (by decide +kernel)]; exact ⟨rfl, rfl⟩))
    (fun os started H enc _ => refuses_lifted os started H enc)
#print axioms refuses_holds
end Go.Proofs.Ytoeokakcdfdjkaa
