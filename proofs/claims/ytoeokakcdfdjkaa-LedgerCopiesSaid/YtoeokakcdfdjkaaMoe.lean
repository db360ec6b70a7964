/- THE LEDGER, PURE: changes summed, accounts changed one by one. -/
import Derived.Test.YtoeokakcdfdjkaaMod
namespace Go.Proofs.Ytoeokakcdfdjkaa
open Go.RowKit

theorem akeys_addAll (A : List (Key × Acct)) (D : List (Key × Int)) : akeys (addAll A D) = akeys A := by simp [akeys, addAll]
theorem aget_addAll (A : List (Key × Acct)) (D : List (Key × Int)) (k : Key) : aget (addAll A D) k = (aget A k).map fun a => { a with bal := a.bal + (aget D k).getD 0 } := by
  induction A with
  | nil => rfl
  | cons p r ih =>
    obtain ⟨j, a⟩ := p
    by_cases h : j = k
    · subst h; simp [addAll, aget]
    · simp only [addAll, List.map_cons, aget, h, if_false]
      exact ih
theorem addAll_nil (A : List (Key × Acct)) : addAll A [] = A := by
  unfold addAll
  conv => rhs; rw [← List.map_id A]
  refine List.map_congr_left fun p _ => ?_
  simp [aget]
theorem acctOr_addAll {A : List (Key × Acct)} {D : List (Key × Int)} {k : Key} (h : k ∉ akeys D) : acctOr (addAll A D) k = acctOr A k := by
  unfold acctOr
  rw [aget_addAll, aget_none.2 h]
  cases aget A k <;> simp
theorem aget_snoc {K V : Type} [DecidableEq K] (l : List (K × V)) (k j : K) (v : V) : aget (l ++ [(k, v)]) j = (aget l j).or (if k = j then some v else none) := by
  induction l with
  | nil => simp [aget]
  | cons p r ih =>
    obtain ⟨i, u⟩ := p
    by_cases h : i = j
    · simp [aget, h]
    · simp [aget, h, ih]
theorem map_put {A : List (Key × Acct)} (hn : (akeys A).Nodup) {k : Key} {a : Acct} (f : Key → Acct → Acct) (g : Key → Acct → Acct) (hk : k ∈ akeys A) (hg : ∀ j, j ≠ k → ∀ b, g j b = f j b) (ha : ∀ b, aget A k = some b → g k b = a) :
    aput (A.map fun p => (p.1, f p.1 p.2)) k a = A.map fun p => (p.1, g p.1 p.2) := by
  induction A with
  | nil => simp [akeys] at hk
  | cons p r ih =>
    obtain ⟨j, b⟩ := p
    simp only [akeys, List.map_cons, List.nodup_cons, List.mem_cons] at hn hk
    by_cases h : j = k
    · subst h
      simp only [List.map_cons, aput, if_true]
      rw [ha b (by simp [aget])]
      congr 1
      refine List.map_congr_left fun p hp => ?_
      have : p.1 ≠ j := fun e => hn.1 (List.mem_map.2 ⟨p, hp, e⟩)
      rw [hg _ this]
    · have hk' : k ∈ akeys r := (hk.resolve_left fun e => h e.symm)
      simp only [List.map_cons, aput, h, if_false]
      rw [ih hn.2 hk' (fun b hb => ha b (by simp [aget, h, hb])), hg j h]
theorem addAll_step {A : List (Key × Acct)} (hn : (akeys A).Nodup) {D : List (Key × Int)} {k : Key} {n : Int} (hk : k ∈ akeys A) (hD : k ∉ akeys D) :
    aput (addAll A D) k { acctOr A k with bal := (acctOr A k).bal + n } = addAll A (D ++ [(k, n)]) := by
  unfold addAll
  refine map_put hn (fun j a => { a with bal := a.bal + (aget D j).getD 0 }) (fun j a => { a with bal := a.bal + (aget (D ++ [(k, n)]) j).getD 0 }) hk (fun j hj b => ?_) (fun b hb => ?_)
  · simp [aget_snoc, Ne.symm hj]
  · rw [acctOr_of hb]
    simp [aget_snoc, aget_none.2 hD]
theorem aget_perm {K V : Type} [DecidableEq K] {l m : List (K × V)} (hn : (akeys l).Nodup) (h : l.Perm m) (k : K) : aget l k = aget m k := by
  have hn' : (akeys m).Nodup := (h.map _).nodup_iff.1 hn
  cases hl : aget l k with
  | some v => exact (aget_of_mem hn' (h.mem_iff.1 (aget_mem hl))).symm
  | none =>
    symm
    rw [aget_none] at hl ⊢
    exact fun hk => hl ((h.map _).mem_iff.2 hk)
theorem addAll_perm {A : List (Key × Acct)} {D E : List (Key × Int)} (hn : (akeys D).Nodup) (h : D.Perm E) : addAll A D = addAll A E := by
  unfold addAll
  refine List.map_congr_left fun p _ => ?_
  rw [aget_perm hn h]
end Go.Proofs.Ytoeokakcdfdjkaa
