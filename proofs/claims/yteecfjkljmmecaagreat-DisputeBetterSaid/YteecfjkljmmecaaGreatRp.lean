/- PURE: claimants put in their places one by one come to the same order. -/
import Derived.Test.YteecfjkljmmecaaGreatAp
import Derived.Test.YteecfjkljmmecaaGreatRf
namespace Go.Proofs.YteecfjkljmmecaaGreat
open Go.RowKit Go.Sort Go.Shelf
/-- Where x is put: before the first one that it stands ahead of. -/
def insAt (out : List Clm) (x : Clm) : Nat := (out.findIdx fun y => decide (-cmpM y x < 0))
def insM (out : List Clm) (x : Clm) : List Clm := out.take (insAt out x) ++ [x] ++ out.drop (insAt out x)
def refRank (l : List Clm) : List Clm := l.foldl insM []
theorem refRank_step {l : List Clm} {i : Nat} {c : Clm} (h : l[i]? = some c) : refRank (l.take (i + 1)) = insM (refRank (l.take i)) c := by
  unfold refRank
  rw [List.take_add_one, h, List.foldl_append]
  rfl
theorem ins_neg {y x : Clm} : (decide (-cmpM y x < 0)) = true ↔ Ahead x y := by
  rw [decide_eq_true_iff, ← cmpM_neg, cmpM_swap y x]
theorem insAt_le (out : List Clm) (x : Clm) : insAt out x ≤ out.length := List.findIdx_le_length
theorem insAt_before {out : List Clm} {x : Clm} {j : Nat} {y : Clm} (hj : j < insAt out x) (hy : out[j]? = some y) : ¬ -cmpM y x < 0 := by
  unfold insAt at hj
  have h := List.not_of_lt_findIdx hj
  obtain ⟨h1, rfl⟩ := List.getElem?_eq_some_iff.1 hy
  simpa using h
theorem insAt_here {out : List Clm} {x : Clm} {y : Clm} (hy : out[insAt out x]? = some y) : -cmpM y x < 0 := by
  obtain ⟨h1, rfl⟩ := List.getElem?_eq_some_iff.1 hy
  have := List.findIdx_getElem (w := h1)
  simpa [insAt] using this
/-- Stopped at k: nobody before is worse, and here somebody is, or the end. -/
theorem insAt_eq {out : List Clm} {x : Clm} {k : Nat} (hk : k ≤ out.length) (h1 : ∀ j y, j < k → out[j]? = some y → ¬ -cmpM y x < 0) (h2 : ∀ y, out[k]? = some y → -cmpM y x < 0) : insAt out x = k := by
  apply Nat.le_antisymm
  · apply Nat.le_of_not_lt
    intro hlt
    have hk2 : k < out.length := Nat.lt_of_lt_of_le hlt (insAt_le _ _)
    exact insAt_before hlt (List.getElem?_eq_getElem hk2) (h2 _ (List.getElem?_eq_getElem hk2))
  · apply Nat.le_of_not_lt
    intro hlt
    have hk2 : insAt out x < out.length := Nat.lt_of_lt_of_le hlt hk
    exact h1 _ _ hlt (List.getElem?_eq_getElem hk2) (insAt_here (List.getElem?_eq_getElem hk2))
theorem insM_perm (out : List Clm) (x : Clm) : (insM out x).Perm (x :: out) := by
  unfold insM
  conv => rhs; rw [← List.take_append_drop (insAt out x) out]
  rw [List.append_assoc]
  exact List.perm_middle
theorem insM_length (out : List Clm) (x : Clm) : (insM out x).length = out.length + 1 := by rw [(insM_perm out x).length_eq]; rfl
theorem insM_sorted {out : List Clm} {x : Clm} (h : out.Pairwise fun a b => ¬ Ahead b a) : (insM out x).Pairwise fun a b => ¬ Ahead b a := by
  have hk : ∀ y ∈ out.take (insAt out x), ¬ Ahead x y := fun y hy => by
    obtain ⟨j, hj, rfl⟩ := List.mem_iff_getElem.1 hy
    have hj2 : j < insAt out x ∧ j < out.length := by rw [List.length_take] at hj; omega
    rw [List.getElem_take]
    intro ha
    exact insAt_before hj2.1 (List.getElem?_eq_getElem hj2.2) (by simpa using ins_neg.2 ha)
  have hd : ∀ y ∈ out.drop (insAt out x), ¬ Ahead y x := fun y hy => by
    by_cases hlt : insAt out x < out.length
    · have h0 := insAt_here (List.getElem?_eq_getElem hlt)
      have h1 : Ahead x out[insAt out x] := ins_neg.1 (by simpa using h0)
      obtain ⟨j, hj, rfl⟩ := List.mem_iff_getElem.1 hy
      rw [List.getElem_drop]
      rw [List.length_drop] at hj
      intro ha
      have h2 := ha.trans h1
      by_cases e : j = 0
      · subst e
        simp only [Nat.add_zero] at h2
        exact Ahead.irrefl _ h2
      · exact List.pairwise_iff_getElem.1 h (insAt out x) (insAt out x + j) hlt (by omega) (by omega) h2
    · rw [List.drop_eq_nil_of_le (by omega)] at hy
      simp at hy
  unfold insM
  rw [List.append_assoc, List.pairwise_append]
  refine ⟨h.sublist (List.take_sublist _ _), ?_, fun a ha b hb => ?_⟩
  · rw [List.singleton_append, List.pairwise_cons]
    exact ⟨hd, h.sublist (List.drop_sublist _ _)⟩
  · rw [List.singleton_append, List.mem_cons] at hb
    rcases hb with rfl | hb
    · exact hk a ha
    · have hp := h
      rw [← List.take_append_drop (insAt out x) out, List.pairwise_append] at hp
      exact hp.2.2 a ha b hb
theorem refRank_perm (l : List Clm) : (refRank l).Perm l := by
  have key : ∀ (l m : List Clm), (l.foldl insM m).Perm (m ++ l) := by
    intro l
    induction l with
    | nil => intro m; simp
    | cons x r ih =>
      intro m
      rw [List.foldl_cons]
      refine (ih (insM m x)).trans ?_
      refine ((insM_perm m x).append_right r).trans ?_
      rw [List.cons_append]
      exact List.perm_middle.symm
  simpa [refRank] using key l []
theorem refRank_sorted (l : List Clm) : (refRank l).Pairwise fun a b => ¬ Ahead b a := by
  have key : ∀ (l m : List Clm), (m.Pairwise fun a b => ¬ Ahead b a) → (l.foldl insM m).Pairwise fun a b => ¬ Ahead b a := by
    intro l
    induction l with
    | nil => intro m h; exact h
    | cons x r ih => intro m h; exact ih _ (insM_sorted h)
  exact key l [] .nil
/-- Of one order there is one row. -/
theorem sorted_one : ∀ {xs ys : List Clm}, (xs.Pairwise fun a b => ¬ Ahead b a) → (ys.Pairwise fun a b => ¬ Ahead b a) → xs.Perm ys → xs = ys
  | [], ys, _, _, h => (List.nil_perm.1 h).symm
  | x :: xs, [], _, _, h => by have := h.length_eq; simp at this
  | x :: xs, y :: ys, hx, hy, h => by
    rw [List.pairwise_cons] at hx hy
    have e : x = y := by
      apply Classical.byContradiction
      intro hne
      have hxy : x ∈ ys := by
        rcases List.mem_cons.1 (h.mem_iff.1 (by simp : x ∈ x :: xs)) with e | h1
        · exact absurd e hne
        · exact h1
      have hyx : y ∈ xs := by
        rcases List.mem_cons.1 (h.mem_iff.2 (by simp : y ∈ y :: ys)) with e | h1
        · exact absurd e.symm hne
        · exact h1
      exact hx.1 y hyx (Ahead.total (hy.1 x hxy) hne)
    subst e
    rw [sorted_one hx.2 hy.2 (List.perm_cons x |>.1 h)]
theorem refRank_eq (l : List Clm) : refRank l = rankM l := sorted_one (refRank_sorted l) (rankM_sorted l) ((refRank_perm l).trans (rankM_perm l).symm)
theorem refRank_length (l : List Clm) : (refRank l).length = l.length := (refRank_perm l).length_eq
end Go.Proofs.YteecfjkljmmecaaGreat
