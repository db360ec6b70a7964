/- PURE: what dispute.Money computes. -/
import Derived.Test.YteecfjkljmmecaaGreatSv
namespace Go.Proofs.YteecfjkljmmecaaGreat
open Go.RowKit Go.Sort Go.Shelf
/-- The places of a right's claimants, and their amounts. -/
def placesM (l : List Clm) (r : Int) : List Nat := ((List.range l.length).filter fun i => decide ((l[i]?.map (·.right)) = some r))
def amountsM (l : List Clm) (r : Int) : List Int := (l.filter fun c => decide (c.right = r)).map (·.amt)
def putM (out : List Int) : List Nat → List Int → List Int
  | k :: ks, a :: am => putM (out.set k a) ks am
  | _, _ => out
def roundM (l : List Clm) (r : Int) (s : List Int × Int) : List Int × Int :=
  if s.2 < sumI (amountsM l r) then (putM s.1 (placesM l r) (splitM s.2 (amountsM l r)), 0)
  else (putM s.1 (placesM l r) (amountsM l r), s.2 - sumI (amountsM l r))
def moneyM (pot : Int) (l : List Clm) : List Int × Int := [0, 1, 2, 3, 4].foldl (fun s r => roundM l r s) (l.map fun _ => 0, pot)
theorem putM_length (ks : List Nat) (am out : List Int) : (putM out ks am).length = out.length := by
  induction ks generalizing am out with
  | nil => cases am <;> rfl
  | cons k r ih =>
    cases am with
    | nil => rfl
    | cons a am => unfold putM; rw [ih, List.length_set]
theorem roundM_length (l : List Clm) (r : Int) (s : List Int × Int) : (roundM l r s).1.length = s.1.length := by
  unfold roundM
  split <;> exact putM_length _ _ _
theorem placesM_lt {l : List Clm} {r : Int} {k : Nat} (h : k ∈ placesM l r) : k < l.length := by
  unfold placesM at h
  exact List.mem_range.1 (List.mem_filter.1 h).1
theorem splitM_length (t : Int) (ws : List Int) : (splitM t ws).length = ws.length := by
  unfold splitM
  split
  · rw [List.length_map]
  · rw [bump_length, List.length_map]
/-- Why Money says no. -/
def moneyErr (pot : Int) (l : List Clm) : Int := if allM l = 1 ∨ pot < 0 ∨ 1099511627776 < pot then 1 else allM l
def placesT (l : List Clm) (r : Int) (i : Nat) : List Nat := ((List.range i).filter fun i => decide ((l[i]?.map (·.right)) = some r))
def amountsT (l : List Clm) (r : Int) (i : Nat) : List Int := ((l.take i).filter fun c => decide (c.right = r)).map (·.amt)
theorem placesT_all (l : List Clm) (r : Int) : placesT l r l.length = placesM l r := rfl
theorem amountsT_all (l : List Clm) (r : Int) : amountsT l r l.length = amountsM l r := by unfold amountsT amountsM; rw [List.take_length]
theorem placesT_step {l : List Clm} {r : Int} {i : Nat} {c : Clm} (h : l[i]? = some c) : placesT l r (i + 1) = if c.right = r then placesT l r i ++ [i] else placesT l r i := by
  unfold placesT
  rw [List.range_succ, List.filter_append]
  by_cases hr : c.right = r
  · simp [h, hr]
  · simp [h, hr]
theorem amountsT_step {l : List Clm} {r : Int} {i : Nat} {c : Clm} (h : l[i]? = some c) : amountsT l r (i + 1) = if c.right = r then amountsT l r i ++ [c.amt] else amountsT l r i := by
  unfold amountsT
  rw [List.take_add_one, h, List.filter_append, List.map_append]
  by_cases hr : c.right = r
  · simp [hr]
  · simp [hr]
theorem placesT_length (l : List Clm) (r : Int) (i : Nat) (h : i ≤ l.length) : (placesT l r i).length = (amountsT l r i).length := by
  induction i with
  | zero => simp [placesT, amountsT]
  | succ n ih =>
    have hn : l[n]? = some l[n] := List.getElem?_eq_getElem (by omega)
    rw [placesT_step hn, amountsT_step hn]
    have := ih (by omega)
    split <;> simp [this]
theorem amountsT_len_le (l : List Clm) (r : Int) (i : Nat) : (amountsT l r i).length ≤ i := by
  unfold amountsT
  rw [List.length_map]
  exact Nat.le_trans (List.length_filter_le _ _) (by simp; omega)
theorem amountsT_mem {l : List Clm} {r : Int} {i : Nat} {x : Int} (h : x ∈ amountsT l r i) : ∃ c ∈ l, c.amt = x := by
  unfold amountsT at h
  obtain ⟨c, hc, rfl⟩ := List.mem_map.1 h
  exact ⟨c, List.mem_of_mem_take (List.mem_filter.1 hc).1, rfl⟩
theorem putM_step {out : List Int} {ks : List Nat} {am : List Int} {k : Nat} {p : Nat} {a : Int} (hk : ks[k]? = some p) (ha : am[k]? = some a) : putM out (ks.take (k + 1)) (am.take (k + 1)) = (putM out (ks.take k) (am.take k)).set p a := by
  induction ks generalizing out am k with
  | nil => simp at hk
  | cons x r ih =>
    cases am with
    | nil => simp at ha
    | cons y s =>
      cases k with
      | zero =>
        simp at hk ha
        subst hk ha
        simp [putM]
      | succ k =>
        simp only [List.take_succ_cons, putM]
        exact ih (by simpa using hk) (by simpa using ha)
/-- No claimant that may be is refused. -/
theorem allM_ok {l : List Clm} (h : allM l = 0) : l.length ≤ 4096 ∧ ∀ c ∈ l, mayB c = true := by
  unfold allM at h
  by_cases h1 : (l.any fun c => !mayB c) = true
  · rw [if_pos h1] at h; cases h
  · rw [if_neg h1] at h
    by_cases h2 : 4096 < l.length
    · rw [if_pos h2] at h; cases h
    · refine ⟨by omega, fun c hc => ?_⟩
      rw [← Bool.not_eq_false]
      intro hf
      exact h1 (List.any_eq_true.2 ⟨c, hc, by simp [hf]⟩)
theorem may_amt {c : Clm} (h : mayB c = true) : 0 ≤ c.right ∧ c.right < 5 ∧ 0 ≤ c.amt ∧ c.amt ≤ 1099511627776 := by
  unfold mayB at h
  simp at h
  omega
theorem wrongM_zero {t : Int} {xs : List Int} (h0 : 0 ≤ t) (h1 : t ≤ 1099511627776) (hx : ∀ x ∈ xs, 0 ≤ x ∧ x ≤ 1099511627776) (hl : xs.length ≤ 4096) (hs : t < sumI xs) : wrongM t xs = 0 := by
  have hne : xs.length ≠ 0 := by
    intro he
    have : xs = [] := List.eq_nil_of_length_eq_zero he
    subst this
    simp at hs
    omega
  have a1 : (xs.any fun x => decide (x < 0)) = false := by
    rw [List.any_eq_false]
    intro x hx'
    have := (hx x hx').1
    simp; omega
  have a2 : (xs.any fun x => decide (1099511627776 < x)) = false := by
    rw [List.any_eq_false]
    intro x hx'
    have := (hx x hx').2
    simp; omega
  have a3 : (xs.any fun x => decide (0 < x)) = true := by
    rw [← Bool.not_eq_false]
    intro hf
    rw [List.any_eq_false] at hf
    have := sum_le (l := xs) (m := 0) fun x hx' => by
      have := hf x hx'
      simpa using this
    omega
  unfold wrongM
  rw [a1, a2, a3, if_neg (fun h => h.elim (fun h => absurd h (by omega)) fun h => h.elim hne (fun h => by cases h)), if_neg (fun h => h.elim (fun h => absurd h (by omega)) fun h => h.elim (fun h => by cases h) (fun h => absurd h (by omega))), if_neg (by simp)]
end Go.Proofs.YteecfjkljmmecaaGreat
