/- PURE: what each one gets of a pot. -/
import Derived.Test.YteecfjkljmmecaaGreatMw
import Derived.Test.YteecfjkljmmecaaGreatRa
namespace Go.Proofs.YteecfjkljmmecaaGreat
open Go.RowKit Go.Sort Go.Shelf
def potAt (pot : Int) (l : List Clm) (r : Nat) : Int := (stateM pot l r).2
def shareAt (pot : Int) (l : List Clm) (r : Nat) : List Int := if potAt pot l r < sumI (amountsM l r) then splitM (potAt pot l r) (amountsM l r) else amountsM l r
theorem potAt_zero (pot : Int) (l : List Clm) : potAt pot l 0 = pot := rfl
theorem potAt_step (pot : Int) (l : List Clm) (r : Nat) : potAt pot l (r + 1) = if potAt pot l r < sumI (amountsM l r) then 0 else potAt pot l r - sumI (amountsM l r) := by
  unfold potAt
  rw [stateM_step]
  unfold roundM
  split <;> rfl
theorem state_step1 (pot : Int) (l : List Clm) (r : Nat) : (stateM pot l (r + 1)).1 = putM (stateM pot l r).1 (placesM l r) (shareAt pot l r) := by
  unfold shareAt potAt
  rw [stateM_step]
  unfold roundM
  split <;> rfl
/-- Where a claimant stands among those of the same right. -/
def posOf (l : List Clm) (r : Int) (i : Nat) : Nat := (placesT l r i).length
theorem posOf_filter (l : List Clm) (r : Int) (i : Nat) (h : i ≤ l.length) : posOf l r i = ((l.take i).filter fun c => decide (c.right = r)).length := by
  unfold posOf
  rw [placesT_length l r i h]
  unfold amountsT
  rw [List.length_map]
theorem places_at {l : List Clm} {r : Int} {i : Nat} {c : Clm} (h : l[i]? = some c) (hr : c.right = r) : ∀ n, i < n → (placesT l r n)[posOf l r i]? = some i := by
  intro n
  induction n with
  | zero => intro h; omega
  | succ n ih =>
    intro hn
    unfold posOf at *
    by_cases e : i = n
    · subst e
      rw [placesT_step h, if_pos hr]
      simp
    · have hlt := ih (by omega)
      have hle : (placesT l r i).length < (placesT l r n).length := (List.getElem?_eq_some_iff.1 hlt).1
      have : ∃ t, placesT l r (n + 1) = placesT l r n ++ t := by
        unfold placesT
        rw [List.range_succ, List.filter_append]
        exact ⟨_, rfl⟩
      obtain ⟨t, ht⟩ := this
      rw [ht, List.getElem?_append_left hle]
      exact hlt
theorem amounts_at {l : List Clm} {r : Int} {i : Nat} {c : Clm} (h : l[i]? = some c) (hr : c.right = r) : ∀ n, i < n → n ≤ l.length → (amountsT l r n)[posOf l r i]? = some c.amt := by
  intro n
  induction n with
  | zero => intro h; omega
  | succ n ih =>
    intro hn hl
    have hi : i < l.length := (List.getElem?_eq_some_iff.1 h).1
    have hpl := placesT_length l r i (by omega)
    unfold posOf at *
    by_cases e : i = n
    · subst e
      rw [amountsT_step h, if_pos hr, hpl]
      simp
    · have hlt := ih (by omega) (by omega)
      have hle : (placesT l r i).length < (amountsT l r n).length := (List.getElem?_eq_some_iff.1 hlt).1
      have hln : l[n]? = some l[n] := List.getElem?_eq_getElem (by omega)
      rw [amountsT_step hln]
      split
      · rw [List.getElem?_append_left hle]; exact hlt
      · exact hlt
theorem putM_out {out : List Int} {ks : List Nat} {am : List Int} {i : Nat} (h : i ∉ ks) : (putM out ks am)[i]? = out[i]? := by
  induction ks generalizing out am with
  | nil => cases am <;> rfl
  | cons k r ih =>
    cases am with
    | nil => rfl
    | cons a am =>
      rw [List.mem_cons, not_or] at h
      unfold putM
      rw [ih h.2, List.getElem?_set, if_neg (fun e => h.1 e.symm)]
theorem putM_at {out : List Int} {ks : List Nat} {am : List Int} {i j : Nat} {a : Int} (hn : ks.Nodup) (hj : ks[j]? = some i) (ha : am[j]? = some a) (hi : i < out.length) : (putM out ks am)[i]? = some a := by
  induction ks generalizing out am j with
  | nil => simp at hj
  | cons k r ih =>
    rw [List.nodup_cons] at hn
    cases am with
    | nil => simp at ha
    | cons b am =>
      unfold putM
      cases j with
      | zero =>
        simp only [List.getElem?_cons_zero, Option.some.injEq] at hj ha
        subst hj ha
        rw [putM_out hn.1, List.getElem?_set, if_pos rfl, if_pos hi]
      | succ j =>
        simp only [List.getElem?_cons_succ] at hj ha
        exact ih hn.2 hj ha (by rw [List.length_set]; exact hi)
theorem placesM_nodup (l : List Clm) (r : Int) : (placesM l r).Nodup := List.nodup_range.sublist List.filter_sublist
theorem mem_places {l : List Clm} {r : Int} {i : Nat} : i ∈ placesM l r ↔ ∃ c, l[i]? = some c ∧ c.right = r := by
  unfold placesM
  rw [List.mem_filter, List.mem_range, decide_eq_true_iff]
  constructor
  · rintro ⟨h1, h2⟩
    rw [List.getElem?_eq_getElem h1] at h2 ⊢
    simp only [Option.map_some, Option.some.injEq] at h2
    exact ⟨_, rfl, h2⟩
  · rintro ⟨c, h1, h2⟩
    refine ⟨(List.getElem?_eq_some_iff.1 h1).1, ?_⟩
    rw [h1, ← h2]
    rfl
theorem share_length (pot : Int) (l : List Clm) (r : Nat) : (shareAt pot l r).length = (placesM l r).length := by
  have h := placesT_length l r l.length (Nat.le_refl _)
  rw [placesT_all, amountsT_all] at h
  unfold shareAt
  split
  · rw [splitM_length, h]
  · exact h.symm
/-- What one gets, behind R rounds. -/
theorem got_at {pot : Int} {l : List Clm} {i : Nat} {c : Clm} (h : l[i]? = some c) (h0 : 0 ≤ c.right) : ∀ R : Nat, (stateM pot l R).1[i]? = some (if c.right < R then (shareAt pot l c.right.toNat)[posOf l c.right i]?.getD 0 else 0) := by
  intro R
  induction R with
  | zero =>
    rw [if_neg (by omega)]
    simp [stateM, h]
  | succ R ih =>
    have hi : i < l.length := (List.getElem?_eq_some_iff.1 h).1
    rw [state_step1]
    by_cases hr : c.right = (R : Int)
    · have hpos : (placesM l R)[posOf l c.right i]? = some i := by
        rw [← placesT_all, hr]
        exact places_at h hr _ hi
      have hlt : posOf l c.right i < (shareAt pot l R).length := by
        rw [share_length]
        exact (List.getElem?_eq_some_iff.1 hpos).1
      rw [putM_at (placesM_nodup l R) hpos (List.getElem?_eq_getElem hlt) (by rw [stateM_length]; exact hi), if_pos (by omega)]
      have : c.right.toNat = R := by omega
      rw [this, List.getElem?_eq_getElem hlt]
      rfl
    · rw [putM_out (fun hm => by
        obtain ⟨c', h1, h2⟩ := mem_places.1 hm
        rw [h] at h1
        injection h1 with h1
        exact hr (h1 ▸ h2)), ih]
      by_cases hlt : c.right < (R : Int)
      · rw [if_pos hlt, if_pos (by omega)]
      · rw [if_neg hlt, if_neg (by omega)]
section
variable {pot : Int} {l : List Clm}
theorem amounts_may (hm : ∀ c ∈ l, mayB c = true) (r : Int) : ∀ y ∈ amountsM l r, 0 ≤ y ∧ y ≤ 1099511627776 := fun y hy => by
  rw [← amountsT_all] at hy
  obtain ⟨c, hc, rfl⟩ := amountsT_mem hy
  exact (may_amt (hm c hc)).2.2
theorem potAt_nonneg (_hm : ∀ c ∈ l, mayB c = true) (h0 : 0 ≤ pot) (r : Nat) : 0 ≤ potAt pot l r := by
  induction r with
  | zero => exact h0
  | succ r ih => rw [potAt_step]; split <;> omega
theorem potAt_le (hm : ∀ c ∈ l, mayB c = true) (h0 : 0 ≤ pot) (r k : Nat) : potAt pot l (r + k) ≤ potAt pot l r := by
  induction k with
  | zero => exact Int.le_refl _
  | succ k ih =>
    have h1 := potAt_nonneg hm h0 (r + k)
    have h2 := sum_nonneg fun y hy => (amounts_may hm ((r + k : Nat) : Int) y hy).1
    rw [← Nat.add_assoc, potAt_step]
    split <;> omega
theorem potAt_out (hm : ∀ c ∈ l, mayB c = true) (h0 : 0 ≤ pot) {r k : Nat} (h : potAt pot l r < sumI (amountsM l r)) : potAt pot l (r + 1 + k) = 0 := by
  have h1 := potAt_le hm h0 (r + 1) k
  have h2 := potAt_nonneg hm h0 (r + 1 + k)
  rw [potAt_step pot l r, if_pos h] at h1
  omega
/-- Of a pot that is too small: from nothing up, and never more than is claimed. -/
theorem split_bd {t : Int} {ws : List Int} (h0 : 0 ≤ t) (hw : ∀ w ∈ ws, 0 ≤ w) (hlt : t < sumI ws) {j : Nat} {w : Int} (hj : ws[j]? = some w) : ∃ x, (splitM t ws)[j]? = some x ∧ qM t (sumI ws) w ≤ x ∧ x ≤ qM t (sumI ws) w + 1 ∧ 0 ≤ x ∧ x ≤ w := by
  have hs : 0 < sumI ws := by omega
  have hw0 := hw w (List.mem_of_getElem? hj)
  have hq0 : 0 ≤ qM t (sumI ws) w := Int.ediv_nonneg (Int.mul_nonneg h0 hw0) (by omega)
  have hqr : qM t (sumI ws) w * sumI ws + rM t (sumI ws) w = t * w := Int.ediv_mul_add_emod (t * w) _
  have hr0 : 0 ≤ rM t (sumI ws) w := Int.emod_nonneg _ (by omega)
  have htw : t * w ≤ sumI ws * w := Int.mul_le_mul_of_nonneg_right (by omega) hw0
  refine ⟨_, splitM_get hj hs, ?_⟩
  by_cases hc : (rk (ws.map (rM t (sumI ws))) ws.length j : Int) < leftM t ws
  · rw [if_pos hc]
    have hpos : 0 < rM t (sumI ws) w := by
      apply Int.lt_of_not_ge
      intro hle
      have hz : rM t (sumI ws) w = 0 := by omega
      have hlp := left_le_pos (t := t) hs
      have hcnt : ((ws.map (rM t (sumI ws))).countP fun r => decide (0 < r)) ≤ rk (ws.map (rM t (sumI ws))) ws.length j := by
        have e : ws.map (rM t (sumI ws)) = (List.range ws.length).map fun k => (ws.map (rM t (sumI ws)))[k]?.getD 0 := by
          apply List.ext_getElem
          · simp
          · intro k h1 h2
            rw [List.getElem_map, List.getElem_map, List.getElem_range, List.getElem?_eq_getElem (by simpa using h1)]
            simp
        conv => lhs; rw [e]
        rw [List.countP_map]
        unfold rk
        refine List.countP_mono_left fun k _ hk => ?_
        simp only [Function.comp, decide_eq_true_eq] at hk
        rw [aheadB_iff]
        left
        rw [List.getElem?_map, hj]
        simp only [Option.map_some, Option.getD_some]
        omega
      omega
    have hlt2 : qM t (sumI ws) w < w := by
      apply Int.lt_of_mul_lt_mul_right (a := sumI ws) ?_ (by omega)
      rw [Int.mul_comm w]
      omega
    omega
  · rw [if_neg hc]
    have hle : qM t (sumI ws) w ≤ w := by
      apply Int.le_of_mul_le_mul_right (a := sumI ws) ?_ hs
      rw [Int.mul_comm w]
      omega
    omega
end
end Go.Proofs.YteecfjkljmmecaaGreat
