/- PURE: parts of a pot over all claimants, those of another right at nothing: the same parts. -/
import Derived.Test.YteecfjkljmmecaaGreatPn
namespace Go.Proofs.YteecfjkljmmecaaGreat
open Go.RowKit Go.Sort Go.Shelf
/-- The amounts of a right's claimants in their places, and nothing elsewhere. -/
def padM (l : List Clm) (r : Int) : List Int := l.map fun c => if c.right = r then c.amt else 0
theorem padM_at {l : List Clm} {r : Int} {i : Nat} {c : Clm} (h : l[i]? = some c) : (padM l r)[i]? = some (if c.right = r then c.amt else 0) := by
  unfold padM
  rw [List.getElem?_map, h]
  rfl
theorem padM_sum (l : List Clm) (r : Int) : sumI (padM l r) = sumI (amountsM l r) := by
  unfold padM amountsM
  induction l with
  | nil => rfl
  | cons c l ih =>
    rw [List.map_cons, sumI_cons, ih]
    by_cases h : c.right = r
    · rw [if_pos h, List.filter_cons_of_pos (by simpa using h), List.map_cons, sumI_cons]
    · rw [if_neg h, List.filter_cons_of_neg (by simpa using h)]
      omega
theorem qM_zero (t s : Int) : qM t s 0 = 0 := by unfold qM; simp
theorem rM_zero (t s : Int) : rM t s 0 = 0 := by unfold rM; simp
theorem pad_qsum (t s : Int) (l : List Clm) (r : Int) : sumI ((padM l r).map (qM t s)) = sumI ((amountsM l r).map (qM t s)) := by
  unfold padM amountsM
  induction l with
  | nil => rfl
  | cons c l ih =>
    rw [List.map_cons, List.map_cons, sumI_cons, ih]
    by_cases h : c.right = r
    · rw [if_pos h, List.filter_cons_of_pos (by simpa using h), List.map_cons, List.map_cons, sumI_cons]
    · rw [if_neg h, List.filter_cons_of_neg (by simpa using h), qM_zero]
      omega
theorem pad_left (t : Int) (l : List Clm) (r : Int) : leftM t (padM l r) = leftM t (amountsM l r) := by
  unfold leftM
  rw [padM_sum, pad_qsum]
/-- Where nothing is left over nothing more is got. -/
theorem rk_rest {t : Int} {ws : List Int} (hs : 0 < sumI ws) {j : Nat} {w : Int} (hj : ws[j]? = some w) (hz : rM t (sumI ws) w = 0) : ¬ (rk (ws.map (rM t (sumI ws))) ws.length j : Int) < leftM t ws := by
  have hlp := left_le_pos (t := t) hs
  have hcnt : ((ws.map (rM t (sumI ws))).countP fun r => decide (0 < r)) ≤ rk (ws.map (rM t (sumI ws))) ws.length j := by
    have e : ws.map (rM t (sumI ws)) = (List.range ws.length).map fun k => (ws.map (rM t (sumI ws)))[k]?.getD 0 := by
      apply List.ext_getElem
      · simp
      · intro k h1 h2
        rw [List.getElem_map, List.getElem_map, List.getElem_range, List.getElem?_eq_getElem (by simpa using h1)]
        simp
    conv => lhs; rw [e]
    rw [List.countP_map]
    unfold rk
    refine List.countP_mono_left fun k _ hk => ?_
    simp only [Function.comp, decide_eq_true_eq] at hk
    rw [aheadB_iff]
    left
    rw [List.getElem?_map, hj]
    simp only [Option.map_some, Option.getD_some]
    omega
  omega
theorem places_lt {l : List Clm} {r : Int} {a b : Nat} (ha : a < (placesM l r).length) (hb : b < (placesM l r).length) : (placesM l r)[a] < (placesM l r)[b] ↔ a < b := by
  have hp : (placesM l r).Pairwise (· < ·) := List.Pairwise.sublist List.filter_sublist List.pairwise_lt_range
  constructor
  · intro h
    apply Nat.lt_of_not_le
    intro hle
    rcases Nat.lt_or_eq_of_le hle with h2 | h2
    · have := List.pairwise_iff_getElem.1 hp b a hb ha h2
      omega
    · subst h2
      omega
  · intro h
    exact List.pairwise_iff_getElem.1 hp a b ha hb h
theorem places_get {l : List Clm} {r : Int} {a j : Nat} (h : (placesM l r)[a]? = some j) : ∃ c, l[j]? = some c ∧ c.right = r ∧ posOf l r j = a := by
  obtain ⟨c, h1, h2⟩ := mem_places.1 (List.mem_of_getElem? h)
  refine ⟨c, h1, h2, ?_⟩
  have h3 := places_at h1 h2 l.length (List.getElem?_eq_some_iff.1 h1).1
  rw [placesT_all] at h3
  obtain ⟨ha, ea⟩ := List.getElem?_eq_some_iff.1 h
  obtain ⟨hb, eb⟩ := List.getElem?_eq_some_iff.1 h3
  have hlt := places_lt ha hb
  have hgt := places_lt hb ha
  rw [ea, eb] at hlt hgt
  omega
/-- As many stand ahead, counted among all or among those of the right. -/
theorem rk_pad {t s : Int} {l : List Clm} {r : Int} {i : Nat} {c : Clm} (hi : l[i]? = some c) (hc : c.right = r) (hp : 0 < rM t s c.amt) :
    rk ((padM l r).map (rM t s)) (padM l r).length i = rk ((amountsM l r).map (rM t s)) (amountsM l r).length (posOf l r i) := by
  have hln : (padM l r).length = l.length := by unfold padM; rw [List.length_map]
  have hpl : (placesM l r).length = (amountsM l r).length := by
    have := placesT_length l r l.length (Nat.le_refl _)
    rwa [placesT_all, amountsT_all] at this
  have hpi : (placesM l r)[posOf l r i]? = some i := by rw [← placesT_all]; exact places_at hi hc _ (List.getElem?_eq_some_iff.1 hi).1
  have hvi : ((padM l r).map (rM t s))[i]?.getD 0 = rM t s c.amt := by rw [List.getElem?_map, padM_at hi, if_pos hc]; rfl
  have hai : ((amountsM l r).map (rM t s))[posOf l r i]?.getD 0 = rM t s c.amt := by
    have h1 := amounts_at hi hc l.length (List.getElem?_eq_some_iff.1 hi).1 (Nat.le_refl _)
    rw [amountsT_all] at h1
    rw [List.getElem?_map, h1]
    rfl
  unfold rk
  rw [hln]
  have e1 : (List.range l.length).countP (fun j => aheadB ((padM l r).map (rM t s)) j i) = (placesM l r).countP (fun j => aheadB ((padM l r).map (rM t s)) j i) := by
    unfold placesM
    rw [List.countP_filter]
    refine List.countP_congr fun j hj => ?_
    have hj' : j < l.length := List.mem_range.1 hj
    have hlj : l[j]? = some l[j] := List.getElem?_eq_getElem hj'
    rw [Bool.and_eq_true, decide_eq_true_iff, hlj]
    constructor
    · intro h
      refine ⟨h, ?_⟩
      rw [aheadB_iff, hvi, List.getElem?_map, padM_at hlj] at h
      by_cases hrj : l[j].right = r
      · rw [Option.map_some, hrj]
      · rw [if_neg hrj] at h
        simp only [Option.map_some, Option.getD_some, rM_zero] at h
        omega
    · exact fun h => h.1
  rw [e1]
  have e2 : placesM l r = (List.range (amountsM l r).length).map fun a => (placesM l r)[a]?.getD 0 := by
    apply List.ext_getElem
    · simp [hpl]
    · intro a h1 h2
      rw [List.getElem_map, List.getElem_range, List.getElem?_eq_getElem h1]
      rfl
  conv => lhs; rw [e2]
  rw [List.countP_map]
  refine List.countP_congr fun a ha => ?_
  have ha' : a < (placesM l r).length := by rw [hpl]; exact List.mem_range.1 ha
  have hga : (placesM l r)[a]? = some (placesM l r)[a] := List.getElem?_eq_getElem ha'
  obtain ⟨d, hd1, hd2, hd3⟩ := places_get hga
  have hpos : posOf l r i < (placesM l r).length := (List.getElem?_eq_some_iff.1 hpi).1
  have hpe : (placesM l r)[posOf l r i] = i := (List.getElem?_eq_some_iff.1 hpi).2
  have hlt := places_lt ha' hpos
  rw [hpe] at hlt
  have hva : ((padM l r).map (rM t s))[(placesM l r)[a]]?.getD 0 = rM t s d.amt := by rw [List.getElem?_map, padM_at hd1, if_pos hd2]; rfl
  have haa : ((amountsM l r).map (rM t s))[a]?.getD 0 = rM t s d.amt := by
    have h1 := amounts_at hd1 hd2 l.length (List.getElem?_eq_some_iff.1 hd1).1 (Nat.le_refl _)
    rw [amountsT_all, hd3] at h1
    rw [List.getElem?_map, h1]
    rfl
  simp only [Function.comp, hga, Option.getD_some]
  rw [aheadB_iff, aheadB_iff, hvi, hva, hai, haa, hlt]
/-- The parts, padded. -/
theorem split_pad {t : Int} {l : List Clm} {r : Int} (hs : 0 < sumI (amountsM l r)) {i : Nat} {c : Clm} (hi : l[i]? = some c) :
    (splitM t (padM l r))[i]? = some (if c.right = r then (splitM t (amountsM l r))[posOf l r i]?.getD 0 else 0) := by
  have hps := padM_sum l r
  have hs' : 0 < sumI (padM l r) := by omega
  have hg := splitM_get (t := t) (padM_at (r := r) hi) hs'
  rw [hg, hps, pad_left]
  by_cases hc : c.right = r
  · rw [if_pos hc, if_pos hc]
    have hai : (amountsM l r)[posOf l r i]? = some c.amt := by
      have h1 := amounts_at hi hc l.length (List.getElem?_eq_some_iff.1 hi).1 (Nat.le_refl _)
      rwa [amountsT_all] at h1
    rw [splitM_get hai hs]
    by_cases hz : rM t (sumI (amountsM l r)) c.amt = 0
    · have h1 := rk_rest (t := t) hs hai hz
      have hpi : (padM l r)[i]? = some c.amt := by rw [padM_at hi, if_pos hc]
      have h2 := rk_rest (t := t) hs' hpi (by rw [hps]; exact hz)
      rw [hps, pad_left] at h2
      rw [if_neg h1, if_neg h2]
      rfl
    · have hp : 0 < rM t (sumI (amountsM l r)) c.amt := by
        have : 0 ≤ rM t (sumI (amountsM l r)) c.amt := Int.emod_nonneg _ (by omega)
        omega
      rw [rk_pad hi hc hp]
      rfl
  · rw [if_neg hc, if_neg hc, qM_zero]
    have hpi : (padM l r)[i]? = some 0 := by rw [padM_at hi, if_neg hc]
    have h2 := rk_rest (t := t) hs' hpi (rM_zero _ _)
    rw [hps, pad_left] at h2
    rw [if_neg h2]
    rfl
/-- One round, told over all. -/
theorem state_pad {pot : Int} {l : List Clm} (hm : ∀ c ∈ l, mayB c = true) (h0 : 0 ≤ pot) (R : Nat) {i : Nat} {c : Clm} (hi : l[i]? = some c) :
    (stateM pot l (R + 1)).1[i]?.getD 0 = (stateM pot l R).1[i]?.getD 0 + (if potAt pot l R < sumI (padM l R) then (splitM (potAt pot l R) (padM l R))[i]?.getD 0 else (padM l R)[i]?.getD 0) := by
  have hc := may_amt (hm c (List.mem_of_getElem? hi))
  rw [got_at hi hc.1 (R + 1), got_at hi hc.1 R, padM_sum, padM_at hi]
  have hp := potAt_nonneg hm h0 R
  simp only [Option.getD_some]
  by_cases hr : c.right = (R : Int)
  · have e : c.right.toNat = R := by omega
    rw [if_pos (by omega), if_neg (by omega), e, hr]
    unfold shareAt
    by_cases hf : potAt pot l R < sumI (amountsM l R)
    · rw [if_pos hf, if_pos hf, split_pad (by omega) hi, if_pos hr]
      simp
    · have hap := amount_pos hm hi
      rw [e, hr] at hap
      rw [if_neg hf, if_neg hf, if_pos rfl, hap]
      simp
  · by_cases hlt : c.right < (R : Int)
    · rw [if_pos (by omega), if_pos hlt]
      by_cases hf : potAt pot l R < sumI (amountsM l R)
      · rw [if_pos hf, split_pad (by omega) hi, if_neg hr]
        simp
      · rw [if_neg hf, if_neg hr]
        simp
    · rw [if_neg (by omega), if_neg hlt]
      by_cases hf : potAt pot l R < sumI (amountsM l R)
      · rw [if_pos hf, split_pad (by omega) hi, if_neg hr]
        rfl
      · rw [if_neg hf, if_neg hr]
        rfl
/-- The next place to get one more: nobody that has not got one stands ahead. -/
theorem order_next {rs : List Int} {n k p : Nat} (h : (orderM rs n)[k]? = some p) {j : Nat} (hj : j < n) (hn : j ∉ (orderM rs n).take k) (hne : j ≠ p) : aheadB rs p j = true := by
  have hm : j ∈ orderM rs n := (order_perm rs n).mem_iff.2 (List.mem_range.2 hj)
  obtain ⟨a, ha, rfl⟩ := List.mem_iff_getElem.1 hm
  obtain ⟨hk, rfl⟩ := List.getElem?_eq_some_iff.1 h
  have hak : ¬ a < k := fun hlt => hn (List.mem_iff_getElem.2 ⟨a, by rw [List.length_take]; omega, by rw [List.getElem_take]⟩)
  have hne' : a ≠ k := fun e => hne (by subst e; rfl)
  exact List.pairwise_iff_getElem.1 (order_sorted rs n) k a hk ha (by omega)
end Go.Proofs.YteecfjkljmmecaaGreat
