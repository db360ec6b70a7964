/- PURE: the statements on a pot, of what Money computes. -/
import Derived.Test.YteecfjkljmmecaaGreatPm
namespace Go.Proofs.YteecfjkljmmecaaGreat
open Go.RowKit Go.Sort Go.Shelf
section
variable {pot : Int} {l : List Clm}
/-- A claimant's part. -/
theorem part_at (hm : ∀ c ∈ l, mayB c = true) {i : Nat} {c : Clm} (h : l[i]? = some c) : (moneyM pot l).1[i]? = some ((shareAt pot l c.right.toNat)[posOf l c.right i]?.getD 0) := by
  have hc := may_amt (hm c (List.mem_of_getElem? h))
  rw [← stateM_all, got_at h hc.1 5, if_pos (show c.right < ((5 : Nat) : Int) by omega)]
theorem amount_pos (hm : ∀ c ∈ l, mayB c = true) {i : Nat} {c : Clm} (h : l[i]? = some c) : (amountsM l (c.right.toNat : Int))[posOf l c.right i]? = some c.amt := by
  have hc := may_amt (hm c (List.mem_of_getElem? h))
  have e : ((c.right.toNat : Nat) : Int) = c.right := by omega
  rw [e, ← amountsT_all]
  exact amounts_at h rfl _ (List.getElem?_eq_some_iff.1 h).1 (Nat.le_refl _)
/-- All of what is claimed, where the pot reaches. -/
theorem part_full (hm : ∀ c ∈ l, mayB c = true) {i : Nat} {c : Clm} (h : l[i]? = some c) (hf : ¬ potAt pot l c.right.toNat < sumI (amountsM l c.right.toNat)) : (moneyM pot l).1[i]? = some c.amt := by
  rw [part_at hm h]
  unfold shareAt
  rw [if_neg hf, amount_pos hm h]
  rfl
/-- Where it does not, a part. -/
theorem part_some (hm : ∀ c ∈ l, mayB c = true) (h0 : 0 ≤ pot) {i : Nat} {c : Clm} (h : l[i]? = some c) (hf : potAt pot l c.right.toNat < sumI (amountsM l c.right.toNat)) : ∃ x, (moneyM pot l).1[i]? = some x ∧ (splitM (potAt pot l c.right.toNat) (amountsM l c.right.toNat))[posOf l c.right i]? = some x ∧
    qM (potAt pot l c.right.toNat) (sumI (amountsM l c.right.toNat)) c.amt ≤ x ∧ x ≤ qM (potAt pot l c.right.toNat) (sumI (amountsM l c.right.toNat)) c.amt + 1 ∧ 0 ≤ x ∧ x ≤ c.amt := by
  obtain ⟨x, h1, h2, h3, h4, h5⟩ := split_bd (potAt_nonneg hm h0 c.right.toNat) (fun w hw => (amounts_may hm _ w hw).1) hf (amount_pos hm h)
  refine ⟨x, ?_, h1, h2, h3, h4, h5⟩
  rw [part_at hm h]
  unfold shareAt
  rw [if_pos hf, h1]
  rfl
theorem part_bd (hm : ∀ c ∈ l, mayB c = true) (h0 : 0 ≤ pot) {i : Nat} {c : Clm} {x : Int} (h : l[i]? = some c) (hx : (moneyM pot l).1[i]? = some x) : 0 ≤ x ∧ x ≤ c.amt ∧ (0 < (moneyM pot l).2 → x = c.amt) := by
  have hc := may_amt (hm c (List.mem_of_getElem? h))
  by_cases hf : potAt pot l c.right.toNat < sumI (amountsM l c.right.toNat)
  · obtain ⟨y, h1, _, _, _, h4, h5⟩ := part_some hm h0 h hf
    rw [hx] at h1
    injection h1 with h1
    subst h1
    refine ⟨h4, h5, fun hp => ?_⟩
    have hz := potAt_out hm h0 (k := 4 - c.right.toNat) hf
    rw [show c.right.toNat + 1 + (4 - c.right.toNat) = 5 by omega] at hz
    have : (moneyM pot l).2 = potAt pot l 5 := by rw [← stateM_all]; rfl
    omega
  · rw [part_full hm h hf] at hx
    injection hx with hx
    subst hx
    exact ⟨hc.2.2.1, Int.le_refl _, fun _ => rfl⟩
/-- Nobody of a lesser right gets anything before all of a better one have all. -/
theorem part_rank (hm : ∀ c ∈ l, mayB c = true) (h0 : 0 ≤ pot) {i k : Nat} {c d : Clm} {x y : Int} (h : l[i]? = some c) (g : l[k]? = some d) (hx : (moneyM pot l).1[i]? = some x) (hy : (moneyM pot l).1[k]? = some y) (hr : c.right < d.right) (hp : 0 < y) : x = c.amt := by
  have hc := may_amt (hm c (List.mem_of_getElem? h))
  have hd := may_amt (hm d (List.mem_of_getElem? g))
  by_cases hf : potAt pot l c.right.toNat < sumI (amountsM l c.right.toNat)
  · exfalso
    have hz := potAt_out hm h0 (k := d.right.toNat - c.right.toNat - 1) hf
    rw [show c.right.toNat + 1 + (d.right.toNat - c.right.toNat - 1) = d.right.toNat by omega] at hz
    by_cases hg : potAt pot l d.right.toNat < sumI (amountsM l d.right.toNat)
    · obtain ⟨z, h1, h2, _⟩ := part_some hm h0 g hg
      rw [hy] at h1
      injection h1 with h1
      subst h1
      rw [hz] at h2
      unfold splitM at h2
      rw [if_pos rfl, List.getElem?_map] at h2
      cases hq : (amountsM l (d.right.toNat : Int))[posOf l d.right k]? with
      | none => rw [hq] at h2; cases h2
      | some v => rw [hq] at h2; injection h2 with h2; have h2' : (0 : Int) = y := h2; omega
    · rw [part_full hm g hg] at hy
      injection hy with hy
      subst hy
      have := sum_mem_le (fun v hv => (amounts_may hm ((d.right.toNat : Nat) : Int) v hv).1) (List.mem_of_getElem? (amount_pos hm g))
      omega
  · rw [part_full hm h hf] at hx
    injection hx with hx
    exact hx.symm
/-- Who are of one right and claim the same get the same, but for one. -/
theorem part_alike (hm : ∀ c ∈ l, mayB c = true) (h0 : 0 ≤ pot) {i k : Nat} {c d : Clm} {x y : Int} (h : l[i]? = some c) (g : l[k]? = some d) (hx : (moneyM pot l).1[i]? = some x) (hy : (moneyM pot l).1[k]? = some y) (hr : d.right = c.right) (ha : d.amt = c.amt) : y - x ≤ 1 := by
  by_cases hf : potAt pot l c.right.toNat < sumI (amountsM l c.right.toNat)
  · obtain ⟨u, h1, _, h3, h4, _⟩ := part_some hm h0 h hf
    rw [← hr] at hf
    obtain ⟨v, g1, _, g3, g4, _⟩ := part_some hm h0 g hf
    rw [hx] at h1
    rw [hy] at g1
    injection h1 with h1
    injection g1 with g1
    subst h1 g1
    rw [hr, ha] at g3 g4
    omega
  · rw [part_full hm h hf] at hx
    rw [← hr] at hf
    rw [part_full hm g hf] at hy
    injection hx with hx
    injection hy with hy
    omega
theorem sumI_put {out : List Int} {ks : List Nat} {am : List Int} (hn : ks.Nodup) (hl : am.length = ks.length) (hk : ∀ k ∈ ks, k < out.length ∧ out[k]?.getD 0 = 0) : sumI (putM out ks am) = sumI out + sumI am := by
  induction ks generalizing out am with
  | nil =>
    have : am = [] := List.eq_nil_of_length_eq_zero hl
    subst this
    simp [putM]
  | cons k r ih =>
    cases am with
    | nil => simp at hl
    | cons a am =>
      rw [List.nodup_cons] at hn
      have h1 := hk k (by simp)
      unfold putM
      rw [ih hn.2 (by simpa using hl) (fun j hj => ?_), sumI_set h1.1, sumI_cons]
      · omega
      · have h2 := hk j (by simp [hj])
        have hjk : ¬ k = j := fun e => hn.1 (by rw [e]; exact hj)
        rw [List.length_set, List.getElem?_set, if_neg hjk]
        exact h2
/-- What is got and what is left make the pot. -/
theorem parts_sum (hm : ∀ c ∈ l, mayB c = true) (h0 : 0 ≤ pot) : ∀ R : Nat, sumI (stateM pot l R).1 + potAt pot l R = pot := by
  intro R
  induction R with
  | zero =>
    have : ∀ m : List Clm, sumI (m.map fun _ => (0 : Int)) = 0 := fun m => by
      induction m with
      | nil => rfl
      | cons x r ih => simp [ih]
    show sumI (l.map fun _ => 0) + pot = pot
    rw [this]
    omega
  | succ R ih =>
    have hk : ∀ k ∈ placesM l (R : Int), k < (stateM pot l R).1.length ∧ (stateM pot l R).1[k]?.getD 0 = 0 := fun k hk => by
      obtain ⟨c, h1, h2⟩ := mem_places.1 hk
      refine ⟨by rw [stateM_length]; exact (List.getElem?_eq_some_iff.1 h1).1, ?_⟩
      rw [got_at h1 (by omega) R, if_neg (by omega)]
      rfl
    rw [state_step1, sumI_put (placesM_nodup _ _) (share_length pot l R) hk, potAt_step]
    unfold shareAt
    have hp := potAt_nonneg hm h0 R
    by_cases hf : potAt pot l R < sumI (amountsM l R)
    · rw [if_pos hf, if_pos hf, sumI_split (by omega)]
      omega
    · rw [if_neg hf, if_neg hf]
      omega
theorem money_sum (hm : ∀ c ∈ l, mayB c = true) (h0 : 0 ≤ pot) : sumI (moneyM pot l).1 + (moneyM pot l).2 = pot := by
  have := parts_sum hm h0 5
  rw [← stateM_all]
  exact this
theorem money_left (hm : ∀ c ∈ l, mayB c = true) (h0 : 0 ≤ pot) : 0 ≤ (moneyM pot l).2 := by
  rw [← stateM_all]
  exact potAt_nonneg hm h0 5
theorem money_length (pot : Int) (l : List Clm) : (moneyM pot l).1.length = l.length := by
  rw [← stateM_all]
  exact stateM_length _ _ _
/-- The best rights alone. -/
def bestOf (l : List Clm) (R : Int) : List Clm := l.filter fun c => decide (c.right ≤ R)
theorem amounts_best {r R : Int} (h : r ≤ R) : amountsM (bestOf l R) r = amountsM l r := by
  unfold amountsM bestOf
  rw [List.filter_filter]
  congr 1
  refine List.filter_congr fun c _ => ?_
  by_cases e : c.right = r
  · simp [e, h]
  · simp [e]
theorem amounts_none {r R : Int} (h : R < r) : amountsM (bestOf l R) r = [] := by
  unfold amountsM bestOf
  rw [List.filter_filter, List.map_eq_nil_iff, List.filter_eq_nil_iff]
  intro c _ hc
  simp at hc
  omega
theorem potAt_best {R : Int} : ∀ r : Nat, (r : Int) ≤ R + 1 → potAt pot (bestOf l R) r = potAt pot l r := by
  intro r
  induction r with
  | zero => intro _; rfl
  | succ r ih =>
    intro h
    rw [potAt_step, potAt_step, ih (by omega), amounts_best (by omega)]
theorem potAt_beyond (hm : ∀ c ∈ l, mayB c = true) (h0 : 0 ≤ pot) {R : Int} (hR : 0 ≤ R) : ∀ k : Nat, potAt pot (bestOf l R) (R.toNat + 1 + k) = potAt pot l (R.toNat + 1) := by
  intro k
  have hmb : ∀ c ∈ bestOf l R, mayB c = true := fun c hc => hm c (List.mem_filter.1 hc).1
  induction k with
  | zero => exact potAt_best _ (by omega)
  | succ k ih =>
    rw [← Nat.add_assoc, potAt_step, ih, amounts_none (by omega)]
    have := potAt_nonneg hm h0 (R.toNat + 1)
    rw [if_neg (by simpa using this)]
    simp
theorem share_best {R : Int} {r : Nat} (h : (r : Int) ≤ R) : shareAt pot (bestOf l R) r = shareAt pot l r := by
  unfold shareAt
  rw [potAt_best r (by omega), amounts_best h]
/-- Where one of the best rights stands among them. -/
theorem take_best {R : Int} (i : Nat) : (bestOf l R).take ((l.take i).filter fun c => decide (c.right ≤ R)).length = (l.take i).filter fun c => decide (c.right ≤ R) := by
  unfold bestOf
  conv => lhs; arg 2; rw [← List.take_append_drop i l, List.filter_append]
  rw [List.take_left]
theorem pos_best {R r : Int} (hr : r ≤ R) (i : Nat) (h : i ≤ l.length) : posOf (bestOf l R) r ((l.take i).filter fun c => decide (c.right ≤ R)).length = posOf l r i := by
  have hle : ((l.take i).filter fun c => decide (c.right ≤ R)).length ≤ (bestOf l R).length := by
    have := congrArg List.length (take_best (l := l) (R := R) i)
    rw [List.length_take] at this
    omega
  rw [posOf_filter _ _ _ hle, take_best i, posOf_filter _ _ _ h, List.filter_filter]
  congr 1
  refine List.filter_congr fun c _ => ?_
  by_cases e : c.right = r
  · simp [e, hr]
  · simp [e]
theorem best_at {R : Int} {i : Nat} {c : Clm} (h : l[i]? = some c) (hc : c.right ≤ R) : (bestOf l R)[((l.take i).filter fun c => decide (c.right ≤ R)).length]? = some c := by
  have e : l = l.take i ++ c :: l.drop (i + 1) := by
    have hi := (List.getElem?_eq_some_iff.1 h).1
    rw [← (List.getElem?_eq_some_iff.1 h).2, List.getElem_cons_drop, List.take_append_drop]
  have e2 : bestOf l R = (l.take i).filter (fun c => decide (c.right ≤ R)) ++ c :: (l.drop (i + 1)).filter fun c => decide (c.right ≤ R) := by
    unfold bestOf
    conv => lhs; rw [e]
    rw [List.filter_append, List.filter_cons_of_pos (by simpa using hc)]
  rw [e2]
  simp
theorem part_best (hm : ∀ c ∈ l, mayB c = true) {R : Int} {i : Nat} {c : Clm} (h : l[i]? = some c) (hc : c.right ≤ R) : (moneyM pot (bestOf l R)).1[((l.take i).filter fun c => decide (c.right ≤ R)).length]? = (moneyM pot l).1[i]? := by
  have hmb : ∀ c ∈ bestOf l R, mayB c = true := fun c hc => hm c (List.mem_filter.1 hc).1
  have hm1 := may_amt (hm c (List.mem_of_getElem? h))
  rw [part_at hmb (best_at h hc), part_at hm h, share_best (by omega), pos_best hc i (Nat.le_of_lt (List.getElem?_eq_some_iff.1 h).1)]
theorem left_best (hm : ∀ c ∈ l, mayB c = true) (h0 : 0 ≤ pot) {R : Int} (hR : 0 ≤ R) (hR4 : R ≤ 4) : (moneyM pot l).2 ≤ (moneyM pot (bestOf l R)).2 := by
  rw [← stateM_all, ← stateM_all]
  have h1 := potAt_beyond hm h0 hR (4 - R.toNat)
  rw [show R.toNat + 1 + (4 - R.toNat) = 5 by omega] at h1
  have h2 := potAt_le hm h0 (R.toNat + 1) (4 - R.toNat)
  rw [show R.toNat + 1 + (4 - R.toNat) = 5 by omega] at h2
  show potAt pot l 5 ≤ potAt pot (bestOf l R) 5
  omega
theorem best_ok (h : allM l = 0) (R : Int) : allM (bestOf l R) = 0 := by
  obtain ⟨h1, h2⟩ := allM_ok h
  unfold allM
  rw [if_neg, if_neg]
  · have := List.length_filter_le (fun c => decide (c.right ≤ R)) l
    unfold bestOf
    omega
  · intro hc
    obtain ⟨c, hc1, hc2⟩ := List.any_eq_true.1 hc
    rw [h2 c (List.mem_filter.1 hc1).1] at hc2
    simp at hc2
end
end Go.Proofs.YteecfjkljmmecaaGreat
