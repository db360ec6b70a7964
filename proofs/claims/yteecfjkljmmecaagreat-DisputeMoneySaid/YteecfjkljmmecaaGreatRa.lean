/- PURE: whom a part's rest reaches: as many stand ahead of them as there are ones before. -/
import Derived.Test.YteecfjkljmmecaaGreatSp
namespace Go.Proofs.YteecfjkljmmecaaGreat
open Go.RowKit Go.Sort Go.Shelf
def aheadB (rs : List Int) (j i : Nat) : Bool := decide (rs[i]?.getD 0 < rs[j]?.getD 0 ∨ (rs[i]?.getD 0 = rs[j]?.getD 0 ∧ j < i))
theorem aheadB_iff {rs : List Int} {j i : Nat} : aheadB rs j i = true ↔ rs[i]?.getD 0 < rs[j]?.getD 0 ∨ (rs[i]?.getD 0 = rs[j]?.getD 0 ∧ j < i) := by unfold aheadB; rw [decide_eq_true_iff]
theorem aheadB_asymm {rs : List Int} {j i : Nat} (h : aheadB rs j i = true) : aheadB rs i j = false := by
  rw [Bool.eq_false_iff]
  intro h2
  rw [aheadB_iff] at h h2
  omega
theorem aheadB_irrefl (rs : List Int) (i : Nat) : aheadB rs i i = false := by
  rw [Bool.eq_false_iff]
  intro h
  rw [aheadB_iff] at h
  omega
/-- How many places stand ahead. -/
def rk (rs : List Int) (n i : Nat) : Nat := (List.range n).countP fun j => aheadB rs j i
theorem order_sorted (rs : List Int) (n : Nat) : (orderM rs n).Pairwise fun a b => aheadB rs a b = true := by
  have hs := place_swo rs n
  have h := List.pairwise_mergeSort (le := fun x y : Fin n => !(ltOf (placeCf rs n)) y x) (fun a b c h1 h2 => by
      simp only [Bool.not_eq_true'] at *
      exact hs.ntrans _ _ _ h2 h1) (fun a b => by
      simp only [Bool.or_eq_true, Bool.not_eq_true']
      cases hab : ltOf (placeCf rs n) b a with
      | false => exact .inl rfl
      | true =>
        right
        rw [Bool.eq_false_iff]
        intro h3
        have := hs.trans _ _ _ hab h3
        rw [hs.irrefl] at this
        cases this) (List.finRange n)
  have hnd : ((List.finRange n).mergeSort fun x y => !(ltOf (placeCf rs n)) y x).Nodup := by
    have := order_nodup rs n
    unfold orderM at this
    exact nodup_of_map _ this
  unfold orderM
  rw [List.pairwise_map]
  refine (List.Pairwise.and h hnd).imp fun {a b} ⟨h1, h2⟩ => ?_
  simp only [Bool.not_eq_true'] at h1
  rw [aheadB_iff]
  have h4 : ltOf (placeCf rs n) a b = true := by
    rw [← Bool.not_eq_false]
    intro h3
    exact h2 (place_parts rs n a b h3 h1)
  rw [place_lt] at h4
  omega
theorem order_split {rs : List Int} {n k p : Nat} (h : (orderM rs n)[k]? = some p) : rk rs n p = k := by
  have hk : k < (orderM rs n).length := (List.getElem?_eq_some_iff.1 h).1
  have hp : (orderM rs n)[k] = p := (List.getElem?_eq_some_iff.1 h).2
  have hs := order_sorted rs n
  have e : orderM rs n = (orderM rs n).take k ++ p :: (orderM rs n).drop (k + 1) := by
    rw [← hp, List.getElem_cons_drop, List.take_append_drop]
  unfold rk
  rw [← (order_perm rs n).countP_eq, e, List.countP_append, List.countP_cons]
  rw [e, List.pairwise_append] at hs
  obtain ⟨_, h2, h3⟩ := hs
  rw [List.pairwise_cons] at h2
  have c1 : ((orderM rs n).take k).countP (fun j => aheadB rs j p) = k := by
    rw [List.countP_eq_length.2 fun a ha => h3 a ha p (by simp), List.length_take]
    omega
  have c2 : ((orderM rs n).drop (k + 1)).countP (fun j => aheadB rs j p) = 0 := by
    rw [List.countP_eq_zero]
    intro a ha
    rw [aheadB_asymm (h2.1 a ha)]
    simp
  rw [c1, c2, aheadB_irrefl]
  simp
theorem order_take {rs : List Int} {n k i : Nat} : i ∈ (orderM rs n).take k ↔ i < n ∧ rk rs n i < k := by
  constructor
  · intro h
    obtain ⟨j, hj, hji⟩ := List.mem_iff_getElem.1 h
    rw [List.length_take] at hj
    rw [List.getElem_take] at hji
    have hjo : (orderM rs n)[j]? = some i := by rw [List.getElem?_eq_getElem (by omega), hji]
    refine ⟨order_lt (List.mem_of_mem_take h), ?_⟩
    rw [order_split hjo]
    omega
  · rintro ⟨h1, h2⟩
    have hm : i ∈ orderM rs n := (order_perm rs n).mem_iff.2 (List.mem_range.2 h1)
    obtain ⟨j, hj, hji⟩ := List.mem_iff_getElem.1 hm
    have hjo : (orderM rs n)[j]? = some i := by rw [List.getElem?_eq_getElem hj, hji]
    rw [order_split hjo] at h2
    rw [← hji]
    exact List.mem_iff_getElem.2 ⟨j, by rw [List.length_take]; omega, by rw [List.getElem_take]⟩
theorem bump_get (ks : List Nat) (l : List Int) (hn : ks.Nodup) (i : Nat) (hi : i < l.length) : (bump l ks)[i]? = some (l[i]?.getD 0 + if i ∈ ks then 1 else 0) := by
  induction ks generalizing l with
  | nil => simp [bump, List.getElem?_eq_getElem hi]
  | cons k r ih =>
    rw [List.nodup_cons] at hn
    have h := ih (l.set k (l[k]?.getD 0 + 1)) hn.2 (by rw [List.length_set]; exact hi)
    unfold bump at h ⊢
    rw [List.foldl_cons, h, List.getElem?_set]
    by_cases hk : k = i
    · subst hk
      rw [if_pos rfl, if_pos hi, if_neg hn.1, if_pos (by simp)]
      simp
    · rw [if_neg hk]
      congr 2
      have : (i ∈ r) ↔ (i ∈ k :: r) := by
        rw [List.mem_cons]
        exact ⟨.inr, fun h => h.resolve_left (fun e => hk e.symm)⟩
      by_cases hr : i ∈ r
      · rw [if_pos hr, if_pos (this.1 hr)]
      · rw [if_neg hr, if_neg (fun e => hr (this.2 e))]
/-- A place's part: rounded down, and one more where few enough stand ahead. -/
theorem splitM_get {t : Int} {ws : List Int} {i : Nat} {w : Int} (h : ws[i]? = some w) (hs : 0 < sumI ws) :
    (splitM t ws)[i]? = some (qM t (sumI ws) w + if (rk (ws.map (rM t (sumI ws))) ws.length i : Int) < leftM t ws then 1 else 0) := by
  have hi : i < ws.length := (List.getElem?_eq_some_iff.1 h).1
  have hl := left_bd t ws hs
  unfold splitM
  by_cases ht : t = 0
  · subst ht
    have hq : ∀ w, qM 0 (sumI ws) w = 0 := fun w => by unfold qM; simp
    have hl0 : leftM 0 ws = 0 := by
      unfold leftM
      have : ws.map (qM 0 (sumI ws)) = ws.map fun _ => 0 := List.map_congr_left fun w _ => hq w
      rw [this]
      have : ∀ l : List Int, sumI (l.map fun _ => (0 : Int)) = 0 := fun l => by
        induction l with
        | nil => rfl
        | cons x r ih => simp [ih]
      rw [this]
      rfl
    rw [if_pos rfl, List.getElem?_map, h, hq, hl0, if_neg (by omega)]
    rfl
  · rw [if_neg ht, bump_get _ _ ((order_nodup _ _).sublist (List.take_sublist _ _)) i (by rw [List.length_map]; exact hi), List.getElem?_map, h]
    simp only [Option.map_some, Option.getD_some, order_take]
    congr 2
    by_cases hc : (rk (ws.map (rM t (sumI ws))) ws.length i : Int) < leftM t ws
    · rw [if_pos hc, if_pos ⟨hi, by omega⟩]
    · rw [if_neg hc, if_neg (fun h => hc (by have := h.2; omega))]
theorem sumI_set {l : List Int} {k : Nat} (hk : k < l.length) (v : Int) : sumI (l.set k v) = sumI l - l[k]?.getD 0 + v := by
  induction l generalizing k with
  | nil => simp at hk
  | cons x r ih =>
    cases k with
    | zero => simp; omega
    | succ k =>
      have := ih (k := k) (by simpa using hk)
      simp only [List.set_cons_succ, sumI_cons, List.getElem?_cons_succ]
      omega
theorem sumI_bump (ks : List Nat) (l : List Int) (h : ∀ k ∈ ks, k < l.length) : sumI (bump l ks) = sumI l + ks.length := by
  induction ks generalizing l with
  | nil => simp [bump]
  | cons k r ih =>
    have := ih (l.set k (l[k]?.getD 0 + 1)) fun j hj => by rw [List.length_set]; exact h j (by simp [hj])
    unfold bump at this ⊢
    rw [List.foldl_cons, this, sumI_set (h k (by simp))]
    simp only [List.length_cons]
    omega
/-- All parts make the whole. -/
theorem sumI_split {t : Int} {ws : List Int} (hs : 0 < sumI ws) : sumI (splitM t ws) = t := by
  have hl := left_bd t ws hs
  unfold splitM
  by_cases ht : t = 0
  · subst ht
    rw [if_pos rfl]
    induction ws with
    | nil => rfl
    | cons x r ih =>
      simp only [List.map_cons, sumI_cons]
      have : ∀ l : List Int, sumI (l.map fun _ => (0 : Int)) = 0 := fun l => by
        induction l with
        | nil => rfl
        | cons x r ih => simp [ih]
      rw [this]
      rfl
  · rw [if_neg ht, sumI_bump _ _ fun k hk => by rw [List.length_map]; exact order_lt (List.mem_of_mem_take hk)]
    rw [List.length_take, order_length]
    unfold leftM at hl ⊢
    omega
/-- As many as have a rest, at least, get one more. -/
theorem left_le_pos {t : Int} {ws : List Int} (hs : 0 < sumI ws) : leftM t ws ≤ ((ws.map (rM t (sumI ws))).countP fun r => decide (0 < r)) := by
  have h1 := sum_parts t (sumI ws) ws
  have h3 : leftM t ws * sumI ws = sumI (ws.map (rM t (sumI ws))) := by
    unfold leftM
    rw [Int.sub_mul]
    omega
  have key : ∀ l : List Int, (∀ r ∈ l, 0 ≤ r ∧ r < sumI ws) → sumI l ≤ (l.countP fun r => decide (0 < r) : Nat) * (sumI ws - 1) := by
    intro l
    induction l with
    | nil => intro _; simp
    | cons x r ih =>
      intro h
      have h2 := ih fun y hy => h y (by simp [hy])
      have h4 := h x (by simp)
      rw [List.countP_cons, sumI_cons]
      by_cases hx : 0 < x
      · rw [if_pos (by simpa using hx), Int.natCast_add, Int.add_mul]
        simp only [Int.natCast_one, Int.one_mul]
        omega
      · rw [if_neg (by simpa using hx)]
        simp only [Nat.add_zero]
        omega
  have h4 := key (ws.map (rM t (sumI ws))) fun r hr => by
    obtain ⟨w, _, rfl⟩ := List.mem_map.1 hr
    exact ⟨Int.emod_nonneg _ (by omega), Int.emod_lt_of_pos _ hs⟩
  generalize ((ws.map (rM t (sumI ws))).countP fun r => decide (0 < r)) = c at h4 ⊢
  apply Int.le_of_not_gt
  intro hn
  have h5 : ((c : Int) + 1) * sumI ws ≤ leftM t ws * sumI ws := Int.mul_le_mul_of_nonneg_right (by omega) (by omega)
  have h6 : (c : Int) * (sumI ws - 1) = c * sumI ws - c := by rw [Int.mul_sub, Int.mul_one]
  rw [Int.add_mul, Int.one_mul] at h5
  omega
end Go.Proofs.YteecfjkljmmecaaGreat
