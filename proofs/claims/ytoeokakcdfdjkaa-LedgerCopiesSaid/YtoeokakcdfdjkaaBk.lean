/- THE LEDGER, PURE: each balance is the sum of the entries on its account; the entries of a post sum to nothing. -/
import Derived.Test.YtoeokakcdfdjkaaTk
namespace Go.Proofs.Ytoeokakcdfdjkaa
open Go.RowKit

def entSum (x : List Ent) (k : Key) : Int := (x.map fun e => if e.key = k then e.amt else 0).sum
def entCur (x : List Ent) (c : ByteArray) : Int := (x.map fun e => if e.cur = c then e.amt else 0).sum
def postSum (P : List PostM) (k : Key) : Int := (P.map fun p => entSum p.ents k).sum
structure Books (S : Led) : Prop where
  bal : ∀ p ∈ S.A, p.2.bal = postSum S.P p.1
  keys : ∀ p ∈ S.P, ∀ e ∈ p.ents, e.key ∈ akeys S.A ∧ -maxA ≤ e.amt ∧ e.amt ≤ maxA
  cur : ∀ p ∈ S.P, ∀ c, entCur p.ents c = 0
  len : ∀ p ∈ S.P, p.ents.length ≤ 64
  pre : ∀ n, ∀ p ∈ S.A, p.2.floor ≤ postSum (S.P.take n) p.1 ∧ postSum (S.P.take n) p.1 ≤ maxA
  num : ∀ (i : Nat) p, S.P[i]? = some p → p.num = (i : Int) + 1
theorem entSum_cons (e : Ent) (x : List Ent) (k : Key) : entSum (e :: x) k = (if e.key = k then e.amt else 0) + entSum x k := by simp [entSum]
theorem entCur_nil (c : ByteArray) : entCur [] c = 0 := rfl
theorem entSum_nil (k : Key) : entSum [] k = 0 := rfl
theorem map_zero_sum {α : Type} (l : List α) : (l.map fun _ => (0 : Int)).sum = 0 := by
  induction l with
  | nil => rfl
  | cons x r ih => simp only [List.map_cons, List.sum_cons, ih]; rfl
theorem entSum_app (x y : List Ent) (k : Key) : entSum (x ++ y) k = entSum x k + entSum y k := by simp [entSum]
theorem entCur_cons (e : Ent) (x : List Ent) (c : ByteArray) : entCur (e :: x) c = (if e.cur = c then e.amt else 0) + entCur x c := by simp [entCur]
theorem postSum_app (P Q : List PostM) (k : Key) : postSum (P ++ Q) k = postSum P k + postSum Q k := by simp [postSum]
theorem postSum_cons (p : PostM) (Q : List PostM) (k : Key) : postSum (p :: Q) k = entSum p.ents k + postSum Q k := by simp [postSum]
theorem postSum_one (p : PostM) (k : Key) : postSum [p] k = entSum p.ents k := by simp [postSum]
theorem entSum_zero {x : List Ent} {k : Key} (h : ∀ e ∈ x, e.key ≠ k) : entSum x k = 0 := by
  induction x with
  | nil => rfl
  | cons e r ih => rw [entSum_cons, if_neg (h e (by simp)), ih fun e' h' => h e' (by simp [h'])]; rfl
theorem postSum_zero {P : List PostM} {k : Key} (h : ∀ p ∈ P, ∀ e ∈ p.ents, e.key ≠ k) : postSum P k = 0 := by
  induction P with
  | nil => rfl
  | cons p r ih => rw [postSum_cons, entSum_zero (h p (by simp)), ih fun p' h' => h p' (by simp [h'])]; rfl
theorem chg_fold (x : List Ent) : ∀ (m : List (Key × Int)) (k : Key), (aget (x.foldl (fun m e => aput m e.key ((aget m e.key).getD 0 + e.amt)) m) k).getD 0 = (aget m k).getD 0 + entSum x k := by
  induction x with
  | nil => intro m k; simp [entSum]
  | cons e r ih =>
    intro m k
    rw [List.foldl_cons, ih, entSum_cons, aget_put]
    by_cases h : k = e.key
    · subst h; simp; omega
    · rw [if_neg h, if_neg (fun e' => h e'.symm)]; omega
theorem chg_get (x : List Ent) (k : Key) : (aget (chgM x) k).getD 0 = entSum x k := by
  have := chg_fold x [] k
  simpa [chgM, aget] using this
theorem sum_fold (x : List Ent) : ∀ (m : List (ByteArray × Int)) (k : ByteArray), (aget (x.foldl (fun m e => aput m e.cur ((aget m e.cur).getD 0 + e.amt)) m) k).getD 0 = (aget m k).getD 0 + entCur x k := by
  induction x with
  | nil => intro m k; simp [entCur]
  | cons e r ih =>
    intro m k
    rw [List.foldl_cons, ih, entCur_cons, aget_put]
    by_cases h : k = e.cur
    · subst h; simp; omega
    · rw [if_neg h, if_neg (fun e' => h e'.symm)]; omega
theorem sum_get (x : List Ent) (k : ByteArray) : (aget (sumM x) k).getD 0 = entCur x k := by
  have := sum_fold x [] k
  simpa [sumM, aget] using this
theorem Books.empty : Books ⟨[], [], []⟩ := ⟨by simp, by simp, by simp, by simp, by simp, by simp⟩
/-- What a post may be booked with. -/
structure EntsOk (S : Led) (x : List Ent) : Prop where
  keys : ∀ e ∈ x, e.key ∈ akeys S.A ∧ -maxA ≤ e.amt ∧ e.amt ≤ maxA
  cur : ∀ c, entCur x c = 0
  len : x.length ≤ 64
theorem wrong_ok {S : Led} {t : ByteArray} {x : List Ent} (h : wrongM S t x = 0) : EntsOk S x ∧ t.size ≤ 4096 ∧ 1 ≤ x.length ∧ S.P.length < 4096 := by
  unfold wrongM at h
  split at h
  · cases h
  · split at h
    · cases h
    · split at h
      · cases h
      · split at h
        · cases h
        · split at h
          · cases h
          · rename_i h1 h2 h3 h4 h5
            refine ⟨⟨fun e he => ?_, fun c => ?_, by omega⟩, by omega, by omega, by omega⟩
            · have a3 : ¬ (!(aget S.A e.key).isSome) = true := fun hh => h3 (List.any_eq_true.2 ⟨e, he, hh⟩)
              have a4 : ¬ (e.amt < -maxA ∨ e.amt > maxA) := fun hh => h4 (List.any_eq_true.2 ⟨e, he, decide_eq_true hh⟩)
              refine ⟨isSome_mem (by cases hx : (aget S.A e.key).isSome <;> simp [hx] at a3 ⊢), by omega, by omega⟩
            · rw [← sum_get]
              cases hc : aget (sumM x) c with
              | none => rfl
              | some v =>
                apply Classical.byContradiction
                intro hv
                exact h5 (List.any_eq_true.2 ⟨_, aget_mem hc, decide_eq_true (by simpa using hv)⟩)
section
variable {S : Led}
theorem take_snoc_ge {α : Type} (l : List α) (a : α) (n : Nat) : (l ++ [a]).take n = if n ≤ l.length then l.take n else l ++ [a] := by
  split
  · rename_i h; rw [List.take_append_of_le_length h]
  · rename_i h; rw [List.take_of_length_le (by simp; omega)]
theorem Books.book (B : Books S) {t : ByteArray} {x : List Ent} {D : List (Key × Int)} (hx : EntsOk S x) (hD : ∀ k, (aget D k).getD 0 = entSum x k) (G' : Good (bookM S t x D)) : Books (bookM S t x D) := by
  have hA : ∀ p ∈ (bookM S t x D).A, ∃ q ∈ S.A, p = (q.1, { q.2 with bal := q.2.bal + (aget D q.1).getD 0 }) := fun p hp => by
    obtain ⟨q, hq, rfl⟩ := List.mem_map.1 hp
    exact ⟨q, hq, rfl⟩
  have hb : ∀ p ∈ (bookM S t x D).A, p.2.bal = postSum (S.P ++ [⟨(S.P.length : Int) + 1, t, x⟩]) p.1 := fun p hp => by
    obtain ⟨q, hq, rfl⟩ := hA p hp
    simp only
    rw [hD, B.bal q hq, postSum_app, postSum_one]
  refine ⟨hb, fun p hp e he => ?_, fun p hp c => ?_, fun p hp => ?_, fun n p hp => ?_, fun i p hp => ?_⟩
  · show e.key ∈ akeys (addAll S.A D) ∧ _
    rw [akeys_addAll]
    rcases List.mem_append.1 hp with hp | hp
    · exact B.keys p hp e he
    · simp at hp; subst hp; exact hx.keys e he
  · rcases List.mem_append.1 hp with hp | hp
    · exact B.cur p hp c
    · simp at hp; subst hp; exact hx.cur c
  · rcases List.mem_append.1 hp with hp | hp
    · exact B.len p hp
    · simp at hp; subst hp; exact hx.len
  · show p.2.floor ≤ postSum ((S.P ++ [_]).take n) p.1 ∧ postSum ((S.P ++ [_]).take n) p.1 ≤ maxA
    rw [take_snoc_ge]
    split
    · obtain ⟨q, hq, rfl⟩ := hA p hp
      exact B.pre n q hq
    · rw [← hb p hp]
      have h1 := G'.acct p hp
      have h2 := G'.held p hp
      have h3 := heldOf_nonneg G' p.1
      unfold Acct.free at h1
      omega
  · have hp' : (S.P ++ [⟨(S.P.length : Int) + 1, t, x⟩])[i]? = some p := hp
    by_cases hi : i < S.P.length
    · rw [List.getElem?_append_left hi] at hp'
      exact B.num i p hp'
    · rw [List.getElem?_append_right (by omega)] at hp'
      obtain rfl : i = S.P.length := by
        have := (List.getElem?_eq_some_iff.1 hp').1
        simp at this; omega
      simp at hp'
      subst hp'
      rfl
theorem Books.open (B : Books S) (a c : ByteArray) (fl : Int) : Books (openM S a c fl).1 := by
  unfold openM
  split
  · exact B
  · split
    · exact B
    · split
      · exact B
      · split
        · exact B
        · rename_i h1 h2 h3 h4
          have hno : aget S.A (a, c) = none := by simpa using h3
          have hz : ∀ n, postSum (S.P.take n) (a, c) = 0 := fun n => postSum_zero fun p hp e he hk => aget_none.1 hno (by have := (B.keys p (List.mem_of_mem_take hp) e he).1; rwa [hk] at this)
          have hz' : postSum S.P (a, c) = 0 := postSum_zero fun p hp e he hk => aget_none.1 hno (by have := (B.keys p hp e he).1; rwa [hk] at this)
          have hA : ∀ p ∈ aput S.A (a, c) ⟨fl, 0, 0⟩, p = ((a, c), ⟨fl, 0, 0⟩) ∨ p ∈ S.A := fun p hp => by
            rw [aput_new hno] at hp
            rcases List.mem_append.1 hp with hp | hp
            · exact .inr hp
            · simp at hp; exact .inl hp
          refine ⟨fun p hp => ?_, fun p hp e he => ?_, B.cur, B.len, fun n p hp => ?_, B.num⟩
          · rcases hA p hp with rfl | hp
            · exact hz'.symm
            · exact B.bal p hp
          · exact ⟨mem_keys_put.2 (.inr (B.keys p hp e he).1), (B.keys p hp e he).2⟩
          · rcases hA p hp with rfl | hp
            · show fl ≤ postSum (S.P.take n) (a, c) ∧ postSum (S.P.take n) (a, c) ≤ maxA
              rw [hz n]
              simp only [maxA_eq] at *; omega
            · exact B.pre n p hp
theorem Books.keep (B : Books S) (G : Good S) {k : Key} {more : Int} {H' : List (ByteArray × HoldD)} (hk : k ∈ akeys S.A) : Books { S with A := keepL S.A k more, H := H' } := by
  obtain ⟨v, hv⟩ := aget_some hk
  have hm := aget_mem hv
  have ha := acctOr_of hv
  refine ⟨fun p hp => ?_, fun p hp e he => ?_, B.cur, B.len, fun n p hp => ?_, B.num⟩
  · rcases mem_put G.nodA hp with rfl | ⟨_, hp⟩
    · simp only [ha]; exact B.bal _ hm
    · exact B.bal p hp
  · exact ⟨mem_keys_put.2 (.inr (B.keys p hp e he).1), (B.keys p hp e he).2⟩
  · rcases mem_put G.nodA hp with rfl | ⟨_, hp⟩
    · simp only [ha]; exact B.pre n _ hm
    · exact B.pre n p hp
theorem Books.holds (B : Books S) (G : Good S) (i a c : ByteArray) (n : Int) : Books (holdM S i a c n).1 := by
  unfold holdM
  split
  · exact B
  · split
    · exact B
    · split
      · exact B
      · rename_i h3
        split
        · exact B
        · split
          · exact B
          · split
            · exact B
            · exact B.keep G (isSome_mem (by cases hx : (aget S.A (a, c)).isSome <;> simp [hx] at h3 ⊢))
theorem Books.less (B : Books S) (G : Good S) {i : ByteArray} {hd : HoldD} (hh : aget S.H i = some hd) (n : Int) : Books (lessM S hd n) :=
  B.keep G (G.hold _ (aget_mem hh)).2.2.2
theorem Books.lets (B : Books S) (G : Good S) (i : ByteArray) : Books (letM S i).1 := by
  unfold letM
  split
  · rename_i h
    obtain ⟨hd, hh⟩ := Option.isSome_iff_exists.1 h
    rw [holdOr_of hh]
    exact B.less G hh _
  · exact B
theorem Books.post (B : Books S) (G : Good S) (t : ByteArray) (x : List Ent) : Books (postM S t x).1 := by
  have G' := G.post t x
  unfold postM at G' ⊢
  split
  · exact B
  · rename_i h1
    rw [if_neg h1] at G'
    split
    · exact B
    · rename_i h2
      rw [if_neg h2] at G'
      split
      · exact B
      · rename_i h3
        rw [if_neg h3] at G'
        exact B.book (wrong_ok (by simpa using h1)).1 (chg_get x) G'
theorem Books.take (B : Books S) (G : Good S) (i to : ByteArray) (n : Int) : Books (takeM S i to n).1 := by
  have G' := G.take i to n
  unfold takeM at G' ⊢
  simp only at G' ⊢
  split
  · exact B
  · rename_i h1
    rw [if_neg h1] at G'
    split
    · exact B
    · rename_i h2
      rw [if_neg h2] at G'
      split
      · exact B
      · rename_i h3
        rw [if_neg h3] at G'
        split
        · exact B
        · rename_i h4
          rw [if_neg h4] at G'
          split
          · exact B
          · rename_i h5
            rw [if_neg h5] at G'
            have hs : (aget S.H i).isSome = true := by
              cases hx : (aget S.H i).isSome <;> simp [hx] at h1 ⊢
            have ht : (aget S.A (to, (holdOr S.H i).cur)).isSome = true := by
              cases hx : (aget S.A (to, (holdOr S.H i).cur)).isSome <;> simp [hx, hs] at h1 ⊢
            obtain ⟨hd, hh⟩ := Option.isSome_iff_exists.1 hs
            rw [holdOr_of hh] at *
            have hg := G.hold _ (aget_mem hh)
            simp only at hg
            have G2 := G.less hh (n := n) (by omega) (by omega)
            have hkk : ∀ k, k ∈ akeys S.A → k ∈ akeys (lessM S hd n).A := fun k hk => mem_keys_put.2 (.inr hk)
            refine (B.less G hh n).book ⟨fun e he => ?_, fun c => ?_, by simp⟩ (fun k => ?_) G'
            · simp at he
              rcases he with rfl | rfl
              · exact ⟨hkk _ hg.2.2.2, by simp only; omega, by simp only; have := maxA_eq; omega⟩
              · exact ⟨hkk _ (isSome_mem ht), by simp only; have := maxA_eq; omega, by simp only; omega⟩
            · rw [entCur_cons, entCur_cons, entCur_nil]
              simp only
              split <;> omega
            · rw [entSum_cons, entSum_cons, entSum_nil]
              show (aget _ k).getD 0 = (if (hd.acct, hd.cur) = k then -n else 0) + ((if (to, hd.cur) = k then n else 0) + 0)
              simp only [aget]
              by_cases e1 : (hd.acct, hd.cur) = k
              · rw [if_pos e1, if_pos e1, if_neg (fun e2 => h2 (by rw [← e1] at e2; injection e2))]; simp
              · rw [if_neg e1, if_neg e1]
                split <;> simp
theorem Books.do (B : Books S) (G : Good S) (x : ActM) : Books (doM S x).1 := by
  unfold doM
  split
  · exact B.open _ _ _
  · split
    · exact B.post G _ _
    · split
      · exact B.holds G _ _ _ _
      · split
        · exact B.take G _ _ _
        · exact B.lets G _
end
theorem playM_books (xs : List ActM) : Books (playM xs) := by
  unfold playM
  suffices H : ∀ (xs : List ActM) S, Good S → Books S → Books (xs.foldl (fun S x => (doM S x).1) S) from H xs _ Good.empty Books.empty
  intro xs
  induction xs with
  | nil => exact fun S _ B => B
  | cons x r ih => exact fun S G B => ih _ (G.do x) (B.do G x)
/-- All balances of a currency sum to nothing. -/
theorem one_key {A : List (Key × Acct)} (hn : (akeys A).Nodup) {k : Key} (hk : k ∈ akeys A) (n : Int) (c : ByteArray) : (A.map fun p => if p.1.2 = c then (if k = p.1 then n else 0) else 0).sum = if k.2 = c then n else 0 := by
  induction A with
  | nil => simp [akeys] at hk
  | cons p r ih =>
    simp only [akeys, List.map_cons, List.nodup_cons, List.mem_cons] at hn hk
    simp only [List.map_cons, List.sum_cons]
    by_cases h : k = p.1
    · subst h
      have hz : (r.map fun q => if q.1.2 = c then (if p.1 = q.1 then n else 0) else 0).sum = 0 := by
        have : r.map (fun q => if q.1.2 = c then (if p.1 = q.1 then n else 0) else 0) = r.map fun _ => (0 : Int) := List.map_congr_left fun q hq => by
          rw [if_neg (fun e : p.1 = q.1 => hn.1 (List.mem_map.2 ⟨q, hq, e.symm⟩))]; simp
        rw [this, map_zero_sum]
      rw [hz]; simp
    · have hr : k ∈ List.map (fun x => x.1) r := hk.resolve_left h
      rw [ih hn.2 hr, if_neg h]; simp
theorem sum_add (A : List (Key × Acct)) (f g : Key × Acct → Int) : (A.map fun p => f p + g p).sum = (A.map f).sum + (A.map g).sum := by
  induction A with
  | nil => rfl
  | cons p r ih => simp only [List.map_cons, List.sum_cons, ih]; omega
theorem ents_tot {A : List (Key × Acct)} (hn : (akeys A).Nodup) (c : ByteArray) : ∀ {x : List Ent}, (∀ e ∈ x, e.key ∈ akeys A) → (A.map fun p => if p.1.2 = c then entSum x p.1 else 0).sum = entCur x c
  | [], _ => by simp [entSum, entCur, map_zero_sum]
  | e :: r, h => by
    have h1 : (A.map fun p => if p.1.2 = c then entSum (e :: r) p.1 else 0) = A.map fun p => (if p.1.2 = c then (if e.key = p.1 then e.amt else 0) else 0) + if p.1.2 = c then entSum r p.1 else 0 := List.map_congr_left fun p _ => by
      rw [entSum_cons]; by_cases hc : p.1.2 = c <;> simp [hc]
    rw [h1, sum_add, one_key hn (h e (by simp)), ents_tot hn c fun e' he' => h e' (by simp [he']), entCur_cons]
    rfl
theorem posts_tot {A : List (Key × Acct)} (hn : (akeys A).Nodup) (c : ByteArray) : ∀ {P : List PostM}, (∀ p ∈ P, ∀ e ∈ p.ents, e.key ∈ akeys A) → (∀ p ∈ P, entCur p.ents c = 0) → (A.map fun p => if p.1.2 = c then postSum P p.1 else 0).sum = 0
  | [], _, _ => by simp [postSum, map_zero_sum]
  | p :: r, h, hc => by
    have h1 : (A.map fun q => if q.1.2 = c then postSum (p :: r) q.1 else 0) = A.map fun q => (if q.1.2 = c then entSum p.ents q.1 else 0) + if q.1.2 = c then postSum r q.1 else 0 := List.map_congr_left fun q _ => by
      rw [postSum_cons]; by_cases hc : q.1.2 = c <;> simp [hc]
    rw [h1, sum_add, ents_tot hn c (h p (by simp)), hc p (by simp), posts_tot hn c (fun p' hp' => h p' (by simp [hp'])) (fun p' hp' => hc p' (by simp [hp']))]
    rfl
theorem sum_ite_bal (A : List (Key × Acct)) {P : List PostM} (h : ∀ p ∈ A, p.2.bal = postSum P p.1) (c : ByteArray) : (A.map fun p => if p.1.2 = c then p.2.bal else 0).sum = (A.map fun p => if p.1.2 = c then postSum P p.1 else 0).sum := by
  rw [List.map_congr_left fun p hp => by rw [h p hp]]
theorem totM_zero {S : Led} (G : Good S) (B : Books S) (c : ByteArray) : totM S.A c = 0 := by
  unfold totM
  rw [sum_ite_bal S.A B.bal]
  exact posts_tot G.nodA c (fun p hp e he => (B.keys p hp e he).1) (fun p hp => B.cur p hp c)
end Go.Proofs.Ytoeokakcdfdjkaa
