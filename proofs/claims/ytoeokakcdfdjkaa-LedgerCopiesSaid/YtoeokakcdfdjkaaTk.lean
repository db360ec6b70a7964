/- THE LEDGER, PURE: what is held and taken. -/
import Derived.Test.YtoeokakcdfdjkaaWn
namespace Go.Proofs.Ytoeokakcdfdjkaa
open Go.RowKit

def tS : ByteArray := ⟨#[115, 105, 110, 107]⟩
section
variable {S : Led}
theorem openM_H (a c : ByteArray) (fl : Int) : (openM S a c fl).1.H = S.H ∧ (openM S a c fl).1.P = S.P := by
  unfold openM
  split
  · exact ⟨rfl, rfl⟩
  · split
    · exact ⟨rfl, rfl⟩
    · split
      · exact ⟨rfl, rfl⟩
      · split <;> exact ⟨rfl, rfl⟩
theorem holdM_H {i a c j : ByteArray} {n : Int} (h : i ≠ j) : aget (holdM S i a c n).1.H j = aget S.H j ∧ (holdM S i a c n).1.P = S.P := by
  unfold holdM
  split
  · exact ⟨rfl, rfl⟩
  · split
    · exact ⟨rfl, rfl⟩
    · split
      · exact ⟨rfl, rfl⟩
      · split
        · exact ⟨rfl, rfl⟩
        · split
          · exact ⟨rfl, rfl⟩
          · split
            · exact ⟨rfl, rfl⟩
            · exact ⟨aget_put_other _ _ (Ne.symm h), rfl⟩
theorem lessM_H (G : Good S) {hd : HoldD} {n : Int} {j : ByteArray} (h : hd.id ≠ j) : aget (lessM S hd n).H j = aget S.H j := by
  unfold lessM
  simp only
  split
  · rw [aget_del G.nodH, if_neg (Ne.symm h)]
  · rw [aget_put_other _ _ (Ne.symm h)]
theorem takeM_H (G : Good S) {i to j : ByteArray} {n : Int} (h : i ≠ j) : aget (takeM S i to n).1.H j = aget S.H j ∧ (takeM S i to n).1.P.length ≤ S.P.length + 1 := by
  unfold takeM
  simp only
  split
  · exact ⟨rfl, by simp⟩
  · rename_i h1
    split
    · exact ⟨rfl, by simp⟩
    · split
      · exact ⟨rfl, by simp⟩
      · split
        · exact ⟨rfl, by simp⟩
        · split
          · exact ⟨rfl, by simp⟩
          · refine ⟨?_, by simp [bookM, lessM]⟩
            have hs : (aget S.H i).isSome = true := by
              cases hx : (aget S.H i).isSome <;> simp [hx] at h1 ⊢
            obtain ⟨hd, hh⟩ := Option.isSome_iff_exists.1 hs
            have hg := (G.hold _ (aget_mem hh)).1
            simp only at hg
            rw [holdOr_of hh]
            exact lessM_H G (by rw [hg]; exact h)
theorem letM_H (G : Good S) {i j : ByteArray} (h : i ≠ j) : aget (letM S i).1.H j = aget S.H j ∧ (letM S i).1.P = S.P := by
  unfold letM
  split
  · rename_i hs
    obtain ⟨hd, hh⟩ := Option.isSome_iff_exists.1 hs
    have hg := (G.hold _ (aget_mem hh)).1
    simp only at hg
    rw [holdOr_of hh]
    exact ⟨lessM_H G (by rw [hg]; exact h), rfl⟩
  · exact ⟨rfl, rfl⟩
theorem postM_H (t : ByteArray) (x : List Ent) : (postM S t x).1.H = S.H ∧ (postM S t x).1.P.length ≤ S.P.length + 1 := by
  unfold postM
  split
  · exact ⟨rfl, by simp⟩
  · split
    · exact ⟨rfl, by simp⟩
    · split
      · exact ⟨rfl, by simp⟩
      · exact ⟨rfl, by simp [bookM]⟩
theorem doM_H (G : Good S) {x : ActM} {j : ByteArray} (h : x.a ≠ j) : aget (doM S x).1.H j = aget S.H j := by
  unfold doM
  split
  · exact congrArg (fun H => aget H j) (openM_H _ _ _).1
  · split
    · exact congrArg (fun H => aget H j) (postM_H _ _).1
    · split
      · exact (holdM_H h).1
      · split
        · exact (takeM_H G h).1
        · exact (letM_H G h).1
theorem holdM_P (i a c : ByteArray) (n : Int) : (holdM S i a c n).1.P = S.P := by
  unfold holdM
  split
  · rfl
  · split
    · rfl
    · split
      · rfl
      · split
        · rfl
        · split
          · rfl
          · split <;> rfl
theorem letM_P (i : ByteArray) : (letM S i).1.P = S.P := by unfold letM; split <;> rfl
theorem takeM_P (i to : ByteArray) (n : Int) : (takeM S i to n).1.P.length ≤ S.P.length + 1 := by
  unfold takeM
  simp only
  split
  · simp
  · split
    · simp
    · split
      · simp
      · split
        · simp
        · split
          · simp
          · simp [bookM, lessM]
theorem doM_P (x : ActM) : (doM S x).1.P.length ≤ S.P.length + 1 := by
  unfold doM
  split
  · rw [(openM_H _ _ _).2]; simp
  · split
    · exact (postM_H _ _).2
    · split
      · simp only [holdM_P]; omega
      · split
        · exact takeM_P _ _ _
        · simp only [letM_P]; omega
end
theorem sink_name : nameB tS = true := by kernel_rfl
theorem eur_cur : curB tE = true := by kernel_rfl
def moreM (S : Led) (xs : List ActM) : Led := xs.foldl (fun S x => if x.a = tK then S else (doM S x).1) S
theorem moreM_snoc (S : Led) (xs : List ActM) (x : ActM) : moreM S (xs ++ [x]) = if x.a = tK then moreM S xs else (doM (moreM S xs) x).1 := by unfold moreM; rw [List.foldl_append]; rfl
theorem moreM_spec (xs : List ActM) : ∀ {S : Led}, Good S → Good (moreM S xs) ∧ aget (moreM S xs).H tK = aget S.H tK ∧ (moreM S xs).P.length ≤ S.P.length + xs.length := by
  induction xs with
  | nil => exact fun G => ⟨G, rfl, by simp [moreM]⟩
  | cons x r ih =>
    intro S G
    show Good (moreM (if x.a = tK then S else (doM S x).1) r) ∧ aget (moreM (if x.a = tK then S else (doM S x).1) r).H tK = aget S.H tK ∧ (moreM (if x.a = tK then S else (doM S x).1) r).P.length ≤ S.P.length + (x :: r).length
    split
    · obtain ⟨h1, h2, h3⟩ := ih G
      exact ⟨h1, h2, by simp only [List.length_cons]; omega⟩
    · rename_i hne
      obtain ⟨h1, h2, h3⟩ := ih (G.do x)
      have := doM_P (S := S) x
      exact ⟨h1, h2.trans (doM_H G hne), by simp only [List.length_cons]; omega⟩
theorem playM_P (xs : List ActM) : (playM xs).P.length ≤ xs.length := by
  unfold playM
  suffices H : ∀ (xs : List ActM) (S : Led), (xs.foldl (fun S x => (doM S x).1) S).P.length ≤ S.P.length + xs.length by
    have := H xs ⟨[], [], []⟩
    simpa using this
  intro xs
  induction xs with
  | nil => simp
  | cons x r ih =>
    intro S
    have h1 := ih (doM S x).1
    have h2 := doM_P (S := S) x
    simp only [List.foldl_cons, List.length_cons]
    omega
theorem open_sink {S S' : Led} {e : Int} (h : openM S tS tE 0 = (S', e)) : e = 7 ∨ ((e = 0 ∨ e = 5) ∧ (aget S'.A (tS, tE)).isSome = true ∧ S'.H = S.H ∧ S'.P = S.P) := by
  unfold openM maxA at h
  rw [sink_name, eur_cur] at h
  simp only [Bool.not_true, Bool.or_false, Bool.false_eq_true, if_false] at h
  split at h
  · omega
  · split at h
    · rename_i hs
      injection h with h1 h2
      subst h1
      exact .inr ⟨.inr h2.symm, hs, rfl, rfl⟩
    · split at h
      · injection h with _ h2
        exact .inl h2.symm
      · injection h with h1 h2
        subst h1
        exact .inr ⟨.inl h2.symm, by simp [aget_put], rfl, rfl⟩
theorem bal_addAll {A : List (Key × Acct)} {D : List (Key × Int)} {k : Key} (h : (aget A k).isSome = true) : (acctOr (addAll A D) k).bal = (acctOr A k).bal + (aget D k).getD 0 := by
  obtain ⟨a, ha⟩ := Option.isSome_iff_exists.1 h
  unfold acctOr
  rw [aget_addAll, ha]
  rfl
theorem isSome_keepL {A : List (Key × Acct)} {k j : Key} {m : Int} (h : (aget A j).isSome = true) : (aget (keepL A k m) j).isSome = true := by
  unfold keepL
  rw [aget_put]
  split
  · rfl
  · exact h
theorem take_sink {S : Led} (G : Good S) {n : Int} (hk : aget S.H tK = some ⟨tK, tA, tE, n⟩) (h1 : 1 ≤ n) (hs : (aget S.A (tS, tE)).isSome = true) (hP : S.P.length < 4096) (hb : (acctOr S.A (tS, tE)).bal + n ≤ 1099511627776) :
    ∃ S5, takeM S tK tS n = (S5, 0) ∧ (acctOr S5.A (tS, tE)).bal = (acctOr S.A (tS, tE)).bal + n ∧ (acctOr S5.A (tA, tE)).bal = (acctOr S.A (tA, tE)).bal - n ∧ letM S5 tK = (S5, 4) := by
  have hak : (tA, tE) ∈ akeys S.A := (G.hold _ (aget_mem hk)).2.2.2
  have has : (aget S.A (tA, tE)).isSome = true := by obtain ⟨a, ha⟩ := aget_some hak; rw [ha]; rfl
  refine ⟨bookM (lessM S ⟨tK, tA, tE, n⟩ n) (takeText tK) [⟨tA, tE, -n⟩, ⟨tS, tE, n⟩] [((tA, tE), -n), ((tS, tE), n)], ?_, ?_, ?_, ?_⟩
  · unfold takeM maxA
    simp only [holdOr_of hk]
    rw [if_neg (by rw [hk, hs]; simp), if_neg (by decide), if_neg (by omega), if_neg (by omega), if_neg (by omega)]
  · show (acctOr (addAll (keepL S.A (tA, tE) (-n)) [((tA, tE), -n), ((tS, tE), n)]) (tS, tE)).bal = _
    rw [bal_addAll (isSome_keepL hs), bal_keepL]
    simp [aget, show ¬ tA = tS by decide]
  · show (acctOr (addAll (keepL S.A (tA, tE) (-n)) [((tA, tE), -n), ((tS, tE), n)]) (tA, tE)).bal = _
    rw [bal_addAll (isSome_keepL has), bal_keepL]
    simp [aget]
    omega
  · unfold letM
    have : aget (bookM (lessM S ⟨tK, tA, tE, n⟩ n) (takeText tK) [⟨tA, tE, -n⟩, ⟨tS, tE, n⟩] [((tA, tE), -n), ((tS, tE), n)]).H tK = none := by
      show aget (if n - n = 0 then adel S.H tK else aput S.H tK _) tK = none
      rw [if_pos (by omega), aget_del G.nodH, if_pos rfl]
    rw [this]
    rfl
end Go.Proofs.Ytoeokakcdfdjkaa
