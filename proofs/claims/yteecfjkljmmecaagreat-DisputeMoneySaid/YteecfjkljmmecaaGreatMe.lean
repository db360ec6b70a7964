/- WALK: dispute.Money, refused. -/
import Derived.Test.YteecfjkljmmecaaGreatMp
namespace Go.Proofs.YteecfjkljmmecaaGreat
open Go.RowKit Go.Sort Go.Shelf
def NoPost (n : Int) (w : World) (e : Ending) (w' : World) : Prop := e = .returned (.tuple #[.slice none 0 0, .int .i64 0, .int .i64 n]) ∧ Grows w w'
set_option maxHeartbeats 2000000 in
theorem money_no (w : World) (pot : Int) {v : Value} {xs : List Clm} (h : ReadsC w v xs) (hs : Short xs) (hl : xs.length ≤ 9223372036854775807) (he : moneyErr pot xs ≠ 0) : Calls Tryz.prog 18 #[.int .i64 pot, v] w (NoPost (moneyErr pot xs) w) := by
  have hA := claims_any w h hs hl
  have hP : Hid (∀ n W, moneyErr pot xs = n → Grows w W → NoPost (moneyErr pot xs) w (.returned (.tuple #[.slice none 0 0, .int .i64 0, .int .i64 n])) W) := Lib.hid fun n W hn hg => ⟨by rw [hn], hg⟩
  have hd : (allM xs = 1 ∧ moneyErr pot xs = 1) ∨ (allM xs ≠ 1 ∧ pot < 0 ∧ moneyErr pot xs = 1) ∨ (allM xs ≠ 1 ∧ ¬ pot < 0 ∧ 1099511627776 < pot ∧ moneyErr pot xs = 1) ∨ (allM xs ≠ 1 ∧ ¬ pot < 0 ∧ ¬ 1099511627776 < pot ∧ allM xs ≠ 0 ∧ moneyErr pot xs = allM xs) := by
    unfold moneyErr at *
    by_cases h1 : allM xs = 1
    · simp [h1]
    · by_cases h2 : pot < 0
      · simp [h1, h2]
      · by_cases h3 : 1099511627776 < pot
        · simp [h1, h2, h3]
        · simp [h1, h2, h3] at he ⊢
          exact he
  unfold AllPost at hA
  generalize allM xs = m at *
  generalize moneyErr pot xs = r at *
  have hAl := Lib.hid hA
  clear hA he
  obtain ⟨A, c, rfl, _⟩ := h
  rcases hd with ⟨rfl, h⟩ | ⟨q1, q2, h⟩ | ⟨q1, q2, q3, h⟩ | ⟨q1, q2, q3, q4, h⟩
  · have H := Lib.hid h
    clear h
    go_enter Tryz.func18, Tryz.ntmps18
    go_wp2_with (first | (go_at_call 29; refine hAl.out.mono ?_; clear hAl; rintro e w1 ⟨rfl, hg⟩))
    go_ret3
    exact hP.out _ _ H.out hg
  all_goals
    have H := Lib.hid h
    have q1b : (m == 1) = false := by simpa using q1
    clear h
    go_enter Tryz.func18, Tryz.ntmps18
    go_wp2_with (first | (go_at_call 29; refine hAl.out.mono ?_; clear hAl; rintro e w1 ⟨rfl, hg⟩))
    go_ret3
    exact hP.out _ _ H.out hg
end Go.Proofs.YteecfjkljmmecaaGreat
