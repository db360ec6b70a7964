/- WALKS: the references' Name, May, Wrong. -/
import Derived.Test.YteecfjkljmmecaaGreatLs
namespace Go.Proofs.YteecfjkljmmecaaGreat
open Go.RowKit Go.Sort Go.Shelf
section
variable (w : World)
theorem letter_any (c : Int) : Calls Tryz.prog 81 #[.int .u8 c] w (BoolPost (lowB c) w) := by
  have hd : (97 ≤ c ∧ c ≤ 122 ∧ lowB c = true) ∨ (97 ≤ c ∧ ¬ c ≤ 122 ∧ lowB c = false) ∨ (¬ 97 ≤ c ∧ lowB c = false) := by unfold lowB; by_cases h1 : 97 ≤ c <;> by_cases h2 : c ≤ 122 <;> simp [h1, h2]
  rcases hd with ⟨h1, h2, h⟩ | ⟨h1, h2, h⟩ | ⟨h1, h⟩
  all_goals
    have H := Lib.hid h
    clear h
    go_enter Tryz.func81, Tryz.ntmps81
    go_wp2
    go_ret
    exact ⟨by rw [H.out]; rfl, rfl⟩
theorem digit_any (c : Int) : Calls Tryz.prog 82 #[.int .u8 c] w (BoolPost (digB c) w) := by
  have hd : (48 ≤ c ∧ c ≤ 57 ∧ digB c = true) ∨ (48 ≤ c ∧ ¬ c ≤ 57 ∧ digB c = false) ∨ (¬ 48 ≤ c ∧ digB c = false) := by unfold digB; by_cases h1 : 48 ≤ c <;> by_cases h2 : c ≤ 57 <;> simp [h1, h2]
  rcases hd with ⟨h1, h2, h⟩ | ⟨h1, h2, h⟩ | ⟨h1, h⟩
  all_goals
    have H := Lib.hid h
    clear h
    go_enter Tryz.func82, Tryz.ntmps82
    go_wp2
    go_ret
    exact ⟨by rw [H.out]; rfl, rfl⟩
set_option maxHeartbeats 4000000 in
theorem refName_any (s : ByteArray) (hs : s.size ≤ 9223372036854775807) : Calls Tryz.prog 49 #[.string s] w (BoolPost (nameB s) w) := by
  have hP : Hid (∀ b, nameB s = b → BoolPost (nameB s) w (.returned (.bool b)) w) := Lib.hid fun b hb => ⟨by rw [hb], rfl⟩
  have hN : Hid (nameB s = (decide (1 ≤ s.size) && decide (s.size ≤ 16) && allB s)) := Lib.hid rfl
  go_enter Tryz.func49, Tryz.ntmps49
  go_wp2
  go_loopg [3] (s.size) (fun g v3 wr => ∃ k : Nat, v3 = .int .i64 (k : Int) ∧ k + g = s.size ∧ Hid (∀ j (hj : j < s.size), j < k → chB s[j].toNat = true) ∧ w = wr)
  case atStart => exact ⟨0, rfl, by omega, Lib.hid (by omega), rfl⟩
  case round =>
    obtain ⟨k, rfl, hg, hall, rfl⟩ := hrel
    by_cases hk : k < s.size
    · have hl := Lib.hid (fun W => letter_any W s[k].toNat)
      have hd := Lib.hid (fun W => digit_any W s[k].toNat)
      have hch : Hid (chB s[k].toNat = (lowB s[k].toNat || digB s[k].toNat || ((s[k].toNat : Int) == 45))) := Lib.hid rfl
      have hno := Lib.hid (fun h : chB s[k].toNat = false => allB_no hk h)
      have hyes : Hid (chB s[k].toNat = true → ∀ j (hj : j < s.size), j < k + 1 → chB s[j].toNat = true) := Lib.hid fun h j hj hlt => by
        by_cases e : j = k
        · subst e; exact h
        · exact hall.out j hj (by omega)
      cases h1 : lowB s[k].toNat
      · cases h2 : digB s[k].toNat
        · rw [h1] at hl
          rw [h2] at hd
          have H1 := Lib.hid h1
          have H2 := Lib.hid h2
          clear h1 h2
          by_cases h3 : (s[k].toNat : Int) = 45
          · have z : ((s[k].toNat : Int) == 45) = true := by simpa using h3
            have z' : ((s[k].toNat : Int) != 45) = false := by simpa using h3
            have hY := Lib.hid (hyes.out (by rw [hch.out, z]; simp))
            clear h3
            go_wp2_with (first
              | (go_at_call 81; refine (hl.out _).mono ?_; rintro e w' ⟨rfl, rfl⟩)
              | (go_at_call 82; refine (hd.out _).mono ?_; rintro e w' ⟨rfl, rfl⟩))
            go_roundg (s.size - (k + 1))
            case measure => omega
            case rel => exact ⟨k + 1, by simp, by omega, hY, rfl⟩
          · have z : ((s[k].toNat : Int) == 45) = false := by simpa using h3
            have z' : ((s[k].toNat : Int) != 45) = true := by simpa using h3
            have hY := Lib.hid (hno.out (by rw [hch.out, z, H1.out, H2.out]; rfl))
            clear h3
            go_wp2_with (first
              | (go_at_call 81; refine (hl.out _).mono ?_; rintro e w' ⟨rfl, rfl⟩)
              | (go_at_call 82; refine (hd.out _).mono ?_; rintro e w' ⟨rfl, rfl⟩))
            go_ret
            exact hP.out _ (by rw [hN.out, hY.out]; simp)
        · rw [h1] at hl
          rw [h2] at hd
          have hY := Lib.hid (hyes.out (by rw [hch.out, h2]; simp))
          clear h1 h2
          go_wp2_with (first
            | (go_at_call 81; refine (hl.out _).mono ?_; rintro e w' ⟨rfl, rfl⟩)
            | (go_at_call 82; refine (hd.out _).mono ?_; rintro e w' ⟨rfl, rfl⟩))
          go_roundg (s.size - (k + 1))
          case measure => omega
          case rel => exact ⟨k + 1, by simp, by omega, hY, rfl⟩
      · rw [h1] at hl
        have hY := Lib.hid (hyes.out (by rw [hch.out, h1]; simp))
        clear h1
        go_wp2_with (first
          | (go_at_call 81; refine (hl.out _).mono ?_; rintro e w' ⟨rfl, rfl⟩)
          | (go_at_call 82; refine (hd.out _).mono ?_; rintro e w' ⟨rfl, rfl⟩))
        go_roundg (s.size - (k + 1))
        case measure => omega
        case rel => exact ⟨k + 1, by simp, by omega, hY, rfl⟩
    · have H := Lib.hid (allB_yes fun j hj => hall.out j hj (by omega))
      by_cases h1 : 1 ≤ s.size
      · by_cases h2 : s.size ≤ 16
        · have z1 : decide (1 ≤ (s.size : Int)) = true := by simp; omega
          have z2 : decide ((s.size : Int) ≤ 16) = true := by simp; omega
          go_wp2
          go_ret
          exact hP.out _ (by rw [hN.out, H.out]; simp [h1, h2])
        · have z1 : decide (1 ≤ (s.size : Int)) = true := by simp; omega
          have z2 : decide ((s.size : Int) ≤ 16) = false := by simp; omega
          go_wp2
          go_ret
          exact hP.out _ (by rw [hN.out]; simp [h2])
      · have z1 : decide (1 ≤ (s.size : Int)) = false := by simp; omega
        go_wp2
        go_ret
        exact hP.out _ (by rw [hN.out]; simp [h1])
set_option maxHeartbeats 4000000 in
theorem refMay_any (c : Clm) (h1 : c.name.size ≤ 9223372036854775807) (h2 : c.thing.size ≤ 9223372036854775807) : Calls Tryz.prog 31 #[cVal c] w (MayPost (mayB c) w) := by
  have hN := Lib.hid (fun W => refName_any W c.name h1)
  have hT := Lib.hid (fun W => refName_any W c.thing h2)
  have hd := may_cases c
  have hP : Hid (∀ b W, mayB c = b → Grows w W → MayPost (mayB c) w (.returned (.bool b)) W) := Lib.hid fun b W hb h => ⟨by rw [hb], h⟩
  generalize mayB c = m at *
  generalize nameB c.name = n1 at *
  generalize nameB c.thing = n2 at *
  obtain ⟨a1, a2, a3, a4, a5⟩ := c
  simp only [cVal] at *
  rcases hd with ⟨rfl, h⟩ | ⟨rfl, rfl, h⟩ | ⟨rfl, rfl, q0, h⟩ | ⟨rfl, rfl, q0, q1, h⟩ | ⟨rfl, rfl, q0, q1, q2, h⟩ | ⟨rfl, rfl, q0, q1, q2, q3, h⟩ | ⟨rfl, rfl, q0, q1, q2, q3, q4, h⟩ | ⟨rfl, rfl, q0, q1, q2, q3, q4, q5, h⟩ | ⟨rfl, rfl, q0, q1, q2, q3, q4, q5, h⟩
  all_goals
    have H := Lib.hid h
    clear h
    go_enter Tryz.func31, Tryz.ntmps31
    go_wp2_with (first
      | (go_at_call 49; refine (hN.out _).mono ?_; clear hN; rintro e w' ⟨rfl, rfl⟩)
      | (go_at_call 49; refine (hT.out _).mono ?_; clear hT; rintro e w' ⟨rfl, rfl⟩))
    go_ret
    first
      | exact hP.out _ _ H.out ((Grows.refl w).alloc _)
      | exact hP.out _ _ (by rw [H.out]; symm; simp; omega) ((Grows.refl w).alloc _)
def ErrPost (n : Int) (w : World) (e : Ending) (w' : World) : Prop := e = .returned (.int .i64 n) ∧ Only (fun _ => False) w w'
set_option maxHeartbeats 4000000 in
theorem refWrong_any {v : Value} {xs : List Clm} (h : ReadsC w v xs) (hs : Short xs) (hl : xs.length ≤ 9223372036854775807) : Calls Tryz.prog 19 #[v] w (ErrPost (allM xs) w) := by
  have hX := Lib.hid h
  have hS := Lib.hid hs
  have hP : Hid (∀ n W, allM xs = n → Only (fun _ => False) w W → ErrPost (allM xs) w (.returned (.int .i64 n)) W) := Lib.hid fun n W hn h => ⟨by rw [hn], h⟩
  obtain ⟨A, c, rfl, _⟩ := h
  clear hs
  go_enter Tryz.func19, Tryz.ntmps19
  go_wp2
  go_loopg [3] (xs.length) (fun g v3 wr => ∃ i : Nat, v3 = .int .i64 (i : Int) ∧ i + g = xs.length ∧ Hid (∀ x ∈ xs.take i, mayB x = true) ∧ Only (fun _ => False) w wr)
  case atStart => exact ⟨0, rfl, by omega, Lib.hid (by simp), Only.refl _ _⟩
  case round =>
    obtain ⟨i, rfl, hg, hall, ho⟩ := hrel
    by_cases hi : i < xs.length
    · obtain ⟨x, hx⟩ : ∃ x, xs[i]? = some x := ⟨xs[i], List.getElem?_eq_getElem hi⟩
      obtain ⟨A', c', hA', hr⟩ := ReadsC.cells wr (hX.out.quiet ho)
      injection hA' with hA1 hA2 hA3
      subst hA1 hA3
      obtain ⟨b, off, rfl, k0, k1, k2, k3, k4⟩ := hr i x hx
      have hsx := hS.out x (List.mem_of_getElem? hx)
      have hM := Lib.hid (fun W => refMay_any W x hsx.1 hsx.2)
      have hno : Hid (mayB x = false → allM xs = 1) := Lib.hid fun hf => by
        unfold allM
        rw [if_pos]
        exact List.any_eq_true.2 ⟨x, List.mem_of_getElem? hx, by simp [hf]⟩
      have hyes : Hid (mayB x = true → ∀ z ∈ xs.take (i + 1), mayB z = true) := Lib.hid fun hf z hz => by
        rw [List.take_add_one, hx] at hz
        simp at hz
        rcases hz with hz | rfl
        · exact hall.out z hz
        · exact hf
      generalize mayB x = m at *
      obtain ⟨a1, a2, a3, a4, a5⟩ := x
      simp only [cVal] at k0 k1 k2 k3 k4 hM
      clear hr hA2 hsx hx
      cases m
      · have H := Lib.hid (hno.out rfl)
        go_wp2_with (go_at_call 31; refine (hM.out _).mono ?_; rintro e w1 ⟨rfl, hg1⟩)
        go_ret
        exact hP.out _ _ H.out (ho.trans hg1.only fun _ _ => id)
      · have H := Lib.hid (hyes.out rfl)
        go_wp2_with (go_at_call 31; refine (hM.out _).mono ?_; rintro e w1 ⟨rfl, hg1⟩)
        go_roundg (xs.length - (i + 1))
        case measure => omega
        case rel => exact ⟨i + 1, by simp, by omega, H, ho.trans hg1.only fun _ _ => id⟩
    · have hie : i = xs.length := by omega
      subst hie
      have hall' := hall.out
      rw [List.take_length] at hall'
      have hA : Hid (∀ n : Int, (if 4096 < xs.length then (7 : Int) else 0) = n → allM xs = n) := Lib.hid fun n hn => by
        unfold allM
        rw [if_neg, hn]
        intro hc
        obtain ⟨x, hx, hm⟩ := List.any_eq_true.1 hc
        rw [hall' x hx] at hm
        simp at hm
      clear hall'
      by_cases h4 : 4096 < xs.length
      · have z : decide (4096 < (xs.length : Int)) = true := by simp; omega
        have z' : decide (4096 < xs.length) = true := by simp; omega
        have H := Lib.hid (hA.out 7 (if_pos h4))
        go_wp2
        go_ret
        exact hP.out _ _ H.out ho
      · have z : decide (4096 < (xs.length : Int)) = false := by simp; omega
        have z' : decide (4096 < xs.length) = false := by simp; omega
        have H := Lib.hid (hA.out 0 (if_neg h4))
        go_wp2
        go_ret
        exact hP.out _ _ H.out ho
end
end Go.Proofs.YteecfjkljmmecaaGreat
