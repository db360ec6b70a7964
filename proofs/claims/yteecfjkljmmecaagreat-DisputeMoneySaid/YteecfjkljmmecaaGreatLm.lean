/- WALK: the law DisputeMoney. -/
import Derived.Test.YteecfjkljmmecaaGreatRm
import Derived.Test.YteecfjkljmmecaaGreatNw
namespace Go.Proofs.YteecfjkljmmecaaGreat
open Go.RowKit Go.Sort Go.Shelf
theorem same_ints (W : World) {u v : Value} {xs : List Int} (h : ReadsI W u xs) (k : ReadsI W v xs) (hl : xs.length ≤ 100000) : Calls Tryz.prog 21 #[u, v] W (TellPost true W) := by
  have hc := same_any W h k (by omega) (by omega)
  rwa [decide_eq_true rfl] at hc
set_option maxHeartbeats 16000000 in
set_option maxRecDepth 100000 in
theorem money_law (w : World) (pot : Int) {v : Value} {xs : List Clm} (h : ReadsC w v xs) (hr : Reach xs) (hl : xs.length ≤ 2513169434843) : Calls Tryz.prog 4 #[.int .i64 pot, v] w (TellPost true w) := by
  have hAk := Lib.hid (fun W => awake_any W)
  have hFw := Lib.hid (fun W (ho : Only (fun _ => False) w W) => few_any W (h.quiet ho) hr (by omega))
  have hWr := Lib.hid (fun W (ho : Only (fun _ => False) w W) => refWrong_any W (h.quiet ho) hr.short (by omega))
  have hX0 := Lib.hid h
  cases hfb : fewM xs
  · rw [hfb] at hFw
    obtain ⟨A, c, rfl, _⟩ := h
    clear hfb hr hWr
    go_enter Tryz.func4, Tryz.ntmps4
    go_wp2_with (first
      | (go_at_call 10; refine (hAk.out _).mono ?_; clear hAk; rintro e w1 ⟨rfl, ho1⟩)
      | (go_at_call 11; have hc := hFw.out _ ho1; refine hc.mono ?_; clear hc hFw; rintro e w2 ⟨rfl, ho2⟩))
    go_ret
    exact ⟨rfl, ho1.trans ho2 fun _ _ => id⟩
  · rw [hfb] at hFw
    obtain ⟨n41, _⟩ := few_ok hfb
    have hall : allM xs = 0 ∨ allM xs = 1 := by
      unfold allM
      split
      · exact .inr rfl
      · rw [if_neg (by omega)]
        exact .inl rfl
    by_cases hme : moneyErr pot xs = 0
    · have hMy := Lib.hid (fun W (ho : Only (fun _ => False) w W) => money_yes W pot (h.quiet ho) hr.short (by omega) hme)
      obtain ⟨hm, p0, p1, _⟩ := money_ok hme
      have ha0 : allM xs = 0 := by
        unfold moneyErr at hme
        split at hme
        · cases hme
        · exact hme
      rw [ha0] at hWr
      have hRm := Lib.hid (fun W (ho : Only (fun _ => False) w W) => refMoney_any W pot (h.quiet ho) hm p0 p1 (by omega))
      have hlen := Lib.hid (money_length pot xs)
      unfold MoneyPost at hMy
      unfold RefMoneyPost at hRm
      generalize (moneyM pot xs).1 = p at *
      generalize (moneyM pot xs).2 = left at *
      clear hfb hr hme hm hall ha0
      obtain ⟨A, c, rfl, _⟩ := h
      go_enter Tryz.func4, Tryz.ntmps4
      go_wp2_with (first
        | (go_at_call 10; refine (hAk.out _).mono ?_; clear hAk; rintro e w1 ⟨rfl, ho1⟩)
        | (go_at_call 11; have hc := hFw.out _ ho1; refine hc.mono ?_; clear hc hFw; rintro e w1b ⟨rfl, ho2⟩; have ho1 := ho1.trans ho2 fun _ _ => id)
        | (go_at_call 18; have hc := hMy.out _ ho1; refine hc.mono ?_; clear hc hMy; rintro e w2 ⟨v2, rfl, hI0, ho3⟩; have hI := Lib.hid hI0; obtain ⟨pA, pc, rfl, _⟩ := hI0; have ho1 := ho1.trans ho3 fun _ _ => id; have hO2 := Only.refl (fun _ => False) w2)
        | (go_at_call 19; have hc := hWr.out _ ho1; refine hc.mono ?_; clear hc hWr; rintro e w3 ⟨rfl, ho4⟩; have ho1 := ho1.trans ho4 fun _ _ => id; have hO2 := hO2.trans ho4 fun _ _ => id)
        | (go_at_call 20; have hc := hRm.out _ ho1; refine hc.mono ?_; clear hc hRm; rintro e w4 ⟨v4, rfl, hJ0, ho5⟩; have hJ := Lib.hid hJ0; obtain ⟨jA, jc, rfl, _⟩ := hJ0; have ho1 := ho1.trans ho5 fun _ _ => id; have hO2 := hO2.trans ho5 fun _ _ => id)
        | (go_at_call 21; have hc := same_ints _ (hI.out.quiet hO2) hJ.out (by rw [hlen.out]; omega); refine hc.mono ?_; clear hc; rintro e w5 ⟨rfl, ho6⟩; have ho1 := ho1.trans ho6 fun _ _ => id))
      go_ret
      exact ⟨rfl, ho1⟩
    · have hMn := Lib.hid (fun W (ho : Only (fun _ => False) w W) => money_no W pot (h.quiet ho) hr.short (by omega) hme)
      have hd : moneyErr pot xs = 1 ∧ (allM xs = 1 ∨ (allM xs = 0 ∧ pot < 0) ∨ (allM xs = 0 ∧ ¬ pot < 0 ∧ 1099511627776 < pot)) := by
        unfold moneyErr at hme ⊢
        split at hme
        · rename_i h1
          rw [if_pos h1]
          refine ⟨rfl, ?_⟩
          rcases hall with h2 | h2
          · by_cases h3 : pot < 0
            · exact .inr (.inl ⟨h2, h3⟩)
            · exact .inr (.inr ⟨h2, h3, by omega⟩)
          · exact .inl h2
        · rename_i h1
          omega
      obtain ⟨hm1, hd⟩ := hd
      rw [hm1] at hMn
      clear hfb hr hme hall hm1
      obtain ⟨A, c, rfl, _⟩ := h
      rcases hd with ha | ⟨ha, hp⟩ | ⟨ha, hp, hp2⟩
      all_goals
        rw [ha] at hWr
        clear ha
        go_enter Tryz.func4, Tryz.ntmps4
        go_wp2_with (first
          | (go_at_call 10; refine (hAk.out _).mono ?_; clear hAk; rintro e w1 ⟨rfl, ho1⟩)
          | (go_at_call 11; have hc := hFw.out _ ho1; refine hc.mono ?_; clear hc hFw; rintro e w1b ⟨rfl, ho2⟩; have ho1 := ho1.trans ho2 fun _ _ => id)
          | (go_at_call 18; have hc := hMn.out _ ho1; refine hc.mono ?_; clear hc hMn; rintro e w3 ⟨rfl, ho3⟩; have ho1 := ho1.trans ho3.only fun _ _ => id)
          | (go_at_call 19; have hc := hWr.out _ ho1; refine hc.mono ?_; clear hc hWr; rintro e w3 ⟨rfl, ho4⟩; have ho1 := ho1.trans ho4 fun _ _ => id))
        go_ret
        exact ⟨rfl, ho1⟩
end Go.Proofs.YteecfjkljmmecaaGreat
