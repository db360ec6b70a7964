/- WALK: the law DisputeBetter. -/
import Derived.Test.YteecfjkljmmecaaGreatRg
namespace Go.Proofs.YteecfjkljmmecaaGreat
open Go.RowKit Go.Sort Go.Shelf
theorem same_rank (W : World) {u v : Value} {xs : List Clm} (h : ReadsC W u xs) (k : ReadsC W v xs) (hl : xs.length ≤ 100000) : Calls Tryz.prog 15 #[u, v] W (TellPost true W) := by
  have hc := sameC_any W h k (by omega) (by omega)
  have e : @decide (xs = xs) (Classical.propDecidable _) = true := by rw [@decide_eq_true_iff _ (Classical.propDecidable _)]
  rw [e] at hc
  exact hc
set_option maxHeartbeats 16000000 in
set_option maxRecDepth 100000 in
theorem better_law (w : World) (a b : Clm) {v : Value} {xs : List Clm} (h : ReadsC w v xs) (hsp : ∀ A n c, v = .slice A n c → ∀ a, A = some a → a.spot = none) (hr : Reach xs) (hab : Reach [a, b]) (hl : xs.length ≤ 2513169434843) : Calls Tryz.prog 3 #[cVal a, cVal b, v] w (TellPost true w) := by
  have hAk := Lib.hid (fun W => awake_any W)
  have hX0 := Lib.hid h
  have hF1 := Lib.hid (fun W (hW : Only (fun _ => False) w W) => few_any W (h.quiet hW) hr (by omega))
  have hF2 := Lib.hid (fun W => few_any _ (reads_alloc W [a, b] 2) hab (by simp))
  have hRf := Lib.hid (fun W => refBetter_any a b W)
  have hBt := Lib.hid (fun W => (better_any a b W).mono (R' := fun e w' => e = .returned (.int .i64 (-cmpM a b)) ∧ Only (fun _ => False) W w') fun e w' h => ⟨h.1, h.2.only⟩)
  have hWy := Lib.hid (fun W => (why_any a b W).mono (R' := fun e w' => e = .returned (.string (firstM a b).1) ∧ Only (fun _ => False) W w') fun e w' h => ⟨h.1, h.2.only⟩)
  unfold RefPost at hRf
  generalize -cmpM a b = n at *
  generalize (firstM a b).1 = tx at *
  have hFO := Lib.hid (fun h : fewM xs = true => (few_ok h).1)
  generalize hf1 : fewM xs = f1 at *
  generalize fewM [a, b] = f2 at *
  have hBx := Lib.hid (boxes2 w a b)
  obtain ⟨a1, a2, a3, a4, a5⟩ := a
  obtain ⟨b1, b2, b3, b4, b5⟩ := b
  simp only [cVal] at *
  clear hab
  obtain ⟨A, c, rfl, _⟩ := h
  have hb : Only (fun _ => False) w ((w.alloc (.cells #[.string a1, .string a2, .int .i64 a3, .int .i64 a4, .int .i64 a5] 23)).alloc (.cells #[.string b1, .string b2, .int .i64 b3, .int .i64 b4, .int .i64 b5] 23)) := ((Only.refl _ _).alloc _).alloc _
  have hB := Lib.hid hb
  clear hb
  by_cases hff : f1 = true ∧ f2 = true
  · obtain ⟨rfl, rfl⟩ := hff
    have n41 := hFO.out rfl
    have hRk := Lib.hid (fun (W : World) (hW : Only (fun _ => False) w W) => rank_any (w := W) (hX0.out.quiet hW) (.inr hsp) (by omega))
    have hRr := Lib.hid (fun (W : World) (hW : Only (fun _ => False) w W) => refRank_any W (hX0.out.quiet hW) (by omega))
    have hql := refRank_eq xs
    unfold RankPost at hRk
    unfold RefRankPost at hRr
    rw [hql] at hRr
    have hrl : (rankM xs).length = xs.length := rankM_length xs
    have hRL := Lib.hid hrl
    generalize rankM xs = rs at *
    clear hql hrl hf1 hsp hr
    go_enter Tryz.func3, Tryz.ntmps3
    go_wp2_with (first
      | (go_at_call 10; refine (hAk.out _).mono ?_; clear hAk; rintro e w1 ⟨rfl, ho1⟩; obtain ⟨x1, x2⟩ := hBx.out; obtain ⟨f0, f1, f2, f3, f4⟩ := box_reads fun j u hj => ho1.cellF (x1 j u hj); obtain ⟨g0, g1, g2, g3, g4⟩ := box_reads fun j u hj => ho1.cellF (x2 j u hj); clear x1 x2; have hO := Only.refl (fun _ => False) w1; have hI := Lib.hid (hB.out.trans ho1 fun _ _ => id); simp only at f0 f1 f2 f3 f4 g0 g1 g2 g3 g4)
      | (go_at_call 11; have hc := hF1.out _ hI.out; refine hc.mono ?_; clear hc hF1; rintro e w2 ⟨rfl, ho2⟩; have hO := hO.trans ho2 fun _ _ => id)
      | (go_at_call 11; refine (hF2.out _).mono ?_; clear hF2; rintro e w3 ⟨rfl, ho3⟩; have hO := (hO.alloc _).trans ho3 fun _ _ => id)
      | (go_at_call 12; refine (hRf.out _).mono ?_; clear hRf; rintro e w4 ⟨rfl, ho4⟩; have hO := hO.trans ho4 fun _ _ => id)
      | (go_at_call 13; refine (hBt.out _).mono ?_; clear hBt; rintro e w5 ⟨rfl, ho5⟩; have hO := hO.trans ho5 fun _ _ => id)
      | (go_at_call 14; refine (hWy.out _).mono ?_; clear hWy; rintro e w6 ⟨rfl, ho6⟩; have hO := hO.trans ho6 fun _ _ => id)
      | (go_at_call 16; have hc := hRk.out _ (hI.out.trans hO fun _ _ => id); refine hc.mono ?_; clear hc hRk; rintro e w7 ⟨v7, rfl, hrow7, ho7⟩; have hR7 := Lib.hid (ReadsC.of_own (xs := rs) (by rw [hRL.out]; exact hrow7)); have hO := hO.trans ho7 fun _ _ => id; clear hrow7)
      | (go_at_call 17; have hc := hRr.out _ (hI.out.trans hO fun _ _ => id); refine hc.mono ?_; clear hc hRr; rintro e w8 ⟨v8, rfl, hrow8, ho8⟩; have hR8 := Lib.hid (ReadsC.of_own (xs := rs) (by rw [hRL.out]; exact hrow8)); have hO := hO.trans ho8 fun _ _ => id; clear hrow8)
      | (go_at_call 15; have hc := same_rank _ (hR7.out.quiet ho8) hR8.out (by rw [hRL.out]; omega); refine hc.mono ?_; clear hc; rintro e w9 ⟨rfl, ho9⟩; have hO := hO.trans ho9 fun _ _ => id))
    go_ret
    exact ⟨rfl, hI.out.trans hO fun _ _ => id⟩
  · have hcase : f1 = false ∨ (f1 = true ∧ f2 = false) := by
      cases f1
      · exact .inl rfl
      · cases f2
        · exact .inr ⟨rfl, rfl⟩
        · exact absurd ⟨rfl, rfl⟩ hff
    clear hff hf1 hFO hsp hr
    rcases hcase with rfl | ⟨rfl, rfl⟩
    all_goals
      go_enter Tryz.func3, Tryz.ntmps3
      go_wp2_with (first
        | (go_at_call 10; refine (hAk.out _).mono ?_; clear hAk; rintro e w1 ⟨rfl, ho1⟩; obtain ⟨x1, x2⟩ := hBx.out; obtain ⟨f0, f1, f2, f3, f4⟩ := box_reads fun j u hj => ho1.cellF (x1 j u hj); obtain ⟨g0, g1, g2, g3, g4⟩ := box_reads fun j u hj => ho1.cellF (x2 j u hj); clear x1 x2; have hO := Only.refl (fun _ => False) w1; have hI := Lib.hid (hB.out.trans ho1 fun _ _ => id); simp only at f0 f1 f2 f3 f4 g0 g1 g2 g3 g4)
        | (go_at_call 11; have hc := hF1.out _ hI.out; refine hc.mono ?_; clear hc hF1; rintro e w2 ⟨rfl, ho2⟩; have hO := hO.trans ho2 fun _ _ => id)
        | (go_at_call 11; refine (hF2.out _).mono ?_; clear hF2; rintro e w3 ⟨rfl, ho3⟩; have hO := (hO.alloc _).trans ho3 fun _ _ => id))
      go_ret
      exact ⟨rfl, hI.out.trans hO fun _ _ => id⟩
end Go.Proofs.YteecfjkljmmecaaGreat
