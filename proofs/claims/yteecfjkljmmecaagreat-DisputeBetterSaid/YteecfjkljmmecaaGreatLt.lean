/- WALK: the law DisputeTop. -/
import Derived.Test.YteecfjkljmmecaaGreatLs
namespace Go.Proofs.YteecfjkljmmecaaGreat
open Go.RowKit Go.Sort Go.Shelf
def bestT (xs : List Clm) (R : Int) (i : Nat) : List Clm := (xs.take i).filter fun c => decide (c.right ≤ R)
theorem bestT_all (xs : List Clm) (R : Int) : bestT xs R xs.length = bestOf xs R := by unfold bestT bestOf; rw [List.take_length]
theorem bestT_step {xs : List Clm} {R : Int} {i : Nat} {c : Clm} (h : xs[i]? = some c) : bestT xs R (i + 1) = if c.right ≤ R then bestT xs R i ++ [c] else bestT xs R i := by
  unfold bestT
  rw [List.take_add_one, h, List.filter_append]
  by_cases hc : c.right ≤ R <;> simp [hc]
theorem bestT_le (xs : List Clm) (R : Int) (i : Nat) : (bestT xs R i).length ≤ i := by
  unfold bestT
  exact Nat.le_trans (List.length_filter_le _ _) (by simp; omega)
theorem money_any {w : World} (pot : Int) {v : Value} {xs : List Clm} (h : ReadsC w v xs) (hs : Short xs) (hl : xs.length ≤ 9223372036854775807) :
    Calls Tryz.prog 18 #[.int .i64 pot, v] w fun e w' => ∃ u, ∃ a b : Int, e = .returned (.tuple #[u, .int .i64 a, .int .i64 b]) ∧ Only (fun _ => False) w w' := by
  by_cases he : moneyErr pot xs = 0
  · exact (money_yes w pot h hs hl he).mono fun e w' ⟨v', h1, _, h3⟩ => ⟨v', _, _, h1, h3⟩
  · exact (money_no w pot h hs hl he).mono fun e w' h => ⟨_, _, _, h.1, h.2.only⟩
set_option maxHeartbeats 32000000 in
set_option maxRecDepth 100000 in
theorem top_law (w : World) (pot R : Int) {v : Value} {xs : List Clm} (h : ReadsC w v xs) (hr : Reach xs) (hl : xs.length ≤ 2513169434843) : Calls Tryz.prog 9 #[.int .i64 pot, v, .int .i64 R] w (TellPost true w) := by
  have hAk := Lib.hid (fun W => awake_any W)
  have hFw := Lib.hid (fun W (ho : Only (fun _ => False) w W) => few_any W (h.quiet ho) hr (by omega))
  have hX0 := Lib.hid h
  by_cases hfb : fewM xs = true ∧ 0 ≤ R ∧ R ≤ 4
  · obtain ⟨hfb, hR0, hR4⟩ := hfb
    rw [hfb] at hFw
    obtain ⟨n41, _⟩ := few_ok hfb
    have hsb : Short (bestOf xs R) := fun x hx => hr.short x (List.mem_filter.1 hx).1
    obtain ⟨i0, hI0, hz0, hz1, hz2⟩ := info_parts info23
    have hd1 : decide (R < 0) = false := by simp; omega
    have hd2 : decide (4 < R) = false := by simp; omega
    by_cases hme : moneyErr pot xs = 0
    · obtain ⟨hm, p0, p1, hall⟩ := money_ok hme
      have hmb : moneyErr pot (bestOf xs R) = 0 := by
        unfold moneyErr
        rw [best_ok hall R, if_neg (by omega)]
      have hMy := Lib.hid (fun (W0 W : World) (u : Value) (hu : ReadsC W0 u xs) (ho : Only (fun _ => False) W0 W) => money_yes W pot (hu.quiet ho) hr.short (by omega) hme)
      have hMb := Lib.hid (fun (W0 W : World) (u : Value) (hu : ReadsC W0 u (bestOf xs R)) (hlb : (bestOf xs R).length ≤ 41) (ho : Only (fun _ => False) W0 W) => money_yes W pot (hu.quiet ho) hsb (by omega) hmb)
      have hlen := Lib.hid (money_length pot xs)
      have hlen2 := Lib.hid (money_length pot (bestOf xs R))
      have hlft := left_best hm p0 hR0 hR4
      have hprt := Lib.hid (fun i c (a : xs[i]? = some c) (b : c.right ≤ R) => part_best (pot := pot) hm a b)
      unfold MoneyPost at hMy hMb
      generalize (moneyM pot xs).1 = p at *
      generalize (moneyM pot xs).2 = left at *
      generalize (moneyM pot (bestOf xs R)).1 = p2 at *
      generalize (moneyM pot (bestOf xs R)).2 = left2 at *
      have hd3 : decide (left2 < left) = false := by simp; omega
      clear hfb hr hme hm hmb hall hsb
      obtain ⟨A, c, rfl, _⟩ := h
      go_enter Tryz.func9, Tryz.ntmps9
      go_wp2_with (first
        | (go_at_call 10; refine (hAk.out _).mono ?_; clear hAk; rintro e w1 ⟨rfl, ho1⟩)
        | (go_at_call 11; have hc := hFw.out _ ho1; refine hc.mono ?_; clear hc hFw; rintro e w2 ⟨rfl, ho2⟩))
      have ho := ho1.trans ho2 fun _ _ => id
      have hOw := Lib.hid ho
      have hX := Lib.hid (hX0.out.quiet ho)
      clear ho ho1 ho2
      go_loopg [7, 8] (xs.length) (fun g v7 v8 wr => ∃ i : Nat, v8 = .int .i64 (i : Int) ∧ i + g = xs.length ∧ Only (fun _ => False) w2 wr ∧ Hid (wr.ownsRow w2.heap.size 23 5 v7 (bestT xs R i).length ((bestT xs R i).flatMap cEnc)))
      case atStart => exact ⟨0, rfl, by omega, Only.refl _ _, Lib.hid ⟨by simp [bestT], .inl ⟨rfl, by simp [bestT]⟩⟩⟩
      case round =>
        obtain ⟨i, rfl, hg, ho, hown⟩ := hrel
        by_cases hi : i < xs.length
        · obtain ⟨c, hc⟩ : ∃ c, xs[i]? = some c := ⟨xs[i], List.getElem?_eq_getElem hi⟩
          obtain ⟨b, off, rfl⟩ := clm_some hX.out (by omega)
          obtain ⟨k0, k1, k2, k3, k4⟩ := clm_read wr hX.out ho hc
          have hst := Lib.hid (bestT_step (R := R) hc)
          have hle := bestT_le xs R i
          obtain ⟨c1, c2, c3, c4, c5⟩ := c
          simp only at k0 k1 k2 k3 k4 hst
          clear hc
          generalize bestT xs R i = bs at *
          by_cases hcr : c3 ≤ R
          · rw [if_pos hcr] at hst
            have hb : decide (c3 ≤ R) = true := by simpa using hcr
            clear hcr
            obtain ⟨tA, tc, rfl⟩ := own_sl hown.out
            have hge : w2.heap.size ≤ wr.heap.size := ho.size
            go_wp2_with (at_builtin; refine wpList_append_own_at _ rfl _ _ 24 rfl w2.heap.size 23 i0 _ 5 56 Tryz.underlying24 hI0 hz0 hz1 hz2 rfl (by decide) _ bs.length (bs.flatMap cEnc) rfl (hown.out.alloc _) ⟨wr.heap.size, 0, none⟩ 1 1 [.string c1, .string c2, .int .i64 c3, .int .i64 c4, .int .i64 c5] rfl rfl (news_at (W := wr) (cs := #[.string c1, .string c2, .int .i64 c3, .int .i64 c4, .int .i64 c5]) (t := 23)) ?_ ?_ ?_ ?_ ?_
                         · intro u hu; simp at hu; rcases hu with rfl | rfl | rfl | rfl | rfl <;> rfl
                         · unfold maxLen; omega
                         · omega
                         · simp; omega
                         intro v1 w8 hown8 hg8 _ hat8)
            go_roundg (xs.length - (i + 1))
            case measure => omega
            case rel =>
              refine ⟨i + 1, by simp, by omega, (ho.alloc _).grown hg8 fun k' hk' hlt' => by have := (hown.out.lt k' hk').1; omega, Lib.hid ?_⟩
              rw [hst.out, List.flatMap_append]
              simpa [cEnc] using hown8
          · rw [if_neg hcr] at hst
            have hb : decide (c3 ≤ R) = false := by simpa using hcr
            clear hcr
            go_wp2
            go_roundg (xs.length - (i + 1))
            case measure => omega
            case rel => exact ⟨i + 1, by simp, by omega, ho, Lib.hid (by rw [hst.out]; exact hown.out)⟩
        · have hie : i = xs.length := by omega
          subst hie
          rw [bestT_all] at hown
          have hXb := Lib.hid (ReadsC.of_own hown.out)
          have hXr := Lib.hid (hX.out.quiet ho)
          obtain ⟨tA, tc, rfl⟩ := own_sl hown.out
          have hbl : (bestOf xs R).length ≤ 41 := by have := bestT_le xs R xs.length; rw [bestT_all] at this; omega
          clear hown
          go_wp2_with (first
            | (go_at_call 18; have hc := hMy.out _ _ _ hXr.out (Only.refl _ _); refine hc.mono ?_; clear hc hMy; rintro e w3 ⟨v3, rfl, hI1, ho3⟩; have hI := Lib.hid hI1; obtain ⟨pA, pc, rfl, _⟩ := hI1; have hplen := hlen.out; rw [hplen] at hI ⊢; clear hplen)
            | (go_at_call 18; have hc := hMb.out _ _ _ hXb.out hbl ho3; refine hc.mono ?_; clear hc hMb; rintro e w4 ⟨v4, rfl, hJ1, ho4⟩; have hJ := Lib.hid hJ1; obtain ⟨qA, qc, rfl, _⟩ := hJ1; have hplen := hlen2.out; rw [hplen] at hJ ⊢; clear hplen))
          have hX4 := Lib.hid ((hXr.out.quiet ho3).quiet ho4)
          have hI4 := Lib.hid (hI.out.quiet ho4)
          have hO4 := Lib.hid (((hOw.out.trans ho fun _ _ => id).trans ho3 fun _ _ => id).trans ho4 fun _ _ => id)
          clear hXr hI ho ho3 ho4
          go_loopg [15, 16] (xs.length) (fun g v15 v16 wr => ∃ i : Nat, v16 = .int .i64 (i : Int) ∧ v15 = .int .i64 ((bestT xs R i).length : Int) ∧ i + g = xs.length ∧ Only (fun _ => False) w4 wr)
          case atStart => exact ⟨0, rfl, by simp [bestT], by omega, Only.refl _ _⟩
          case round =>
            obtain ⟨i, rfl, rfl, hg, ho⟩ := hrel
            by_cases hi : i < xs.length
            · obtain ⟨c, hc⟩ : ∃ c, xs[i]? = some c := ⟨xs[i], List.getElem?_eq_getElem hi⟩
              obtain ⟨x, hx⟩ : ∃ x, p[i]? = some x := ⟨p[i]'(by rw [hlen.out]; exact hi), List.getElem?_eq_getElem _⟩
              obtain ⟨b, off, rfl⟩ := clm_some hX4.out (by omega)
              obtain ⟨b', off', rfl⟩ := int_some hI4.out (show i < p.length by rw [hlen.out]; exact hi)
              obtain ⟨k0, k1, k2, k3, k4⟩ := clm_read wr hX4.out ho hc
              have j0 := int_read wr hI4.out ho hx
              have hst := Lib.hid (bestT_step (R := R) hc)
              have hpr := Lib.hid (fun hcr => (hprt.out i c hc hcr).trans hx)
              have hle := bestT_le xs R i
              by_cases hcr : c.right ≤ R
              · have hq := hpr.out hcr
                have hqe : p2[(bestT xs R i).length]? = some x := hq
                obtain ⟨b2, off2, rfl⟩ := int_some hJ.out (List.getElem?_eq_some_iff.1 hqe).1
                have j1 := int_read wr hJ.out ho hqe
                have hkl : (bestT xs R i).length < (bestOf xs R).length := by rw [← hlen2.out]; exact (List.getElem?_eq_some_iff.1 hqe).1
                have hst' := hst.out
                rw [if_pos hcr] at hst'
                have hST : Hid ((bestT xs R (i + 1)).length = (bestT xs R i).length + 1) := Lib.hid (by rw [hst', List.length_append]; rfl)
                have hb : decide (c.right ≤ R) = true := by simpa using hcr
                clear hst hst' hpr hq hqe hx hc hcr
                obtain ⟨c1, c2, c3, c4, c5⟩ := c
                simp only at k0 k1 k2 k3 k4 hb
                generalize (bestT xs R i).length = ll at *
                go_wp2
                go_quiet (fail)
                go_wp2
                go_roundg (xs.length - (i + 1))
                case measure => omega
                case rel => exact ⟨i + 1, by simp, by rw [hST.out]; simp, by omega, ho.drewN _⟩
              · have hst' := hst.out
                rw [if_neg hcr] at hst'
                have hST := Lib.hid (congrArg List.length hst')
                have hb : decide (c.right ≤ R) = false := by simpa using hcr
                clear hst hst' hpr hx hc hcr
                obtain ⟨c1, c2, c3, c4, c5⟩ := c
                simp only at k0 k1 k2 k3 k4 hb
                generalize (bestT xs R i).length = ll at *
                go_wp2
                go_roundg (xs.length - (i + 1))
                case measure => omega
                case rel => exact ⟨i + 1, by simp, by rw [hST.out], by omega, ho⟩
            · go_wp2
              go_ret
              exact ⟨rfl, hO4.out.trans ho fun _ _ => id⟩
    · have hMn := Lib.hid (fun (W : World) (u : Value) (hu : ReadsC W u xs) => money_no W pot hu hr.short (by omega) hme)
      have hMb := Lib.hid (fun (W0 W : World) (u : Value) (hu : ReadsC W0 u (bestOf xs R)) (hlb : (bestOf xs R).length ≤ 41) (ho : Only (fun _ => False) W0 W) => money_any (w := W) pot (hu.quiet ho) hsb (by omega))
      have hne : (moneyErr pot xs != 0) = true := by simpa using hme
      clear hfb hr hme hsb
      generalize moneyErr pot xs = er at *
      obtain ⟨A, c, rfl, _⟩ := h
      go_enter Tryz.func9, Tryz.ntmps9
      go_wp2_with (first
        | (go_at_call 10; refine (hAk.out _).mono ?_; clear hAk; rintro e w1 ⟨rfl, ho1⟩)
        | (go_at_call 11; have hc := hFw.out _ ho1; refine hc.mono ?_; clear hc hFw; rintro e w2 ⟨rfl, ho2⟩))
      have ho := ho1.trans ho2 fun _ _ => id
      have hOw := Lib.hid ho
      have hX := Lib.hid (hX0.out.quiet ho)
      clear ho ho1 ho2
      go_loopg [7, 8] (xs.length) (fun g v7 v8 wr => ∃ i : Nat, v8 = .int .i64 (i : Int) ∧ i + g = xs.length ∧ Only (fun _ => False) w2 wr ∧ Hid (wr.ownsRow w2.heap.size 23 5 v7 (bestT xs R i).length ((bestT xs R i).flatMap cEnc)))
      case atStart => exact ⟨0, rfl, by omega, Only.refl _ _, Lib.hid ⟨by simp [bestT], .inl ⟨rfl, by simp [bestT]⟩⟩⟩
      case round =>
        obtain ⟨i, rfl, hg, ho, hown⟩ := hrel
        by_cases hi : i < xs.length
        · obtain ⟨c, hc⟩ : ∃ c, xs[i]? = some c := ⟨xs[i], List.getElem?_eq_getElem hi⟩
          obtain ⟨b, off, rfl⟩ := clm_some hX.out (by omega)
          obtain ⟨k0, k1, k2, k3, k4⟩ := clm_read wr hX.out ho hc
          have hst := Lib.hid (bestT_step (R := R) hc)
          have hle := bestT_le xs R i
          obtain ⟨c1, c2, c3, c4, c5⟩ := c
          simp only at k0 k1 k2 k3 k4 hst
          clear hc
          generalize bestT xs R i = bs at *
          by_cases hcr : c3 ≤ R
          · rw [if_pos hcr] at hst
            have hb : decide (c3 ≤ R) = true := by simpa using hcr
            clear hcr
            obtain ⟨tA, tc, rfl⟩ := own_sl hown.out
            have hge : w2.heap.size ≤ wr.heap.size := ho.size
            go_wp2_with (at_builtin; refine wpList_append_own_at _ rfl _ _ 24 rfl w2.heap.size 23 i0 _ 5 56 Tryz.underlying24 hI0 hz0 hz1 hz2 rfl (by decide) _ bs.length (bs.flatMap cEnc) rfl (hown.out.alloc _) ⟨wr.heap.size, 0, none⟩ 1 1 [.string c1, .string c2, .int .i64 c3, .int .i64 c4, .int .i64 c5] rfl rfl (news_at (W := wr) (cs := #[.string c1, .string c2, .int .i64 c3, .int .i64 c4, .int .i64 c5]) (t := 23)) ?_ ?_ ?_ ?_ ?_
                         · intro u hu; simp at hu; rcases hu with rfl | rfl | rfl | rfl | rfl <;> rfl
                         · unfold maxLen; omega
                         · omega
                         · simp; omega
                         intro v1 w8 hown8 hg8 _ hat8)
            go_roundg (xs.length - (i + 1))
            case measure => omega
            case rel =>
              refine ⟨i + 1, by simp, by omega, (ho.alloc _).grown hg8 fun k' hk' hlt' => by have := (hown.out.lt k' hk').1; omega, Lib.hid ?_⟩
              rw [hst.out, List.flatMap_append]
              simpa [cEnc] using hown8
          · rw [if_neg hcr] at hst
            have hb : decide (c3 ≤ R) = false := by simpa using hcr
            clear hcr
            go_wp2
            go_roundg (xs.length - (i + 1))
            case measure => omega
            case rel => exact ⟨i + 1, by simp, by omega, ho, Lib.hid (by rw [hst.out]; exact hown.out)⟩
        · have hie : i = xs.length := by omega
          subst hie
          rw [bestT_all] at hown
          have hXb := Lib.hid (ReadsC.of_own hown.out)
          have hXr := Lib.hid (hX.out.quiet ho)
          obtain ⟨tA, tc, rfl⟩ := own_sl hown.out
          have hbl : (bestOf xs R).length ≤ 41 := by have := bestT_le xs R xs.length; rw [bestT_all] at this; omega
          clear hown
          go_wp2_with (first
            | (go_at_call 18; have hc := hMn.out _ _ hXr.out; refine hc.mono ?_; clear hc hMn; rintro e w3 ⟨rfl, ho3⟩)
            | (go_at_call 18; have hc := hMb.out _ _ _ hXb.out hbl ho3.only; refine hc.mono ?_; clear hc hMb; rintro e w4 ⟨u4, ea, eb, rfl, ho4⟩))
          go_ret
          exact ⟨rfl, ((hOw.out.trans ho fun _ _ => id).trans ho3.only fun _ _ => id).trans ho4 fun _ _ => id⟩
  · have hcase : (fewM xs = false) ∨ (fewM xs = true ∧ R < 0) ∨ (fewM xs = true ∧ ¬ R < 0 ∧ 4 < R) := by
      cases hf : fewM xs
      · exact .inl rfl
      · rw [hf] at hfb
        by_cases hR : R < 0
        · exact .inr (.inl ⟨rfl, hR⟩)
        · by_cases hR4 : 4 < R
          · exact .inr (.inr ⟨rfl, hR, hR4⟩)
          · exact absurd ⟨rfl, by omega, by omega⟩ hfb
    obtain ⟨A, c, rfl, _⟩ := h
    clear hfb hr
    rcases hcase with hf | ⟨hf, hR⟩ | ⟨hf, hR, hR4⟩
    all_goals
      rw [hf] at hFw
      clear hf
      go_enter Tryz.func9, Tryz.ntmps9
      go_wp2_with (first
        | (go_at_call 10; refine (hAk.out _).mono ?_; clear hAk; rintro e w1 ⟨rfl, ho1⟩)
        | (go_at_call 11; have hc := hFw.out _ ho1; refine hc.mono ?_; clear hc hFw; rintro e w2 ⟨rfl, ho2⟩))
      go_ret
      exact ⟨rfl, ho1.trans ho2 fun _ _ => id⟩
end Go.Proofs.YteecfjkljmmecaaGreat
