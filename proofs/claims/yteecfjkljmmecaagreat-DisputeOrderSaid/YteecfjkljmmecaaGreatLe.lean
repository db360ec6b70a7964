/- WALK: the law DisputeOrder. -/
import Derived.Test.YteecfjkljmmecaaGreatAp
namespace Go.Proofs.YteecfjkljmmecaaGreat
open Go.RowKit Go.Sort Go.Shelf
attribute [local go_sem high] eqAwd' slice_from
theorem own_none24 (w : World) : (w.alloc (.cells #[] 23)).ownsRow w.heap.size 23 5 (.slice (some ⟨w.heap.size, 0, none⟩) 0 0) (([] : List Clm).length) (([] : List Clm).flatMap cEnc) :=
  ⟨rfl, .inr ⟨w.heap.size, 0, #[], rfl, Nat.le_refl _, heap_alloc_new _ _, Nat.le_refl _, Nat.zero_le _, rfl, rfl⟩⟩
set_option maxHeartbeats 32000000 in
set_option maxRecDepth 100000 in
theorem order_law (w : World) (turn : Int) (t : ByteArray) {v : Value} {xs : List Clm} (h : ReadsC w v xs) (hsp : ∀ A n c, v = .slice A n c → ∀ a, A = some a → a.spot = none) (hcp : ∀ A n c, v = .slice A n c → n ≤ c) (hr : Reach xs) (hl : xs.length ≤ 2513169434843) : Calls Tryz.prog 7 #[v, .int .i64 turn, .string t] w (TellPost true w) := by
  have hAk := Lib.hid (fun W => awake_any W)
  have hFw := Lib.hid (fun W (ho : Only (fun _ => False) w W) => few_any W (h.quiet ho) hr (by omega))
  have hX0 := Lib.hid h
  by_cases hfb : fewM xs = true ∧ 0 ≤ turn ∧ turn ≤ xs.length ∧ xs.length ≤ 20
  · obtain ⟨hfb, hR0, hR1, h20⟩ := hfb
    rw [hfb] at hFw
    obtain ⟨_, hsz⟩ := few_ok hfb
    obtain ⟨k, rfl⟩ := Int.eq_ofNat_of_zero_le hR0
    have hkl : k ≤ xs.length := by omega
    have hth : ∀ x ∈ xs, x.thing.size ≤ 1000000 := fun x hx => by have := hsz x hx; omega
    have hmm : ∀ c, c ∈ xs ↔ c ∈ turnM xs k := fun c => turnM_mem
    have htl : (turnM xs k).length ≤ 40 := by unfold turnM; simp; omega
    have hom : ∀ c, c ∈ onlyT xs t xs.length ↔ c ∈ xs ∧ c.thing = t := fun c => onlyT_mem
    have hall := allM_same hmm (by omega) (by omega)
    have sM : Short (turnM xs k) := fun x hx => hr.short x ((hmm x).2 hx)
    have sO : Short (onlyT xs t xs.length) := fun x hx => hr.short x ((hom x).1 hx).1
    have tM : ∀ x ∈ turnM xs k, x.thing.size ≤ 1000000 := fun x hx => hth x ((hmm x).2 hx)
    have tO : ∀ x ∈ onlyT xs t xs.length, x.thing.size ≤ 1000000 := fun x hx => hth x ((hom x).1 hx).1
    have lO := onlyT_le xs t xs.length
    obtain ⟨i0, hI0, hz0, hz1, hz2⟩ := info_parts info23
    have hd1 : decide ((k : Int) < 0) = false := by simp
    have hd2 : decide (xs.length < k) = false := by simp; omega
    have hd3 : decide (20 < (xs.length : Int)) = false := by simp; omega
    have hd4 : decide (20 < xs.length) = false := by simp; omega
    by_cases hme : allM xs = 0
    · have hA1 := Lib.hid (fun (W : World) (u : Value) (hu : ReadsC W u xs) (hs : ∀ A n c, u = .slice A n c → ∀ a, A = some a → a.spot = none) => award_yes W hu (.inr hs) hr.short (by omega) hme hth)
      have hA2 := Lib.hid (fun (W0 W : World) (u : Value) (hu : ReadsC W0 u (turnM xs k)) (hs : ∀ A n c, u = .slice A n c → ∀ a, A = some a → a.spot = none) (ho : Only (fun _ => False) W0 W) => award_yes W (hu.quiet ho) (.inr hs) sM (by omega) (hall.trans hme) tM)
      have hA3 := Lib.hid (fun (W0 W : World) (u : Value) (hu : ReadsC W0 u (onlyT xs t xs.length)) (hs : ∀ A n c, u = .slice A n c → ∀ a, A = some a → a.spot = none) (ho : Only (fun _ => False) W0 W) => award_yes W (hu.quiet ho) (.inr hs) sO (by omega) (allM_sub (fun c hc => ((hom c).1 hc).1) hme (by omega)) tO)
      have hMM := Lib.hid hmm
      have hOM := Lib.hid hom
      have hSP := Lib.hid hsp
      unfold AwardPost at hA1 hA2 hA3
      clear hfb hr hme hsz hsp hth hall sM sO tM tO hmm hom
      obtain ⟨A, c, rfl, _⟩ := h
      have hcap := hcp _ _ _ rfl
      have hkc : (k : Int) ≤ (c : Int) := by omega
      clear hcp
      go_enter Tryz.func7, Tryz.ntmps7
      go_wp2_with (first
        | (go_at_call 10; refine (hAk.out _).mono ?_; clear hAk; rintro e w1 ⟨rfl, ho1⟩)
        | (go_at_call 11; have hc := hFw.out _ ho1; refine hc.mono ?_; clear hc hFw; rintro e w2 ⟨rfl, ho2⟩))
      have ho := ho1.trans ho2 fun _ _ => id
      have hOw := Lib.hid ho
      have hX := Lib.hid (hX0.out.quiet ho)
      clear ho ho1 ho2
      have hXd := Lib.hid (ReadsC.drop hX.out hcap hkl)
      have hXt := Lib.hid (ReadsC.take (c' := c) hX.out hkl)
      have hO := Only.refl (fun _ => False) w2.drew
      have hOD := Lib.hid (hOw.out.drew)
      have hXe := Lib.hid (hX.out.quiet (Only.refl _ _).drew)
      have hXf := Lib.hid (hXd.out.quiet (Only.refl _ _).drew)
      have hXg := Lib.hid (hXt.out.quiet (Only.refl _ _).drew)
      refine wp_region_ord (.read 1 (.read 2 (.read 3 (.read 5 (.read 6 (.read 7 (.read 9 (.turn 0 (.turn 4 (.turn 8 (.turn 10 (.read 11 .stop)))))))))))) (Only (fun _ => False) w2.drew) (by kernel_rfl) (by kernel_rfl) (by kernel_rfl) (by first | exact Only.refl _ _ | assumption) ?_
      refine wpOrd_reads (v := ?_) rfl rfl (fun _ _ _ h => h) ?_ ?_
      rotate_left
      · intro W hW; go_simp; try with_reducible rfl
      go_frame
      refine wpOrd_reads (v := ?_) rfl rfl (fun _ _ _ h => h) ?_ ?_
      rotate_left
      · intro W hW; go_simp; try with_reducible rfl
      go_frame
      refine wpOrd_reads (v := ?_) rfl rfl (fun _ _ _ h => h) ?_ ?_
      rotate_left
      · intro W hW; go_simp; try with_reducible rfl
      go_frame
      refine wpOrd_reads (v := ?_) rfl rfl (fun _ _ _ h => h) ?_ ?_
      rotate_left
      · intro W hW; go_simp; try with_reducible rfl
      go_frame
      refine wpOrd_reads (v := ?_) rfl rfl (fun _ _ _ h => h) ?_ ?_
      rotate_left
      · intro W hW; go_simp; try with_reducible rfl
      go_frame
      refine wpOrd_reads (v := ?_) rfl rfl (fun _ _ _ h => h) ?_ ?_
      rotate_left
      · intro W hW; go_simp; try with_reducible rfl
      go_frame
      refine wpOrd_reads (v := ?_) rfl rfl (fun _ _ _ h => h) ?_ ?_
      rotate_left
      · intro W hW; go_simp; try with_reducible rfl
      go_frame
      refine wpOrd_turns rfl ?_
      go_wp2
      have hR0 := Lib.hid (own_none24 w2.drew)
      have hO := hO.alloc (.cells #[] 23)
      refine ⟨hO, ?_⟩
      refine wpOrd_turns rfl ?_
      refine wpList_append_clms rfl _ _ rfl (ps := []) (ys := xs.drop k) rfl hR0.out rfl (hXf.out.quiet hO) (by simp; omega) (by simp) ?_
      intro v3 w3 hR1 hg3 hb3
      have hO := hO.grown hg3 (fun i hi hlt => by have := (hR0.out.lt i hi).1; omega)
      refine wpList_nil ⟨hO, ?_⟩
      refine wpOrd_turns rfl ?_
      refine wpList_append_clms rfl _ _ rfl (ps := [] ++ xs.drop k) (ys := xs.take k) rfl hR1 rfl (hXg.out.quiet hO) (by simp; omega) hO.size ?_
      intro v4 w4 hR2 hg4 hb4
      have hO := hO.grown hg4 (fun i hi hlt => by have := (hR1.lt i hi).1; omega)
      refine wpList_nil ⟨hO, ?_⟩
      refine wpOrd_turns rfl ?_
      refine wpList_append_clms rfl _ _ rfl (ps := [] ++ xs.drop k ++ xs.take k) (ys := xs) rfl hR2 rfl (hXe.out.quiet hO) (by simp; omega) hO.size ?_
      intro v5 w5 hR3 hg5 hb5
      have hO := hO.grown hg5 (fun i hi hlt => by have := (hR2.lt i hi).1; omega)
      refine wpList_nil ⟨hO, ?_⟩
      refine wpOrd_reads (v := ?_) rfl rfl (fun _ _ _ h => h) ?_ ?_
      rotate_left
      · intro W hW; go_simp; try with_reducible rfl
      go_frame
      refine wpOrd_nil ?_
      have hT := Lib.hid (show w5.ownsRow w2.drew.heap.size 23 5 v5 (turnM xs k).length ((turnM xs k).flatMap cEnc) from hR3)
      have hX5 := Lib.hid (hXe.out.quiet hO)
      have hO5 := Lib.hid (hOD.out.trans hO fun _ _ => id)
      have hT5 := Lib.hid (ReadsC.of_own hT.out)
      have hTs := Lib.hid (own_spot hT.out)
      obtain ⟨mA, mc, rfl⟩ := own_sl hT.out
      clear hR1 hR2 hR3 hX hXd hXt hXe hXf hXg hOD hO hT
      clear hg3 hb3 hg4 hb4 hg5 hb5
      go_wp2
      go_loopg [8, 9] (xs.length) (fun g v8 v9 wr => ∃ i : Nat, v9 = .int .i64 (i : Int) ∧ i + g = xs.length ∧ Only (fun _ => False) w5 wr ∧ Hid (wr.ownsRow w5.heap.size 23 5 v8 (onlyT xs t i).length ((onlyT xs t i).flatMap cEnc)))
      case atStart => exact ⟨0, rfl, by omega, Only.refl _ _, Lib.hid ⟨by simp [onlyT], .inl ⟨rfl, by simp [onlyT]⟩⟩⟩
      case round =>
        obtain ⟨i, rfl, hg, ho, hown⟩ := hrel
        by_cases hi : i < xs.length
        · obtain ⟨x, hc⟩ : ∃ c, xs[i]? = some c := ⟨xs[i], List.getElem?_eq_getElem hi⟩
          obtain ⟨b, off, rfl⟩ := clm_some hX5.out (by omega)
          obtain ⟨k0, k1, k2, k3, k4⟩ := clm_read wr hX5.out ho hc
          have hst := Lib.hid (onlyT_step (t := t) hc)
          have hle := onlyT_le xs t i
          obtain ⟨c1, c2, c3, c4, c5⟩ := x
          simp only at k0 k1 k2 k3 k4 hst
          clear hc
          generalize onlyT xs t i = bs at *
          by_cases hcr : c2 = t
          · rw [if_pos hcr] at hst
            have hb := same_text hcr
            clear hcr
            obtain ⟨tA, tc, rfl⟩ := own_sl hown.out
            have hge : w5.heap.size ≤ wr.heap.size := ho.size
            go_wp2_with (at_builtin; refine wpList_append_own_at _ rfl _ _ 24 rfl w5.heap.size 23 i0 _ 5 56 Tryz.underlying24 hI0 hz0 hz1 hz2 rfl (by decide) _ bs.length (bs.flatMap cEnc) rfl (hown.out.alloc _) ⟨wr.heap.size, 0, none⟩ 1 1 [.string c1, .string c2, .int .i64 c3, .int .i64 c4, .int .i64 c5] rfl rfl (news_at (W := wr) (cs := #[.string c1, .string c2, .int .i64 c3, .int .i64 c4, .int .i64 c5]) (t := 23)) ?_ ?_ ?_ ?_ ?_
                         · intro u hu; simp at hu; rcases hu with rfl | rfl | rfl | rfl | rfl <;> rfl
                         · unfold maxLen; omega
                         · omega
                         · simp; omega
                         intro v1 w8 hown8 hg8 _ hat8)
            go_roundg (xs.length - (i + 1))
            case measure => omega
            case rel =>
              refine ⟨i + 1, by simp, by omega, (ho.alloc _).grown hg8 fun k' hk' hlt' => by have := (hown.out.lt k' hk').1; omega, Lib.hid ?_⟩
              rw [hst.out, List.flatMap_append]
              simpa [cEnc] using hown8
          · rw [if_neg hcr] at hst
            have hb := other_text hcr
            clear hcr
            go_wp2
            go_roundg (xs.length - (i + 1))
            case measure => omega
            case rel => exact ⟨i + 1, by simp, by omega, ho, Lib.hid (by rw [hst.out]; exact hown.out)⟩
        · have hie : i = xs.length := by omega
          subst hie
          have hXb := Lib.hid (ReadsC.of_own hown.out)
          have hXs := Lib.hid (own_spot hown.out)
          have hbl := onlyT_le xs t xs.length
          obtain ⟨tA, tc, rfl⟩ := own_sl hown.out
          have hXr := Lib.hid (hX5.out.quiet ho)
          have hTr := Lib.hid (hT5.out.quiet ho)
          have hOr := Lib.hid (hO5.out.trans ho fun _ _ => id)
          clear hown hX5 hT5 hO5 ho
          go_wp2_with (first
            | (go_at_call 22; have hc := hA1.out _ _ hXr.out hSP.out; refine hc.mono ?_; clear hc hA1; rintro e w6 ⟨v6, ga, rfl, hga, hrow6, ho6⟩; have hG := Lib.hid hga; have hB1 := Lib.hid (ReadsA.of_own hrow6); have hgl := own_len hrow6; obtain ⟨aA, ac, rfl⟩ := own_sl hrow6; clear hrow6 hga)
            | (go_at_call 22; have hc := hA2.out _ _ _ hTr.out hTs.out ho6; refine hc.mono ?_; clear hc hA2; rintro e w7 ⟨v7, gb, rfl, hgb, hrow7, ho7⟩; have hgab := hgb.unique hG.out (fun c => (hMM.out c).symm); subst hgab; have hB2 := Lib.hid (ReadsA.of_own hrow7); obtain ⟨bA, bc, rfl⟩ := own_sl hrow7; have ho67 := ho6.trans ho7 fun _ _ => id; clear hrow7 hgb)
            | (go_at_call 22; have hc := hA3.out _ _ _ hXb.out hXs.out ho67; refine hc.mono ?_; clear hc hA3; rintro e w8 ⟨v8, gc, rfl, hgc, hrow8, ho8⟩; have hal := hG.out.alone hgc hOM.out; have hAL := Lib.hid hal; have hB3 := Lib.hid (ReadsA.of_own hrow8); have hgl3 := hal.1; obtain ⟨cA, cc, rfl⟩ := own_sl hrow8; clear hrow8 hgc hal)
            | (go_at_call 23; have hc := awards_any _ ((hB1.out.quiet ho7).quiet ho8) (hB2.out.quiet ho8) hgl hgl; rw [show decide (gb = gb) = true by simp] at hc; refine hc.mono ?_; clear hc; rintro e w9 ⟨rfl, ho9⟩))
          have hB19 := Lib.hid (((hB1.out.quiet ho7).quiet ho8).quiet ho9)
          have hB39 := Lib.hid (hB3.out.quiet ho9)
          have hO9 := Lib.hid (((hOr.out.trans ho67 fun _ _ => id).trans ho8 fun _ _ => id).trans ho9 fun _ _ => id)
          clear hB1 hB2 hB3 hXr hTr hOr hXb hXs hTs ho6 ho7 ho8 ho67 ho9
          go_loopg [16] (gb.length) (fun g v16 wr => ∃ i : Nat, v16 = .int .i64 (i : Int) ∧ i + g = gb.length ∧ Only (fun _ => False) w9 wr)
          case atStart => exact ⟨0, rfl, by omega, Only.refl _ _⟩
          case round =>
            clear hi hg
            obtain ⟨i, rfl, hg, ho⟩ := hrel
            by_cases hi : i < gb.length
            · obtain ⟨⟨pt, pn⟩, hp⟩ : ∃ p, gb[i]? = some p := ⟨gb[i], List.getElem?_eq_getElem hi⟩
              obtain ⟨ba, oa, rfl⟩ := award_some hB19.out hi
              obtain ⟨q0, q1⟩ := award_read wr hB19.out ho hp
              simp only at q0 q1
              by_cases he : pt = t
              · have hgc : gc = [(pt, pn)] := hAL.out.2 _ (List.mem_of_getElem? hp) he
                have hgc0 : gc[0]? = some (pt, pn) := by rw [hgc]; rfl
                have hL0 : 0 < gc.length := by rw [hgc]; simp
                have hL1 : ((gc.length : Int) != 1) = false := by rw [hgc]; simp
                obtain ⟨bc', oc, rfl⟩ := award_some hB39.out hL0
                obtain ⟨r0, r1⟩ := award_read wr hB39.out ho hgc0
                simp only [Nat.zero_mul, Nat.add_zero] at r0 r1
                have z1 := same_text he
                have z2 : eqA (pt, pn) (pt, pn) = true := eqA_iff.2 rfl
                clear he hgc hgc0 hp
                go_wp2
                go_quiet (fail)
                go_wp2
                go_roundg (gb.length - (i + 1))
                case measure => omega
                case rel => exact ⟨i + 1, by simp, by omega, ho.drewN _⟩
              · have z1 := other_text he
                clear he hp
                go_wp2
                go_quiet (fail)
                go_wp2
                go_roundg (gb.length - (i + 1))
                case measure => omega
                case rel => exact ⟨i + 1, by simp, by omega, ho.drewN _⟩
            · go_wp2
              go_ret
              exact ⟨rfl, hO9.out.trans ho fun _ _ => id⟩
    · have hA1 := Lib.hid (fun (W : World) (u : Value) (hu : ReadsC W u xs) => award_no W hu hr.short (by omega) hme)
      have hA2 := Lib.hid (fun (W0 W : World) (u : Value) (hu : ReadsC W0 u (turnM xs k)) (ho : Only (fun _ => False) W0 W) => award_no W (hu.quiet ho) sM (by omega) (fun e => hme (hall.symm.trans e)))
      have hA3 := Lib.hid (fun (W0 W : World) (u : Value) (hu : ReadsC W0 u (onlyT xs t xs.length)) (hs : ∀ A n c, u = .slice A n c → ∀ a, A = some a → a.spot = none) (ho : Only (fun _ => False) W0 W) => award_any (w := W) (hu.quiet ho) hs sO (by omega) tO)
      rw [hall] at hA2
      have hne : (allM xs != 0) = true := by simpa using hme
      clear hfb hr hme hsz hsp hth hall sM sO tM tO hmm hom
      generalize allM xs = er at *
      obtain ⟨A, c, rfl, _⟩ := h
      have hcap := hcp _ _ _ rfl
      have hkc : (k : Int) ≤ (c : Int) := by omega
      clear hcp
      go_enter Tryz.func7, Tryz.ntmps7
      go_wp2_with (first
        | (go_at_call 10; refine (hAk.out _).mono ?_; clear hAk; rintro e w1 ⟨rfl, ho1⟩)
        | (go_at_call 11; have hc := hFw.out _ ho1; refine hc.mono ?_; clear hc hFw; rintro e w2 ⟨rfl, ho2⟩))
      have ho := ho1.trans ho2 fun _ _ => id
      have hOw := Lib.hid ho
      have hX := Lib.hid (hX0.out.quiet ho)
      clear ho ho1 ho2
      have hXd := Lib.hid (ReadsC.drop hX.out hcap hkl)
      have hXt := Lib.hid (ReadsC.take (c' := c) hX.out hkl)
      have hO := Only.refl (fun _ => False) w2.drew
      have hOD := Lib.hid (hOw.out.drew)
      have hXe := Lib.hid (hX.out.quiet (Only.refl _ _).drew)
      have hXf := Lib.hid (hXd.out.quiet (Only.refl _ _).drew)
      have hXg := Lib.hid (hXt.out.quiet (Only.refl _ _).drew)
      refine wp_region_ord (.read 1 (.read 2 (.read 3 (.read 5 (.read 6 (.read 7 (.read 9 (.turn 0 (.turn 4 (.turn 8 (.turn 10 (.read 11 .stop)))))))))))) (Only (fun _ => False) w2.drew) (by kernel_rfl) (by kernel_rfl) (by kernel_rfl) (by first | exact Only.refl _ _ | assumption) ?_
      refine wpOrd_reads (v := ?_) rfl rfl (fun _ _ _ h => h) ?_ ?_
      rotate_left
      · intro W hW; go_simp; try with_reducible rfl
      go_frame
      refine wpOrd_reads (v := ?_) rfl rfl (fun _ _ _ h => h) ?_ ?_
      rotate_left
      · intro W hW; go_simp; try with_reducible rfl
      go_frame
      refine wpOrd_reads (v := ?_) rfl rfl (fun _ _ _ h => h) ?_ ?_
      rotate_left
      · intro W hW; go_simp; try with_reducible rfl
      go_frame
      refine wpOrd_reads (v := ?_) rfl rfl (fun _ _ _ h => h) ?_ ?_
      rotate_left
      · intro W hW; go_simp; try with_reducible rfl
      go_frame
      refine wpOrd_reads (v := ?_) rfl rfl (fun _ _ _ h => h) ?_ ?_
      rotate_left
      · intro W hW; go_simp; try with_reducible rfl
      go_frame
      refine wpOrd_reads (v := ?_) rfl rfl (fun _ _ _ h => h) ?_ ?_
      rotate_left
      · intro W hW; go_simp; try with_reducible rfl
      go_frame
      refine wpOrd_reads (v := ?_) rfl rfl (fun _ _ _ h => h) ?_ ?_
      rotate_left
      · intro W hW; go_simp; try with_reducible rfl
      go_frame
      refine wpOrd_turns rfl ?_
      go_wp2
      have hR0 := Lib.hid (own_none24 w2.drew)
      have hO := hO.alloc (.cells #[] 23)
      refine ⟨hO, ?_⟩
      refine wpOrd_turns rfl ?_
      refine wpList_append_clms rfl _ _ rfl (ps := []) (ys := xs.drop k) rfl hR0.out rfl (hXf.out.quiet hO) (by simp; omega) (by simp) ?_
      intro v3 w3 hR1 hg3 hb3
      have hO := hO.grown hg3 (fun i hi hlt => by have := (hR0.out.lt i hi).1; omega)
      refine wpList_nil ⟨hO, ?_⟩
      refine wpOrd_turns rfl ?_
      refine wpList_append_clms rfl _ _ rfl (ps := [] ++ xs.drop k) (ys := xs.take k) rfl hR1 rfl (hXg.out.quiet hO) (by simp; omega) hO.size ?_
      intro v4 w4 hR2 hg4 hb4
      have hO := hO.grown hg4 (fun i hi hlt => by have := (hR1.lt i hi).1; omega)
      refine wpList_nil ⟨hO, ?_⟩
      refine wpOrd_turns rfl ?_
      refine wpList_append_clms rfl _ _ rfl (ps := [] ++ xs.drop k ++ xs.take k) (ys := xs) rfl hR2 rfl (hXe.out.quiet hO) (by simp; omega) hO.size ?_
      intro v5 w5 hR3 hg5 hb5
      have hO := hO.grown hg5 (fun i hi hlt => by have := (hR2.lt i hi).1; omega)
      refine wpList_nil ⟨hO, ?_⟩
      refine wpOrd_reads (v := ?_) rfl rfl (fun _ _ _ h => h) ?_ ?_
      rotate_left
      · intro W hW; go_simp; try with_reducible rfl
      go_frame
      refine wpOrd_nil ?_
      have hT := Lib.hid (show w5.ownsRow w2.drew.heap.size 23 5 v5 (turnM xs k).length ((turnM xs k).flatMap cEnc) from hR3)
      have hX5 := Lib.hid (hXe.out.quiet hO)
      have hO5 := Lib.hid (hOD.out.trans hO fun _ _ => id)
      have hT5 := Lib.hid (ReadsC.of_own hT.out)
      have hTs := Lib.hid (own_spot hT.out)
      obtain ⟨mA, mc, rfl⟩ := own_sl hT.out
      clear hR1 hR2 hR3 hX hXd hXt hXe hXf hXg hOD hO hT
      clear hg3 hb3 hg4 hb4 hg5 hb5
      go_wp2
      go_loopg [8, 9] (xs.length) (fun g v8 v9 wr => ∃ i : Nat, v9 = .int .i64 (i : Int) ∧ i + g = xs.length ∧ Only (fun _ => False) w5 wr ∧ Hid (wr.ownsRow w5.heap.size 23 5 v8 (onlyT xs t i).length ((onlyT xs t i).flatMap cEnc)))
      case atStart => exact ⟨0, rfl, by omega, Only.refl _ _, Lib.hid ⟨by simp [onlyT], .inl ⟨rfl, by simp [onlyT]⟩⟩⟩
      case round =>
        obtain ⟨i, rfl, hg, ho, hown⟩ := hrel
        by_cases hi : i < xs.length
        · obtain ⟨x, hc⟩ : ∃ c, xs[i]? = some c := ⟨xs[i], List.getElem?_eq_getElem hi⟩
          obtain ⟨b, off, rfl⟩ := clm_some hX5.out (by omega)
          obtain ⟨k0, k1, k2, k3, k4⟩ := clm_read wr hX5.out ho hc
          have hst := Lib.hid (onlyT_step (t := t) hc)
          have hle := onlyT_le xs t i
          obtain ⟨c1, c2, c3, c4, c5⟩ := x
          simp only at k0 k1 k2 k3 k4 hst
          clear hc
          generalize onlyT xs t i = bs at *
          by_cases hcr : c2 = t
          · rw [if_pos hcr] at hst
            have hb := same_text hcr
            clear hcr
            obtain ⟨tA, tc, rfl⟩ := own_sl hown.out
            have hge : w5.heap.size ≤ wr.heap.size := ho.size
            go_wp2_with (at_builtin; refine wpList_append_own_at _ rfl _ _ 24 rfl w5.heap.size 23 i0 _ 5 56 Tryz.underlying24 hI0 hz0 hz1 hz2 rfl (by decide) _ bs.length (bs.flatMap cEnc) rfl (hown.out.alloc _) ⟨wr.heap.size, 0, none⟩ 1 1 [.string c1, .string c2, .int .i64 c3, .int .i64 c4, .int .i64 c5] rfl rfl (news_at (W := wr) (cs := #[.string c1, .string c2, .int .i64 c3, .int .i64 c4, .int .i64 c5]) (t := 23)) ?_ ?_ ?_ ?_ ?_
                         · intro u hu; simp at hu; rcases hu with rfl | rfl | rfl | rfl | rfl <;> rfl
                         · unfold maxLen; omega
                         · omega
                         · simp; omega
                         intro v1 w8 hown8 hg8 _ hat8)
            go_roundg (xs.length - (i + 1))
            case measure => omega
            case rel =>
              refine ⟨i + 1, by simp, by omega, (ho.alloc _).grown hg8 fun k' hk' hlt' => by have := (hown.out.lt k' hk').1; omega, Lib.hid ?_⟩
              rw [hst.out, List.flatMap_append]
              simpa [cEnc] using hown8
          · rw [if_neg hcr] at hst
            have hb := other_text hcr
            clear hcr
            go_wp2
            go_roundg (xs.length - (i + 1))
            case measure => omega
            case rel => exact ⟨i + 1, by simp, by omega, ho, Lib.hid (by rw [hst.out]; exact hown.out)⟩
        · have hie : i = xs.length := by omega
          subst hie
          have hXb := Lib.hid (ReadsC.of_own hown.out)
          have hXs := Lib.hid (own_spot hown.out)
          have hbl := onlyT_le xs t xs.length
          obtain ⟨tA, tc, rfl⟩ := own_sl hown.out
          have hXr := Lib.hid (hX5.out.quiet ho)
          have hTr := Lib.hid (hT5.out.quiet ho)
          have hOr := Lib.hid (hO5.out.trans ho fun _ _ => id)
          clear hown hX5 hT5 hO5 ho
          go_wp2_with (first
            | (go_at_call 22; have hc := hA1.out _ _ hXr.out; refine hc.mono ?_; clear hc hA1; rintro e w6 ⟨rfl, ho6⟩)
            | (go_at_call 22; have hc := hA2.out _ _ _ hTr.out ho6; refine hc.mono ?_; clear hc hA2; rintro e w7 ⟨rfl, ho7⟩; have ho67 := ho6.trans ho7 fun _ _ => id)
            | (go_at_call 22; have hc := hA3.out _ _ _ hXb.out hXs.out ho67; refine hc.mono ?_; clear hc hA3; rintro e w8 ⟨u8, n8, rfl, ho8⟩))
          go_ret
          exact ⟨by simp, (hOr.out.trans ho67 fun _ _ => id).trans ho8 fun _ _ => id⟩
  · have hcase : (fewM xs = false) ∨ (fewM xs = true ∧ turn < 0) ∨ (fewM xs = true ∧ ¬ turn < 0 ∧ (xs.length : Int) < turn) ∨ (fewM xs = true ∧ ¬ turn < 0 ∧ ¬ (xs.length : Int) < turn ∧ 20 < xs.length) := by
      cases hf : fewM xs
      · exact .inl rfl
      · rw [hf] at hfb
        by_cases h1 : turn < 0
        · exact .inr (.inl ⟨rfl, h1⟩)
        · by_cases h2 : (xs.length : Int) < turn
          · exact .inr (.inr (.inl ⟨rfl, h1, h2⟩))
          · by_cases h3 : 20 < xs.length
            · exact .inr (.inr (.inr ⟨rfl, h1, h2, h3⟩))
            · exact absurd ⟨rfl, by omega, by omega, by omega⟩ hfb
    obtain ⟨A, c, rfl, _⟩ := h
    clear hfb hr
    rcases hcase with hf | ⟨hf, hR⟩ | ⟨hf, hR, hR4⟩ | ⟨hf, hR, hR4, hR5⟩
    all_goals
      rw [hf] at hFw
      clear hf
      go_enter Tryz.func7, Tryz.ntmps7
      go_wp2_with (first
        | (go_at_call 10; refine (hAk.out _).mono ?_; clear hAk; rintro e w1 ⟨rfl, ho1⟩)
        | (go_at_call 11; have hc := hFw.out _ ho1; refine hc.mono ?_; clear hc hFw; rintro e w2 ⟨rfl, ho2⟩))
      go_ret
      exact ⟨rfl, ho1.trans ho2 fun _ _ => id⟩
end Go.Proofs.YteecfjkljmmecaaGreat
