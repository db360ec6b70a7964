/- WALKS: LedgerTakes. -/
import Derived.Test.YtoeokakcdfdjkaaTk
namespace Go.Proofs.Ytoeokakcdfdjkaa
open Go.RowKit Go.Shelf

theorem bal_bound {S : Led} (G : Good S) (k : Key) : -1099511627776 ≤ (acctOr S.A k).bal ∧ (acctOr S.A k).bal ≤ 1099511627776 := by
  have := G.bounds k
  rw [maxA_eq] at this
  omega
theorem kept_list : tK.toList = [107, 101, 112, 116] := by kernel_rfl
theorem Lives.since {w0 w W : World} {l : Loc} {S : Led} (h : Lives w W l S) (ho : Only (fun _ => False) w0 w) : Lives w0 W l S := ⟨h.at_, ho.trans h.only fun _ _ h => h, fun i hi => Nat.le_trans ho.size (h.new i hi)⟩
section
variable {w : World}
set_option maxHeartbeats 8000000 in
set_option maxRecDepth 100000 in
theorem takes_law {v v' : Value} {xs ys : List ActM} (h : ReadsActs w w.heap.size v xs) (hl : xs.length ≤ 9223372036854775807) (n : Int) (h' : ReadsActs w w.heap.size v' ys) (hl' : ys.length ≤ 9223372036854775807) : Calls Try.prog 3 #[v, .int .i64 n, v'] w (LawPost w) := by
  have hX := Lib.hid h
  have hY := Lib.hid h'
  obtain ⟨A, c, rfl, _⟩ := h
  obtain ⟨A2, c2, rfl, _⟩ := h'
  have hA := Lib.hid (fun W => awake_any W)
  have hF1 := Lib.hid (fun W (ho : Only (fun _ => False) w W) => few_any (hX.out.later ho) hl)
  have hF2 := Lib.hid (fun W (ho : Only (fun _ => False) w W) => few_any (hY.out.later ho) hl')
  have hP := Lib.hid (fun W (ho : Only (fun _ => False) w W) (hf : fewB xs = true) => played_any (hX.out.later ho) hf)
  have G := Lib.hid (playM_good xs)
  generalize hres : holdM (playM xs) tK tA tE n = res
  obtain ⟨S2, e2⟩ := res
  have hR := Lib.hid hres
  have G2 : Good S2 := by have := (playM_good xs).holds tK tA tE n; rw [hres] at this; exact this
  have G3 := (moreM_spec ys G2).1
  generalize hres4 : openM (moreM S2 ys) tS tE 0 = r4
  obtain ⟨S4, e4⟩ := r4
  have hR4 := Lib.hid hres4
  have G4 : Good S4 := by have := G3.open tS tE 0; rw [hres4] at this; exact this
  generalize hres5 : takeM S4 tK tS n = r5
  obtain ⟨S5, e5⟩ := r5
  have G5 : Good S5 := by have := G4.take tK tS n; rw [hres5] at this; exact this
  generalize hres6 : letM S5 tK = r6
  obtain ⟨S6, e6⟩ := r6
  have hR5 := Lib.hid hres5
  have hR6 := Lib.hid hres6
  have hb4 := bal_bound G4 (tS, tE)
  have hb5 := bal_bound G4 (tA, tE)
  have hfin := Lib.hid (fun (hf : fewB xs = true) (hf' : fewB ys = true) (he2 : e2 = 0) => by
    subst he2
    obtain ⟨k1, k2, k3, _, _, _, k7⟩ := hold_ok (playM_good xs) hres
    have hlen1 := few_len hf
    have hlen2 := few_len hf'
    have hp := playM_P xs
    obtain ⟨_, m2, m3⟩ := moreM_spec ys G2
    exact (show (1 ≤ n ∧ n ≤ 1099511627776) ∧ (e4 = 7 ∨ ((e4 = 0 ∨ e4 = 5) ∧ ((acctOr S4.A (tS, tE)).bal + n ≤ 1099511627776 → e5 = 0 ∧ (acctOr S5.A (tS, tE)).bal = (acctOr S4.A (tS, tE)).bal + n ∧ (acctOr S5.A (tA, tE)).bal = (acctOr S4.A (tA, tE)).bal - n ∧ e6 = 4))) from
      ⟨⟨k1, k2⟩, (open_sink hres4).imp (fun h => h) fun ⟨o1, o2, o3, o4⟩ => ⟨o1, fun hb => by
        obtain ⟨S5', t1, t2, t3, t4⟩ := take_sink G4 (n := n) (by rw [o3, m2]; exact k3) k1 o2 (by rw [o4, ]; rw [k7] at m3; omega) hb
        rw [hres5] at t1
        injection t1 with t0 t1
        subst t0
        rw [hres6] at t4
        injection t4 with _ t4
        exact ⟨t1, t2, t3, t4⟩⟩⟩))
  have hG2 := Lib.hid G2
  have hG4 := Lib.hid G4
  have hG5 := Lib.hid G5
  generalize hw1 : (acctOr S4.A (tS, tE)).bal = b1 at *
  generalize hw2 : (acctOr S4.A (tA, tE)).bal = b2 at *
  generalize hw3 : (acctOr S5.A (tS, tE)).bal = b3 at *
  generalize hw4 : (acctOr S5.A (tA, tE)).bal = b4 at *
  have hW1 := Lib.hid hw1
  have hW2 := Lib.hid hw2
  have hW3 := Lib.hid hw3
  have hW4 := Lib.hid hw4
  have hB1 := Lib.hid (fun (W0 W : World) (l : Loc) (h : Lives W0 W l S4) => h.bal tS tE)
  have hB2 := Lib.hid (fun (W0 W : World) (l : Loc) (h : Lives W0 W l S4) => h.bal tA tE)
  have hB3 := Lib.hid (fun (W0 W : World) (l : Loc) (h : Lives W0 W l S5) => h.bal tS tE)
  have hB4 := Lib.hid (fun (W0 W : World) (l : Loc) (h : Lives W0 W l S5) => h.bal tA tE)
  clear hw1 hw2 hw3 hw4 hres hres4 hres5 hres6 G2 G3 G4 G5
  go_enter Try.func3, Try.ntmps3
  go_wp2_with (first
    | (go_at_call 9; refine (hA.out _).mono ?_; rintro e w1 ⟨rfl, ho1⟩)
    | (go_at_call 10; have hc := hF1.out _ ho1; clear hF1; refine hc.mono ?_; clear hc; rintro e w2 ⟨rfl, ho2⟩; have ho3 := ho1.trans ho2 fun _ _ h => h; clear ho1 ho2; have ho1 := ho3; clear ho3)
    | (go_at_call 10; have hc := hF2.out _ ho1; clear hF2; refine hc.mono ?_; clear hc; rintro e w2 ⟨rfl, ho2⟩; have ho3 := ho1.trans ho2 fun _ _ h => h; clear ho1 ho2; have ho1 := ho3; clear ho3)
    | (go_at_call 11; have hc := hP.out _ ho1 (by first | assumption | simp_all); refine hc.mono ?_; clear hc; rintro e w3 ⟨l, rfl, hlv0⟩; have hlv := hlv0.since ho1; clear hlv0)
    | (go_at_call 12; have hc := hlv.holds G.out tK tA tE n hR.out; refine hc.mono ?_; clear hc; rintro e wn ⟨rfl, hlvn⟩; clear hlv; have hlv := hlvn; clear hlvn))
  · go_ret
    exact ⟨rfl, Only.trans (F := fun _ => False) (G := fun _ => False) (by assumption) ho1 fun _ _ h => h⟩
  · go_ret
    exact ⟨rfl, hlv.only⟩
  · have he0 : e2 = 0 := by have h : (e2 != 0) = false := by assumption
                            simpa using h
    have hf2 : fewB ys = true := by have h : (!fewB ys) = false := by assumption
                                    simpa using h
    obtain ⟨⟨hn1, hn2⟩, hE⟩ := hfin.out (by assumption) hf2 he0
    have hE' := Lib.hid hE
    have hFY := Lib.hid hf2
    have hyl := few_len hf2
    simp only [hf2, he0, bne_self_eq_false]
    clear hE hfin hf2 hP hA G hR
    go_loopg [41] (ys.length) (fun g v41 wr => ∃ i : Nat, v41 = .int .i64 (i : Int) ∧ i + g = ys.length ∧ ∃ pv, Lives w wr { l with pv := pv } (moreM S2 (ys.take i)))
    case atStart => exact ⟨0, rfl, by omega, l.pv, hlv⟩
    case round =>
      clear hlv
      obtain ⟨i, rfl, hg, pv, hlv⟩ := hrel
      by_cases hi : i < ys.length
      · obtain ⟨x, hx⟩ : ∃ x, ys[i]? = some x := ⟨ys[i], List.getElem?_eq_getElem hi⟩
        obtain ⟨A', c', hA, hr⟩ := (hY.out.only hlv.only fun _ h => h.elim)
        injection hA with hA1 hA2 hA3
        subst hA1 hA3
        obtain ⟨b, off, rfl, hb, h0, h1, c0, c1, c2, c3, c4, lv, c5, he, hlb⟩ := hr i x hx
        have hfx := few_at hFY.out hx
        have hms : moreM S2 (ys.take (i + 1)) = if x.a = tK then moreM S2 (ys.take i) else (doM (moreM S2 (ys.take i)) x).1 := by rw [take_snoc hx, moreM_snoc]
        have hMS := Lib.hid hms
        have hLV := Lib.hid hlv
        have hD := Lib.hid (fun W (ho : Only (fun _ => False) wr W) => do_any (hlv.quiet ho).at_ (moreM_spec (ys.take i) hG2.out).1 x.kind ⟨h0, h1⟩ x.a x.b x.c x.n (he.only ho fun _ _ => id) (by omega) (by omega) (fun h0' b' hb' hf => by have := hlb h0' b' hb'; have := hlv.new b' hf; omega) (by obtain ⟨_, _, rfl, _⟩ := he; rfl))
        obtain ⟨eA, ec, rfl, _⟩ := he
        obtain ⟨xk, xa, xb, xc, xn, xl⟩ := x
        simp only at h0 h1 c0 c1 c2 c3 c4 c5 hD hMS
        clear hr hx hlb hfx hA2 hms hlv
        have hoA : Only (fun _ => False) wr (wr.alloc (.cells #[.int .u8 xk, .string xa, .string xb, .string xc, .int .i64 xn, .slice eA xl.length ec] 31)) := (Only.refl _ wr).alloc _
        go_wp2_with (go_at_call 13; have hc := hD.out _ hoA; refine hc.mono ?_; clear hc; intro e w7 hp; obtain ⟨rfl, pv', hlv'⟩ := (hLV.out.quiet hoA).post hp; clear hp)
        · have hne : ¬ xa = tK := by
            have h : (!xa.toList == [107, 101, 112, 116]) = true := by assumption
            refine str_ne ?_
            rw [kept_list]
            simpa using h
          go_roundg (ys.length - (i + 1))
          case measure => omega
          case rel => exact ⟨i + 1, by simp, by omega, pv', by rw [hMS.out, if_neg hne]; exact hlv'⟩
        · have heq : xa = tK := by
            have h : (!xa.toList == [107, 101, 112, 116]) = false := by assumption
            refine str_eq ?_
            rw [kept_list]
            simpa using h
          go_roundg (ys.length - (i + 1))
          case measure => omega
          case rel => exact ⟨i + 1, by simp, by omega, pv, by rw [hMS.out, if_pos heq]; exact hLV.out.quiet hoA⟩
      · have hie : i = ys.length := by omega
        subst hie
        rw [List.take_length] at hlv
        clear hi hg
        go_wp2_with (first
          | (go_at_call 14; have hc := hlv.opens tS tE 0 hR4.out; refine hc.mono ?_; clear hc; rintro e wn ⟨rfl, hlvn⟩; clear hlv; have hlv := hlvn; clear hlvn)
          | (go_at_call 15; have hc := hB1.out _ _ _ hlv; clear hB1; refine hc.mono ?_; clear hc; rintro e wn ⟨rfl, hlvn⟩; rw [hW1.out]; clear hlv; have hlv := hlvn; clear hlvn)
          | (go_at_call 15; have hc := hB2.out _ _ _ hlv; clear hB2; refine hc.mono ?_; clear hc; rintro e wn ⟨rfl, hlvn⟩; rw [hW2.out]; clear hlv; have hlv := hlvn; clear hlvn)
          | (go_at_call 16; have hc := hlv.takes hG4.out tK tS n (by decide) hR5.out; refine hc.mono ?_; clear hc; rintro e wn ⟨rfl, pv', hlvn⟩; clear hlv; have hlv := hlvn; clear hlvn)
          | (go_at_call 15; have hc := hB3.out _ _ _ hlv; clear hB3; refine hc.mono ?_; clear hc; rintro e wn ⟨rfl, hlvn⟩; rw [hW3.out]; clear hlv; have hlv := hlvn; clear hlvn)
          | (go_at_call 15; have hc := hB4.out _ _ _ hlv; clear hB4; refine hc.mono ?_; clear hc; rintro e wn ⟨rfl, hlvn⟩; rw [hW4.out]; clear hlv; have hlv := hlvn; clear hlvn)
          | (go_at_call 17; have hc := hlv.lets hG5.out tK hR6.out; refine hc.mono ?_; clear hc; rintro e wn ⟨rfl, hlvn⟩; clear hlv; have hlv := hlvn; clear hlvn))
        all_goals
          go_ret
          refine LawPost.of hlv.only ?_
          rcases hE'.out with h | ⟨h, h2⟩
          · clear hE'
            first
              | rfl
              | (exfalso; clear hlv hb4 hb5 hn1 hn2; simp_all; done)
              | (simp [h]; done)
          · clear hE'
            first
              | rfl
              | (have h3 := h2 (by omega); clear h2; obtain ⟨h4, h5, h6, h7⟩ := h3; first | (exfalso; omega) | (simp [h7]; done) | (simp_all; done))
              | (exfalso; simp_all; done)
  · go_ret
    exact ⟨rfl, Only.trans (F := fun _ => False) (G := fun _ => False) (by assumption) ho1 fun _ _ h => h⟩
end
end Go.Proofs.Ytoeokakcdfdjkaa
