/- WALK: the law DisputeSums. -/
import Derived.Test.YteecfjkljmmecaaGreatAk
import Derived.Test.YteecfjkljmmecaaGreatPn
namespace Go.Proofs.YteecfjkljmmecaaGreat
open Go.RowKit Go.Sort Go.Shelf
theorem few_ok {xs : List Clm} (h : fewM xs = true) : xs.length ≤ 41 ∧ ∀ c ∈ xs, c.name.size + c.thing.size ≤ 100 := by
  unfold fewM at h
  rw [Bool.and_eq_true, decide_eq_true_iff, List.all_eq_true] at h
  exact ⟨h.1, fun c hc => by have := h.2 c hc; unfold fewX at this; simpa using this⟩
theorem money_ok {pot : Int} {xs : List Clm} (h : moneyErr pot xs = 0) : (∀ c ∈ xs, mayB c = true) ∧ 0 ≤ pot ∧ pot ≤ 1099511627776 ∧ allM xs = 0 := by
  unfold moneyErr at h
  split at h
  · cases h
  · exact ⟨(allM_ok h).2, by omega, by omega, h⟩
/-- A claimant, read later. -/
theorem clm_read (W : World) {w : World} {b off n c : Nat} {xs : List Clm} (h : ReadsC w (.slice (some ⟨b, off, none⟩) n c) xs) (ho : Only (fun _ => False) w W) {i : Nat} {x : Clm} (hx : xs[i]? = some x) :
    W.cell? ⟨b, off + i * 5, none⟩ = some (.string x.name) ∧ W.cell? ⟨b, off + i * 5 + 1, none⟩ = some (.string x.thing) ∧ W.cell? ⟨b, off + i * 5 + 2, none⟩ = some (.int .i64 x.right) ∧ W.cell? ⟨b, off + i * 5 + 3, none⟩ = some (.int .i64 x.day) ∧ W.cell? ⟨b, off + i * 5 + 4, none⟩ = some (.int .i64 x.amt) := by
  obtain ⟨A', c', hA', hr⟩ := ReadsC.cells W (h.quiet ho)
  injection hA' with hA1 hA2 hA3
  obtain ⟨b', off', he, k⟩ := hr i x hx
  rw [← hA1] at he
  injection he with he
  injection he with e1 e2
  subst e1 e2
  exact k
theorem int_read (W : World) {w : World} {b off n c : Nat} {xs : List Int} (h : ReadsI w (.slice (some ⟨b, off, none⟩) n c) xs) (ho : Only (fun _ => False) w W) {i : Nat} {x : Int} (hx : xs[i]? = some x) : W.cell? ⟨b, off + i, none⟩ = some (.int .i64 x) := by
  obtain ⟨A', c', hA', hr⟩ := h.quiet ho
  injection hA' with hA1 hA2 hA3
  obtain ⟨b', off', he, k⟩ := hr i x hx
  rw [← hA1] at he
  injection he with he
  injection he with e1 e2
  subst e1 e2
  exact k
theorem clm_some {w : World} {A : Option Addr} {n c : Nat} {xs : List Clm} (h : ReadsC w (.slice A n c) xs) (hp : 0 < xs.length) : ∃ b off, A = some ⟨b, off, none⟩ := by
  obtain ⟨A', c', hA', hr⟩ := h
  injection hA' with hA1
  obtain ⟨b, off, rfl, _⟩ := hr hp
  exact ⟨b, off, hA1⟩
theorem int_some {w : World} {A : Option Addr} {n c : Nat} {xs : List Int} (h : ReadsI w (.slice A n c) xs) {i : Nat} (hp : i < xs.length) : ∃ b off, A = some ⟨b, off, none⟩ := by
  obtain ⟨A', c', hA', hr⟩ := h
  injection hA' with hA1
  obtain ⟨b, off, rfl, _⟩ := hr i _ (List.getElem?_eq_getElem hp)
  exact ⟨b, off, hA1⟩
set_option maxHeartbeats 32000000 in
set_option maxRecDepth 100000 in
theorem sums_law (w : World) (pot : Int) {v : Value} {xs : List Clm} (h : ReadsC w v xs) (hr : Reach xs) (hl : xs.length ≤ 2513169434843) : Calls Tryz.prog 8 #[.int .i64 pot, v] w (TellPost true w) := by
  have hAk := Lib.hid (fun W => awake_any W)
  have hFw := Lib.hid (fun W (ho : Only (fun _ => False) w W) => few_any W (h.quiet ho) hr (by omega))
  have hX0 := Lib.hid h
  cases hfb : fewM xs
  · rw [hfb] at hFw
    obtain ⟨A, c, rfl, _⟩ := h
    clear hfb hr
    go_enter Tryz.func8, Tryz.ntmps8
    go_wp2_with (first
      | (go_at_call 10; refine (hAk.out _).mono ?_; clear hAk; rintro e w1 ⟨rfl, ho1⟩)
      | (go_at_call 11; have hc := hFw.out _ ho1; refine hc.mono ?_; clear hc hFw; rintro e w2 ⟨rfl, ho2⟩))
    go_ret
    exact ⟨rfl, ho1.trans ho2 fun _ _ => id⟩
  · rw [hfb] at hFw
    obtain ⟨n41, _⟩ := few_ok hfb
    by_cases hme : moneyErr pot xs = 0
    · have hMy := Lib.hid (fun W (ho : Only (fun _ => False) w W) => money_yes W pot (h.quiet ho) hr.short (by omega) hme)
      obtain ⟨hm, p0, p1, _⟩ := money_ok hme
      have hlen := Lib.hid (money_length pot xs)
      have hleft := money_left hm p0
      have hsum := Lib.hid (money_sum hm p0)
      have hbd := Lib.hid (fun i c x (a : xs[i]? = some c) (b : (moneyM pot xs).1[i]? = some x) => part_bd hm p0 a b)
      have hrank := Lib.hid (fun i k c d x y (a : xs[i]? = some c) (b : xs[k]? = some d) (e : (moneyM pot xs).1[i]? = some x) (f : (moneyM pot xs).1[k]? = some y) => part_rank hm p0 a b e f)
      have halike := Lib.hid (fun i k c d x y (a : xs[i]? = some c) (b : xs[k]? = some d) (e : (moneyM pot xs).1[i]? = some x) (f : (moneyM pot xs).1[k]? = some y) => part_alike hm p0 a b e f)
      have hamt := Lib.hid (fun c (hc : c ∈ xs) => (may_amt (hm c hc)).2.2)
      unfold MoneyPost at hMy
      generalize (moneyM pot xs).1 = p at *
      generalize (moneyM pot xs).2 = left at *
      have hpb : ∀ i : Nat, ∀ x, p[i]? = some x → 0 ≤ x ∧ x ≤ 1099511627776 := fun i x hx => by
        have hi : i < xs.length := by rw [← hlen.out]; exact (List.getElem?_eq_some_iff.1 hx).1
        have h1 := hbd.out i _ x (List.getElem?_eq_getElem hi) hx
        have h2 := hamt.out _ (List.getElem_mem hi)
        omega
      have hpm : ∀ x ∈ p, 0 ≤ x ∧ x ≤ 1099511627776 := fun x hx => by
        obtain ⟨i, hi⟩ := List.mem_iff_getElem?.1 hx
        exact hpb i x hi
      have hle : left ≤ 1099511627776 := by
        have := hsum.out
        have := sum_nonneg fun x hx => (hpm x hx).1
        omega
      have hPM := Lib.hid hpm
      clear hfb hr hme hm hpb hpm
      obtain ⟨A, c, rfl, _⟩ := h
      go_enter Tryz.func8, Tryz.ntmps8
      have hne : ((xs.length : Int) != (xs.length : Int)) = false := by simp
      have hl0 : decide (left < 0) = false := by simp; omega
      go_wp2_with (first
        | (go_at_call 10; refine (hAk.out _).mono ?_; clear hAk; rintro e w1 ⟨rfl, ho1⟩)
        | (go_at_call 11; have hc := hFw.out _ ho1; refine hc.mono ?_; clear hc hFw; rintro e w1b ⟨rfl, ho2⟩; have ho1 := ho1.trans ho2 fun _ _ => id)
        | (go_at_call 18; have hc := hMy.out _ ho1; refine hc.mono ?_; clear hc hMy; rintro e w2 ⟨v2, rfl, hI0, ho3⟩; have hI := Lib.hid hI0; obtain ⟨pA, pc, rfl, _⟩ := hI0; have hX := Lib.hid ((hX0.out.quiet ho1).quiet ho3); have hOw := Lib.hid (ho1.trans ho3 fun _ _ => id); have hplen := hlen.out; rw [hplen] at hI ⊢; clear hplen))
      go_loopg [8, 9] (xs.length) (fun g v8 v9 wr => ∃ i : Nat, v9 = .int .i64 (i : Int) ∧ v8 = .int .i64 (left + sumI (p.take i)) ∧ i + g = xs.length ∧ Only (fun _ => False) w2 wr)
      case atStart => exact ⟨0, rfl, by simp, by omega, Only.refl _ _⟩
      case round =>
        obtain ⟨i, rfl, rfl, hg, ho⟩ := hrel
        by_cases hi : i < xs.length
        · obtain ⟨c0', hc0⟩ : ∃ c, xs[i]? = some c := ⟨xs[i], List.getElem?_eq_getElem hi⟩
          obtain ⟨x, hx0⟩ : ∃ x, p[i]? = some x := ⟨p[i]'(by rw [hlen.out]; exact hi), List.getElem?_eq_getElem _⟩
          obtain ⟨b, off, rfl⟩ := clm_some hX.out (by omega)
          obtain ⟨b', off', rfl⟩ := int_some hI.out (show i < p.length by rw [hlen.out]; exact hi)
          obtain ⟨k0, k1, k2, k3, k4⟩ := clm_read wr hX.out ho hc0
          have j0 := int_read wr hI.out ho hx0
          obtain ⟨x0, x1, x2⟩ := hbd.out i _ x hc0 hx0
          have x3 := hamt.out _ (List.mem_of_getElem? hc0)
          have hst := Lib.hid (sumI_take hx0)
          have hs0 := sum_nonneg (l := p.take i) fun y hy => (hPM.out y (List.mem_of_mem_take hy)).1
          have hs1 := sum_le (l := p.take i) (m := 1099511627776) fun y hy => (hPM.out y (List.mem_of_mem_take hy)).2
          have hs2 : (p.take i).length ≤ 41 := by simp; omega
          have hx := Lib.hid hx0
          have hc := Lib.hid hc0
          clear hx0 hc0
          obtain ⟨c1, c2, c3, c4, c5⟩ := c0'
          simp only at k0 k1 k2 k3 k4 x1 x2 x3
          generalize (p.take i).length = ll at *
          generalize hqq : sumI (p.take i) = q at *
          have hq := Lib.hid hqq
          clear hqq
          have hw : IntKind.i64.wrap (left + q + x) = left + q + x := IntWalk.i64_in _ (by omega)
          have a1 : decide (x < 0) = false := by simp; omega
          have a2 : decide (c5 < x) = false := by simp; omega
          have hXX := Lib.hid x2
          clear x2
          by_cases hlp : 0 < left
          · have a3 : decide (0 < left) = true := by simpa using hlp
            have a4 : (x != c5) = false := by have := hXX.out hlp; simpa using this
            clear hXX
            go_wp2
            go_quiet (fail)
            go_wp2
            go_loopg [10] (xs.length) (fun g v10 wr => ∃ k : Nat, v10 = .int .i64 (k : Int) ∧ k + g = xs.length ∧ Only (fun _ => False) w2 wr)
            case atStart => exact ⟨0, rfl, by omega, ho.drewN _⟩
            case round =>
              obtain ⟨k, rfl, hgk, hok⟩ := hrel
              by_cases hk : k < xs.length
              · obtain ⟨d, hd⟩ : ∃ d, xs[k]? = some d := ⟨xs[k], List.getElem?_eq_getElem hk⟩
                obtain ⟨y, hy⟩ : ∃ y, p[k]? = some y := ⟨p[k]'(by rw [hlen.out]; exact hk), List.getElem?_eq_getElem _⟩
                obtain ⟨m0, m1, m2, m3, m4⟩ := clm_read wr hX.out hok hd
                have n0 := int_read wr hI.out hok hy
                obtain ⟨e0, e1, e2, e3, e4⟩ := clm_read wr hX.out hok hc.out
                have f0 := int_read wr hI.out hok hx.out
                have hkp : k < p.length := by rw [hlen.out]; exact hk
                have hip : i < p.length := by rw [hlen.out]; exact hi
                have r1 := Lib.hid (hrank.out i k _ _ _ _ hc.out hd hx.out hy)
                have r2 := Lib.hid (halike.out i k _ _ _ _ hc.out hd hx.out hy)
                have r3 := Lib.hid (halike.out k i _ _ _ _ hd hc.out hy hx.out)
                have y0 := (hbd.out k d y hd hy).1
                have y1 := (hbd.out k d y hd hy).2.1
                have y2 := hamt.out d (List.mem_of_getElem? hd)
                have hWa : IntKind.i64.wrap (y - x) = y - x := IntWalk.i64_in _ (by omega)
                have hWb : IntKind.i64.wrap (x - y) = x - y := IntWalk.i64_in _ (by omega)
                clear hd hy
                obtain ⟨d1, d2, d3, d4, d5⟩ := d
                simp only at m0 m1 m2 m3 m4 r1 r2 r3 y1 y2
                by_cases hA : c3 < d3
                · have z1 : decide (c3 < d3) = true := by simpa using hA
                  have z2 : (d3 == c3) = false := by simp; omega
                  by_cases hp : 0 < y
                  · have z3 : decide (0 < y) = true := by simpa using hp
                    have z4 : (x != c5) = false := by have := r1.out hA hp; simpa using this
                    clear hA hp
                    go_wp2
                    go_quiet (fail)
                    go_wp2
                    go_quiet (fail)
                    go_wp2
                    go_roundg (xs.length - (k + 1))
                    case measure => omega
                    case rel => exact ⟨k + 1, by simp, by omega, hok.drewN _⟩
                  · have z3 : decide (0 < y) = false := by simpa using hp
                    clear hA hp
                    go_wp2
                    go_quiet (fail)
                    go_wp2
                    go_quiet (fail)
                    go_wp2
                    go_roundg (xs.length - (k + 1))
                    case measure => omega
                    case rel => exact ⟨k + 1, by simp, by omega, hok.drewN _⟩
                · have z1 : decide (c3 < d3) = false := by simpa using hA
                  by_cases hB : d3 = c3
                  · have z2 : (d3 == c3) = true := by simpa using hB
                    by_cases hp : d5 = c5
                    · have z3 : (d5 == c5) = true := by simpa using hp
                      have q1 : decide (1 < y - x) = false := by have := r2.out hB hp; simp; omega
                      have q2 : decide (1 < x - y) = false := by have := r3.out hB.symm hp.symm; simp; omega
                      clear hA hB hp
                      go_wp2
                      go_quiet (fail)
                      go_wp2
                      go_quiet (fail)
                      go_wp2
                      go_roundg (xs.length - (k + 1))
                      case measure => omega
                      case rel => exact ⟨k + 1, by simp, by omega, hok.drewN _⟩
                    · have z3 : (d5 == c5) = false := by simpa using hp
                      clear hA hB hp
                      go_wp2
                      go_quiet (fail)
                      go_wp2
                      go_quiet (fail)
                      go_wp2
                      go_roundg (xs.length - (k + 1))
                      case measure => omega
                      case rel => exact ⟨k + 1, by simp, by omega, hok.drewN _⟩
                  · have z2 : (d3 == c3) = false := by simpa using hB
                    clear hA hB
                    go_wp2
                    go_quiet (fail)
                    go_wp2
                    go_quiet (fail)
                    go_wp2
                    go_roundg (xs.length - (k + 1))
                    case measure => omega
                    case rel => exact ⟨k + 1, by simp, by omega, hok.drewN _⟩
              · go_wp2
                go_roundg (xs.length - (i + 1))
                case measure => omega
                case rel => exact ⟨i + 1, by simp, by rw [hst.out, ← hq.out]; first | rfl | (congr 1; omega), by omega, hok⟩
          · have a3 : decide (0 < left) = false := by simpa using hlp
            clear hXX
            go_wp2
            go_quiet (fail)
            go_wp2
            go_loopg [10] (xs.length) (fun g v10 wr => ∃ k : Nat, v10 = .int .i64 (k : Int) ∧ k + g = xs.length ∧ Only (fun _ => False) w2 wr)
            case atStart => exact ⟨0, rfl, by omega, ho.drewN _⟩
            case round =>
              obtain ⟨k, rfl, hgk, hok⟩ := hrel
              by_cases hk : k < xs.length
              · obtain ⟨d, hd⟩ : ∃ d, xs[k]? = some d := ⟨xs[k], List.getElem?_eq_getElem hk⟩
                obtain ⟨y, hy⟩ : ∃ y, p[k]? = some y := ⟨p[k]'(by rw [hlen.out]; exact hk), List.getElem?_eq_getElem _⟩
                obtain ⟨m0, m1, m2, m3, m4⟩ := clm_read wr hX.out hok hd
                have n0 := int_read wr hI.out hok hy
                obtain ⟨e0, e1, e2, e3, e4⟩ := clm_read wr hX.out hok hc.out
                have f0 := int_read wr hI.out hok hx.out
                have hkp : k < p.length := by rw [hlen.out]; exact hk
                have hip : i < p.length := by rw [hlen.out]; exact hi
                have r1 := Lib.hid (hrank.out i k _ _ _ _ hc.out hd hx.out hy)
                have r2 := Lib.hid (halike.out i k _ _ _ _ hc.out hd hx.out hy)
                have r3 := Lib.hid (halike.out k i _ _ _ _ hd hc.out hy hx.out)
                have y0 := (hbd.out k d y hd hy).1
                have y1 := (hbd.out k d y hd hy).2.1
                have y2 := hamt.out d (List.mem_of_getElem? hd)
                have hWa : IntKind.i64.wrap (y - x) = y - x := IntWalk.i64_in _ (by omega)
                have hWb : IntKind.i64.wrap (x - y) = x - y := IntWalk.i64_in _ (by omega)
                clear hd hy
                obtain ⟨d1, d2, d3, d4, d5⟩ := d
                simp only at m0 m1 m2 m3 m4 r1 r2 r3 y1 y2
                by_cases hA : c3 < d3
                · have z1 : decide (c3 < d3) = true := by simpa using hA
                  have z2 : (d3 == c3) = false := by simp; omega
                  by_cases hp : 0 < y
                  · have z3 : decide (0 < y) = true := by simpa using hp
                    have z4 : (x != c5) = false := by have := r1.out hA hp; simpa using this
                    clear hA hp
                    go_wp2
                    go_quiet (fail)
                    go_wp2
                    go_quiet (fail)
                    go_wp2
                    go_roundg (xs.length - (k + 1))
                    case measure => omega
                    case rel => exact ⟨k + 1, by simp, by omega, hok.drewN _⟩
                  · have z3 : decide (0 < y) = false := by simpa using hp
                    clear hA hp
                    go_wp2
                    go_quiet (fail)
                    go_wp2
                    go_quiet (fail)
                    go_wp2
                    go_roundg (xs.length - (k + 1))
                    case measure => omega
                    case rel => exact ⟨k + 1, by simp, by omega, hok.drewN _⟩
                · have z1 : decide (c3 < d3) = false := by simpa using hA
                  by_cases hB : d3 = c3
                  · have z2 : (d3 == c3) = true := by simpa using hB
                    by_cases hp : d5 = c5
                    · have z3 : (d5 == c5) = true := by simpa using hp
                      have q1 : decide (1 < y - x) = false := by have := r2.out hB hp; simp; omega
                      have q2 : decide (1 < x - y) = false := by have := r3.out hB.symm hp.symm; simp; omega
                      clear hA hB hp
                      go_wp2
                      go_quiet (fail)
                      go_wp2
                      go_quiet (fail)
                      go_wp2
                      go_roundg (xs.length - (k + 1))
                      case measure => omega
                      case rel => exact ⟨k + 1, by simp, by omega, hok.drewN _⟩
                    · have z3 : (d5 == c5) = false := by simpa using hp
                      clear hA hB hp
                      go_wp2
                      go_quiet (fail)
                      go_wp2
                      go_quiet (fail)
                      go_wp2
                      go_roundg (xs.length - (k + 1))
                      case measure => omega
                      case rel => exact ⟨k + 1, by simp, by omega, hok.drewN _⟩
                  · have z2 : (d3 == c3) = false := by simpa using hB
                    clear hA hB
                    go_wp2
                    go_quiet (fail)
                    go_wp2
                    go_quiet (fail)
                    go_wp2
                    go_roundg (xs.length - (k + 1))
                    case measure => omega
                    case rel => exact ⟨k + 1, by simp, by omega, hok.drewN _⟩
              · go_wp2
                go_roundg (xs.length - (i + 1))
                case measure => omega
                case rel => exact ⟨i + 1, by simp, by rw [hst.out, ← hq.out]; first | rfl | (congr 1; omega), by omega, hok⟩
        · have hie : i = xs.length := by omega
          subst hie
          have hfin : Hid (left + sumI (p.take xs.length) = pot) := Lib.hid (by rw [← hlen.out, List.take_length]; have := hsum.out; omega)
          go_wp2
          go_ret
          exact ⟨by rw [hfin.out]; simp, hOw.out.trans ho fun _ _ => id⟩
    · have hMn := Lib.hid (fun W (ho : Only (fun _ => False) w W) => money_no W pot (h.quiet ho) hr.short (by omega) hme)
      have hne : (moneyErr pot xs != 0) = true := by simpa using hme
      clear hfb hr hme
      generalize moneyErr pot xs = er at *
      obtain ⟨A, c, rfl, _⟩ := h
      go_enter Tryz.func8, Tryz.ntmps8
      go_wp2_with (first
        | (go_at_call 10; refine (hAk.out _).mono ?_; clear hAk; rintro e w1 ⟨rfl, ho1⟩)
        | (go_at_call 11; have hc := hFw.out _ ho1; refine hc.mono ?_; clear hc hFw; rintro e w2 ⟨rfl, ho2⟩; have ho1 := ho1.trans ho2 fun _ _ => id)
        | (go_at_call 18; have hc := hMn.out _ ho1; refine hc.mono ?_; clear hc hMn; rintro e w3 ⟨rfl, ho3⟩))
      go_ret
      exact ⟨rfl, ho1.trans ho3.only fun _ _ => id⟩
end Go.Proofs.YteecfjkljmmecaaGreat
