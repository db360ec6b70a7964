/- WALK: the law DisputeBest. -/
import Derived.Test.YteecfjkljmmecaaGreatLs
import Derived.Sort.Walk0
import Derived.WalkLawsBesides
namespace Go.Proofs.YteecfjkljmmecaaGreat
open Go.RowKit Go.Sort Go.Shelf
theorem less_of {a b : ByteArray} (h : sLt a b) : Op.bytesLess a.toList b.toList = true := by
  rw [bytesLess_eq, ByteArray.toList_eq, ByteArray.toList_eq, decide_eq_true_iff]
  exact h
theorem award_read (W : World) {w : World} {b off n c : Nat} {xs : List (ByteArray × ByteArray)} (h : ReadsA w (.slice (some ⟨b, off, none⟩) n c) xs) (ho : Only (fun _ => False) w W) {i : Nat} {x : ByteArray × ByteArray} (hx : xs[i]? = some x) :
    W.cell? ⟨b, off + i * 2, none⟩ = some (.string x.1) ∧ W.cell? ⟨b, off + i * 2 + 1, none⟩ = some (.string x.2) := by
  obtain ⟨A', c', hA', hr⟩ := h.quiet ho
  injection hA' with hA1 hA2 hA3
  obtain ⟨b', off', he, k⟩ := hr i x hx
  rw [← hA1] at he
  injection he with he
  injection he with e1 e2
  subst e1 e2
  exact k
theorem award_some {w : World} {A : Option Addr} {n c : Nat} {xs : List (ByteArray × ByteArray)} (h : ReadsA w (.slice A n c) xs) {i : Nat} (hp : i < xs.length) : ∃ b off, A = some ⟨b, off, none⟩ := by
  obtain ⟨A', c', hA', hr⟩ := h
  injection hA' with hA1
  obtain ⟨b, off, rfl, _⟩ := hr i _ (List.getElem?_eq_getElem hp)
  exact ⟨b, off, hA1⟩
theorem same_text {a b : ByteArray} (h : a = b) : (a.toList == b.toList) = true := by rw [h]; simp
theorem other_text {a b : ByteArray} (h : a ≠ b) : (a.toList == b.toList) = false := by
  rw [Bool.eq_false_iff]
  intro he
  exact h (ba_tl (by simpa using he))
/-- Where the one stands who has won. -/
theorem won_at {xs : List Clm} {ga : List (ByteArray × ByteArray)} (h : IsAward xs ga) {i : Nat} {p : ByteArray × ByteArray} (hp : ga[i]? = some p) : ∃ K c, K < xs.length ∧ xs[K]? = some c ∧ c.thing = p.1 ∧ c.name = p.2 ∧ ∀ d ∈ xs, d.thing = c.thing → -cmpM d c ≤ 0 := by
  obtain ⟨c, hc, h1, h2, h3⟩ := h.won p (List.mem_of_getElem? hp)
  obtain ⟨K, hK⟩ := List.mem_iff_getElem?.1 hc
  refine ⟨K, c, (List.getElem?_eq_some_iff.1 hK).1, hK, h1, h2, fun d hd ht => Int.le_of_not_gt fun hlt => ?_⟩
  exact h3 d hd ht (cmpM_neg.1 (by omega))
theorem all_at {xs : List Clm} {ga : List (ByteArray × ByteArray)} (h : IsAward xs ga) {k : Nat} {c : Clm} (hc : xs[k]? = some c) : ∃ I p, I < ga.length ∧ ga[I]? = some p ∧ p.1 = c.thing := by
  obtain ⟨p, hp, he⟩ := h.all c (List.mem_of_getElem? hc)
  obtain ⟨I, hI⟩ := List.mem_iff_getElem?.1 hp
  exact ⟨I, p, (List.getElem?_eq_some_iff.1 hI).1, hI, he⟩
theorem pair_less {ga : List (ByteArray × ByteArray)} (h : ga.Pairwise fun p q => sLt p.1 q.1) {i : Nat} {p q : ByteArray × ByteArray} (hp : ga[i]? = some p) (hq : ga[i + 1]? = some q) : sLt p.1 q.1 := by
  obtain ⟨h1, rfl⟩ := List.getElem?_eq_some_iff.1 hp
  obtain ⟨h2, rfl⟩ := List.getElem?_eq_some_iff.1 hq
  exact List.pairwise_iff_getElem.1 h i (i + 1) h1 h2 (by omega)
theorem own_len {w : World} {base n : Nat} {e : TypeId} {size : Nat} {v : Value} {xs : List Value} (h : w.ownsRow base e size v n xs) : n ≤ 9223372036854775807 := by
  have hM : maxLen = 9223372036854775807 := rfl
  rcases h.2 with ⟨_, h0⟩ | ⟨g, cap, cur, _, _, _, h1, h2, _⟩ <;> omega
set_option maxHeartbeats 32000000 in
set_option maxRecDepth 100000 in
theorem best_law (w : World) {v : Value} {xs : List Clm} (h : ReadsC w v xs) (hsp : ∀ A n c, v = .slice A n c → ∀ a, A = some a → a.spot = none) (hr : Reach xs) (hl : xs.length ≤ 2513169434843) : Calls Tryz.prog 6 #[v] w (TellPost true w) := by
  have hAk := Lib.hid (fun W => awake_any W)
  have hFw := Lib.hid (fun W (ho : Only (fun _ => False) w W) => few_any W (h.quiet ho) hr (by omega))
  have hX0 := Lib.hid h
  cases hfb : fewM xs
  · rw [hfb] at hFw
    obtain ⟨A, c, rfl, _⟩ := h
    clear hfb hr
    go_enter Tryz.func6, Tryz.ntmps6
    go_wp2_with (first
      | (go_at_call 10; refine (hAk.out _).mono ?_; clear hAk; rintro e w1 ⟨rfl, ho1⟩)
      | (go_at_call 11; have hc := hFw.out _ ho1; refine hc.mono ?_; clear hc hFw; rintro e w2 ⟨rfl, ho2⟩))
    go_ret
    exact ⟨rfl, ho1.trans ho2 fun _ _ => id⟩
  · rw [hfb] at hFw
    obtain ⟨n41, hsz⟩ := few_ok hfb
    by_cases hme : allM xs = 0
    · have hMy := Lib.hid (fun W (ho : Only (fun _ => False) w W) => award_yes W (h.quiet ho) (.inr hsp) hr.short (by omega) hme (fun x hx => by have := hsz x hx; omega))
      unfold AwardPost at hMy
      clear hfb hr hme hsz hsp
      obtain ⟨A, c, rfl, _⟩ := h
      go_enter Tryz.func6, Tryz.ntmps6
      go_wp2_with (first
        | (go_at_call 10; refine (hAk.out _).mono ?_; clear hAk; rintro e w1 ⟨rfl, ho1⟩)
        | (go_at_call 11; have hc := hFw.out _ ho1; refine hc.mono ?_; clear hc hFw; rintro e w1b ⟨rfl, ho2⟩; have ho1 := ho1.trans ho2 fun _ _ => id)
        | (go_at_call 22; have hc := hMy.out _ ho1; refine hc.mono ?_; clear hc hMy; rintro e w2 ⟨v2, ga, rfl, hga, hrow, ho3⟩; have hG := Lib.hid hga; have hA := Lib.hid (ReadsA.of_own hrow); have hgl := own_len hrow; obtain ⟨vA, vc, rfl⟩ := own_sl hrow; have hX := Lib.hid ((hX0.out.quiet ho1).quiet ho3); have hOw := Lib.hid (ho1.trans ho3 fun _ _ => id); clear hga hrow))
      go_loopg [5] (ga.length) (fun g v5 wr => ∃ i : Nat, v5 = .int .i64 (i : Int) ∧ i + g = ga.length ∧ Only (fun _ => False) w2 wr)
      case atStart => exact ⟨0, rfl, by omega, Only.refl _ _⟩
      case round =>
        obtain ⟨i, rfl, hg, ho⟩ := hrel
        by_cases hi : i < ga.length
        · obtain ⟨⟨pt, pn⟩, hp0⟩ : ∃ p, ga[i]? = some p := ⟨ga[i], List.getElem?_eq_getElem hi⟩
          obtain ⟨ba, oa, rfl⟩ := award_some hA.out hi
          obtain ⟨q0, q1⟩ := award_read wr hA.out ho hp0
          obtain ⟨K, cK, hKl, hKc0, e1, e2, e3⟩ := won_at hG.out hp0
          have hKc := Lib.hid hKc0
          have hKt := Lib.hid (And.intro e1 (And.intro e2 e3))
          have hp := Lib.hid hp0
          simp only at q0 q1 hKt
          clear hKc0 e1 e2 e3 hp0
          by_cases hi0 : 0 < i
          · have z0 : decide (0 < (i : Int)) = true := by simp; omega
            obtain ⟨⟨rt, rn⟩, hp1⟩ : ∃ p, ga[i - 1]? = some p := ⟨ga[i - 1]'(by omega), List.getElem?_eq_getElem _⟩
            obtain ⟨r0, r1⟩ := award_read wr hA.out ho hp1
            have zl := less_of (pair_less hG.out.sorted hp1 (by rw [show i - 1 + 1 = i by omega]; exact hp.out))
            simp only at r0 r1 zl
            clear hp1
            go_wp2
            go_quiet (fail)
            go_wp2
            go_loopg [6, 7] (xs.length) (fun g v6 v7 wr => ∃ k : Nat, ∃ b : Bool, v7 = .int .i64 (k : Int) ∧ v6 = .bool b ∧ k + g = xs.length ∧ Hid (K < k → b = true) ∧ Only (fun _ => False) w2 wr)
            case atStart => exact ⟨0, false, rfl, rfl, by omega, Lib.hid (fun h => by omega), ho.drewN _⟩
            case round =>
              obtain ⟨k, bw, rfl, rfl, hgk, hbw, hok⟩ := hrel
              by_cases hk : k < xs.length
              · obtain ⟨c, hc⟩ : ∃ c, xs[k]? = some c := ⟨xs[k], List.getElem?_eq_getElem hk⟩
                obtain ⟨bx, ox, rfl⟩ := clm_some hX.out (show 0 < xs.length by omega)
                obtain ⟨k0, k1, k2, k3, k4⟩ := clm_read wr hX.out hok hc
                obtain ⟨q0, q1⟩ := award_read wr hA.out hok hp.out
                have hKk : Hid (K = k → c.thing = pt ∧ c.name = pn) := Lib.hid fun e => by
                  subst e
                  have := hKc.out
                  rw [hc] at this
                  injection this with this
                  subst this
                  exact ⟨hKt.out.1, hKt.out.2.1⟩
                have hC := Lib.hid hc
                clear hc
                obtain ⟨c1, c2, c3, c4, c5⟩ := c
                simp only at k0 k1 k2 k3 k4 hKk q0 q1
                by_cases hct : c2 = pt
                · by_cases hcn : c1 = pn
                  · have z1 := same_text hct
                    have z2 := same_text hcn
                    clear hct hcn
                    go_wp2
                    go_quiet (fail)
                    go_wp2
                    generalize hwr : wr.drewN _ = wj
                    have hoj : Only (fun _ => False) w2 wj := hwr ▸ hok.drewN _
                    clear hwr k0 k1 k2 k3 k4 q0 q1
                    go_loopg [8, 9] (xs.length) (fun g v8 v9 wr => ∃ j : Nat, ∃ b : Bool, v9 = .int .i64 (j : Int) ∧ v8 = .bool b ∧ j + g = xs.length ∧ Hid (K = k → b = true) ∧ Only (fun _ => False) w2 wr)
                    case atStart => exact ⟨0, true, rfl, rfl, by omega, Lib.hid (fun _ => rfl), hoj⟩
                    case round =>
                      obtain ⟨j, bb, rfl, rfl, hgj, hbb, hoj'⟩ := hrel
                      clear hok hoj
                      have hoj := hoj'
                      clear hoj'
                      by_cases hj : j < xs.length
                      · obtain ⟨d, hd⟩ : ∃ d, xs[j]? = some d := ⟨xs[j], List.getElem?_eq_getElem hj⟩
                        obtain ⟨m0, m1, m2, m3, m4⟩ := clm_read wr hX.out hoj hd
                        obtain ⟨k0, k1, k2, k3, k4⟩ := clm_read wr hX.out hoj hC.out
                        obtain ⟨q0, q1⟩ := award_read wr hA.out hoj hp.out
                        have hBt := Lib.hid (fun W => (better_any d ⟨c1, c2, c3, c4, c5⟩ W).mono (R' := fun e w' => e = .returned (.int .i64 (-cmpM d ⟨c1, c2, c3, c4, c5⟩)) ∧ Only (fun _ => False) W w') fun e w' h => ⟨h.1, h.2.only⟩)
                        have hbd := cmpM_bd d ⟨c1, c2, c3, c4, c5⟩
                        have hno : Hid (K = k → d.thing = pt → -cmpM d ⟨c1, c2, c3, c4, c5⟩ ≤ 0) := Lib.hid fun e ht => by
                          have h1 := hKc.out
                          rw [e, hC.out] at h1
                          injection h1 with h1
                          subst h1
                          exact hKt.out.2.2 d (List.mem_of_getElem? hd) (ht.trans hKt.out.1.symm)
                        generalize -cmpM d ⟨c1, c2, c3, c4, c5⟩ = nb at *
                        clear hd hbd
                        obtain ⟨d1, d2, d3, d4, d5⟩ := d
                        simp only [cVal] at m0 m1 m2 m3 m4 k0 k1 k2 k3 k4 hBt hno q0 q1
                        by_cases hdt : d2 = pt
                        · have z3 := same_text hdt
                          have hDT := Lib.hid hdt
                          clear hdt
                          have u0 : ∀ W, Only (fun _ => False) wr.drew W → W.cell? ⟨bx, ox + j * 5, none⟩ = some (.string d1) := fun W hW => hW.cellF m0
                          have u1 : ∀ W, Only (fun _ => False) wr.drew W → W.cell? ⟨bx, ox + j * 5 + 1, none⟩ = some (.string d2) := fun W hW => hW.cellF m1
                          have u2 : ∀ W, Only (fun _ => False) wr.drew W → W.cell? ⟨bx, ox + j * 5 + 2, none⟩ = some (.int .i64 d3) := fun W hW => hW.cellF m2
                          have u3 : ∀ W, Only (fun _ => False) wr.drew W → W.cell? ⟨bx, ox + j * 5 + 3, none⟩ = some (.int .i64 d4) := fun W hW => hW.cellF m3
                          have u4 : ∀ W, Only (fun _ => False) wr.drew W → W.cell? ⟨bx, ox + j * 5 + 4, none⟩ = some (.int .i64 d5) := fun W hW => hW.cellF m4
                          have t0 : ∀ W, Only (fun _ => False) wr.drew W → W.cell? ⟨bx, ox + k * 5, none⟩ = some (.string c1) := fun W hW => hW.cellF k0
                          have t1 : ∀ W, Only (fun _ => False) wr.drew W → W.cell? ⟨bx, ox + k * 5 + 1, none⟩ = some (.string c2) := fun W hW => hW.cellF k1
                          have t2 : ∀ W, Only (fun _ => False) wr.drew W → W.cell? ⟨bx, ox + k * 5 + 2, none⟩ = some (.int .i64 c3) := fun W hW => hW.cellF k2
                          have t3 : ∀ W, Only (fun _ => False) wr.drew W → W.cell? ⟨bx, ox + k * 5 + 3, none⟩ = some (.int .i64 c4) := fun W hW => hW.cellF k3
                          have t4 : ∀ W, Only (fun _ => False) wr.drew W → W.cell? ⟨bx, ox + k * 5 + 4, none⟩ = some (.int .i64 c5) := fun W hW => hW.cellF k4
                          have s0 : ∀ W, Only (fun _ => False) wr.drew W → W.cell? ⟨ba, oa + i * 2, none⟩ = some (.string pt) := fun W hW => hW.cellF q0
                          clear m0 m1 m2 m3 m4 k0 k1 k2 k3 k4 q0 q1
                          go_wp2
                          have hO := Only.refl (fun _ => False) wr.drew
                          have hoD := Lib.hid hoj.drew
                          refine wp_region_ord (.read 0 (.read 1 (.read 2 (.read 3 (.read 4 (.read 5 (.read 6 (.read 7 (.read 8 (.read 9 (.read 10 (.read 11 (.read 12 (.read 13 (.read 14 (.read 15 (.read 16 (.read 17 (.read 18 (.read 19 (.turn 20 (.read 21 (.read 22 .stop))))))))))))))))))))))) (Only (fun _ => False) wr.drew) (by kernel_rfl) (by kernel_rfl) (by kernel_rfl) (by first | exact Only.refl _ _ | assumption) ?_
                          refine wpOrd_reads (v := ?_) rfl rfl (fun _ _ _ h => h) ?_ ?_
                          rotate_left
                          · intro W hW; go_simp; try with_reducible rfl
                          go_frame
                          refine wpOrd_reads (v := ?_) rfl rfl (fun _ _ _ h => h) ?_ ?_
                          rotate_left
                          · intro W hW; go_simp; try with_reducible rfl
                          go_frame
                          refine wpOrd_reads (v := ?_) rfl rfl (fun _ _ _ h => h) ?_ ?_
                          rotate_left
                          · intro W hW; go_simp; try with_reducible rfl
                          go_frame
                          refine wpOrd_reads (v := ?_) rfl rfl (fun _ _ _ h => h) ?_ ?_
                          rotate_left
                          · intro W hW; go_simp; try with_reducible rfl
                          go_frame
                          refine wpOrd_reads (v := ?_) rfl rfl (fun _ _ _ h => h) ?_ ?_
                          rotate_left
                          · intro W hW; go_simp; try with_reducible rfl
                          go_frame
                          refine wpOrd_reads (v := ?_) rfl rfl (fun _ _ _ h => h) ?_ ?_
                          rotate_left
                          · intro W hW; go_simp; try with_reducible rfl
                          go_frame
                          refine wpOrd_reads (v := ?_) rfl rfl (fun _ _ _ h => h) ?_ ?_
                          rotate_left
                          · intro W hW; go_simp; try with_reducible rfl
                          go_frame
                          refine wpOrd_reads (v := ?_) rfl rfl (fun _ _ _ h => h) ?_ ?_
                          rotate_left
                          · intro W hW; go_simp; try with_reducible rfl
                          go_frame
                          refine wpOrd_reads (v := ?_) rfl rfl (fun _ _ _ h => h) ?_ ?_
                          rotate_left
                          · intro W hW; go_simp; try with_reducible rfl
                          go_frame
                          refine wpOrd_reads (v := ?_) rfl rfl (fun _ _ _ h => h) ?_ ?_
                          rotate_left
                          · intro W hW; go_simp; try with_reducible rfl
                          go_frame
                          refine wpOrd_reads (v := ?_) rfl rfl (fun _ _ _ h => h) ?_ ?_
                          rotate_left
                          · intro W hW; go_simp; try with_reducible rfl
                          go_frame
                          refine wpOrd_reads (v := ?_) rfl rfl (fun _ _ _ h => h) ?_ ?_
                          rotate_left
                          · intro W hW; go_simp; try with_reducible rfl
                          go_frame
                          first | (refine wpOrd_passed rfl (by rfl) (fun _ _ _ h => h) ?_) | (refine wpOrd_guarded (v := ?_) rfl (by rfl) (fun _ _ _ h => h) ?_ ?_; rotate_left; (focus (intro W hW; go_simp; try with_reducible rfl)))
                          go_frame
                          first | (refine wpOrd_passed rfl (by rfl) (fun _ _ _ h => h) ?_) | (refine wpOrd_guarded (v := ?_) rfl (by rfl) (fun _ _ _ h => h) ?_ ?_; rotate_left; (focus (intro W hW; go_simp; try with_reducible rfl)))
                          go_frame
                          first | (refine wpOrd_passed rfl (by rfl) (fun _ _ _ h => h) ?_) | (refine wpOrd_guarded (v := ?_) rfl (by rfl) (fun _ _ _ h => h) ?_ ?_; rotate_left; (focus (intro W hW; go_simp; try with_reducible rfl)))
                          go_frame
                          first | (refine wpOrd_passed rfl (by rfl) (fun _ _ _ h => h) ?_) | (refine wpOrd_guarded (v := ?_) rfl (by rfl) (fun _ _ _ h => h) ?_ ?_; rotate_left; (focus (intro W hW; go_simp; try with_reducible rfl)))
                          go_frame
                          first | (refine wpOrd_passed rfl (by rfl) (fun _ _ _ h => h) ?_) | (refine wpOrd_guarded (v := ?_) rfl (by rfl) (fun _ _ _ h => h) ?_ ?_; rotate_left; (focus (intro W hW; go_simp; try with_reducible rfl)))
                          go_frame
                          first | (refine wpOrd_passed rfl (by rfl) (fun _ _ _ h => h) ?_) | (refine wpOrd_guarded (v := ?_) rfl (by rfl) (fun _ _ _ h => h) ?_ ?_; rotate_left; (focus (intro W hW; go_simp; try with_reducible rfl)))
                          go_frame
                          first | (refine wpOrd_passed rfl (by rfl) (fun _ _ _ h => h) ?_) | (refine wpOrd_guarded (v := ?_) rfl (by rfl) (fun _ _ _ h => h) ?_ ?_; rotate_left; (focus (intro W hW; go_simp; try with_reducible rfl)))
                          go_frame
                          first | (refine wpOrd_passed rfl (by rfl) (fun _ _ _ h => h) ?_) | (refine wpOrd_guarded (v := ?_) rfl (by rfl) (fun _ _ _ h => h) ?_ ?_; rotate_left; (focus (intro W hW; go_simp; try with_reducible rfl)))
                          go_frame
                          refine wpOrd_turns rfl ?_
                          go_wp2_with (go_at_call 13; refine (hBt.out _).mono ?_; rintro e wc ⟨rfl, hoc⟩)
                          have hO := hO.trans hoc fun _ _ => id
                          refine ⟨hO, ?_⟩
                          first | (refine wpOrd_passed rfl (by rfl) (fun _ _ _ h => h) ?_) | (refine wpOrd_guarded (v := ?_) rfl (by rfl) (fun _ _ _ h => h) ?_ ?_; rotate_left; (focus (intro W hW; go_simp; try with_reducible rfl)))
                          go_frame
                          refine wpOrd_reads (v := ?_) rfl rfl (fun _ _ _ h => h) ?_ ?_
                          rotate_left
                          · intro W hW; go_simp; try with_reducible rfl
                          go_frame
                          refine wpOrd_nil ?_
                          clear u0 u1 u2 u3 u4 t0 t1 t2 t3 t4 s0
                          go_wp2
                          · go_roundg (xs.length - (j + 1))
                            case measure => omega
                            case rel => exact ⟨j + 1, false, by simp, rfl, by omega, Lib.hid (fun e => absurd (hno.out e hDT.out) (by omega)), hoD.out.trans hO fun _ _ => id⟩
                          · go_roundg (xs.length - (j + 1))
                            case measure => omega
                            case rel => exact ⟨j + 1, bb, by simp, rfl, by omega, hbb, hoD.out.trans hO fun _ _ => id⟩
                        · have z3 := other_text hdt
                          clear hdt
                          go_wp2
                          go_quiet (fail)
                          go_wp2
                          go_roundg (xs.length - (j + 1))
                          case measure => omega
                          case rel => exact ⟨j + 1, bb, by simp, rfl, by omega, hbb, hoj.drewN _⟩
                      · cases bw
                        · go_wp2
                          go_roundg (xs.length - (k + 1))
                          case measure => omega
                          case rel =>
                            refine ⟨k + 1, bb, by simp, rfl, by omega, Lib.hid (fun h => ?_), hoj⟩
                            by_cases e : K = k
                            · exact hbb.out e
                            · exact absurd (hbw.out (by omega)) (by simp)
                        · go_wp2
                          go_roundg (xs.length - (k + 1))
                          case measure => omega
                          case rel => exact ⟨k + 1, true, by simp, rfl, by omega, Lib.hid (fun _ => rfl), hoj⟩
                  · have z1 := same_text hct
                    have z2 := other_text hcn
                    have hKn : Hid (K ≠ k) := Lib.hid fun e => hcn (hKk.out e).2
                    clear hct hcn
                    go_wp2
                    go_quiet (fail)
                    go_wp2
                    go_roundg (xs.length - (k + 1))
                    case measure => omega
                    case rel => exact ⟨k + 1, bw, by simp, rfl, by omega, Lib.hid (fun h => hbw.out (by have := hKn.out; omega)), hok.drewN _⟩
                · have z1 := other_text hct
                  have hKn : Hid (K ≠ k) := Lib.hid fun e => hct (hKk.out e).1
                  clear hct
                  go_wp2
                  go_quiet (fail)
                  go_wp2
                  go_roundg (xs.length - (k + 1))
                  case measure => omega
                  case rel => exact ⟨k + 1, bw, by simp, rfl, by omega, Lib.hid (fun h => hbw.out (by have := hKn.out; omega)), hok.drewN _⟩
              · have hke : k = xs.length := by omega
                subst hke
                have hbt := hbw.out hKl
                subst hbt
                go_wp2
                go_roundg (ga.length - (i + 1))
                case measure => omega
                case rel => exact ⟨i + 1, by simp, by omega, hok⟩
          · have z0 : decide (0 < (i : Int)) = false := by simp; omega
            go_wp2
            go_quiet (fail)
            go_wp2
            go_loopg [6, 7] (xs.length) (fun g v6 v7 wr => ∃ k : Nat, ∃ b : Bool, v7 = .int .i64 (k : Int) ∧ v6 = .bool b ∧ k + g = xs.length ∧ Hid (K < k → b = true) ∧ Only (fun _ => False) w2 wr)
            case atStart => exact ⟨0, false, rfl, rfl, by omega, Lib.hid (fun h => by omega), ho.drewN _⟩
            case round =>
              obtain ⟨k, bw, rfl, rfl, hgk, hbw, hok⟩ := hrel
              by_cases hk : k < xs.length
              · obtain ⟨c, hc⟩ : ∃ c, xs[k]? = some c := ⟨xs[k], List.getElem?_eq_getElem hk⟩
                obtain ⟨bx, ox, rfl⟩ := clm_some hX.out (show 0 < xs.length by omega)
                obtain ⟨k0, k1, k2, k3, k4⟩ := clm_read wr hX.out hok hc
                obtain ⟨q0, q1⟩ := award_read wr hA.out hok hp.out
                have hKk : Hid (K = k → c.thing = pt ∧ c.name = pn) := Lib.hid fun e => by
                  subst e
                  have := hKc.out
                  rw [hc] at this
                  injection this with this
                  subst this
                  exact ⟨hKt.out.1, hKt.out.2.1⟩
                have hC := Lib.hid hc
                clear hc
                obtain ⟨c1, c2, c3, c4, c5⟩ := c
                simp only at k0 k1 k2 k3 k4 hKk q0 q1
                by_cases hct : c2 = pt
                · by_cases hcn : c1 = pn
                  · have z1 := same_text hct
                    have z2 := same_text hcn
                    clear hct hcn
                    go_wp2
                    go_quiet (fail)
                    go_wp2
                    generalize hwr : wr.drewN _ = wj
                    have hoj : Only (fun _ => False) w2 wj := hwr ▸ hok.drewN _
                    clear hwr k0 k1 k2 k3 k4 q0 q1
                    go_loopg [8, 9] (xs.length) (fun g v8 v9 wr => ∃ j : Nat, ∃ b : Bool, v9 = .int .i64 (j : Int) ∧ v8 = .bool b ∧ j + g = xs.length ∧ Hid (K = k → b = true) ∧ Only (fun _ => False) w2 wr)
                    case atStart => exact ⟨0, true, rfl, rfl, by omega, Lib.hid (fun _ => rfl), hoj⟩
                    case round =>
                      obtain ⟨j, bb, rfl, rfl, hgj, hbb, hoj'⟩ := hrel
                      clear hok hoj
                      have hoj := hoj'
                      clear hoj'
                      by_cases hj : j < xs.length
                      · obtain ⟨d, hd⟩ : ∃ d, xs[j]? = some d := ⟨xs[j], List.getElem?_eq_getElem hj⟩
                        obtain ⟨m0, m1, m2, m3, m4⟩ := clm_read wr hX.out hoj hd
                        obtain ⟨k0, k1, k2, k3, k4⟩ := clm_read wr hX.out hoj hC.out
                        obtain ⟨q0, q1⟩ := award_read wr hA.out hoj hp.out
                        have hBt := Lib.hid (fun W => (better_any d ⟨c1, c2, c3, c4, c5⟩ W).mono (R' := fun e w' => e = .returned (.int .i64 (-cmpM d ⟨c1, c2, c3, c4, c5⟩)) ∧ Only (fun _ => False) W w') fun e w' h => ⟨h.1, h.2.only⟩)
                        have hbd := cmpM_bd d ⟨c1, c2, c3, c4, c5⟩
                        have hno : Hid (K = k → d.thing = pt → -cmpM d ⟨c1, c2, c3, c4, c5⟩ ≤ 0) := Lib.hid fun e ht => by
                          have h1 := hKc.out
                          rw [e, hC.out] at h1
                          injection h1 with h1
                          subst h1
                          exact hKt.out.2.2 d (List.mem_of_getElem? hd) (ht.trans hKt.out.1.symm)
                        generalize -cmpM d ⟨c1, c2, c3, c4, c5⟩ = nb at *
                        clear hd hbd
                        obtain ⟨d1, d2, d3, d4, d5⟩ := d
                        simp only [cVal] at m0 m1 m2 m3 m4 k0 k1 k2 k3 k4 hBt hno q0 q1
                        by_cases hdt : d2 = pt
                        · have z3 := same_text hdt
                          have hDT := Lib.hid hdt
                          clear hdt
                          have u0 : ∀ W, Only (fun _ => False) wr.drew W → W.cell? ⟨bx, ox + j * 5, none⟩ = some (.string d1) := fun W hW => hW.cellF m0
                          have u1 : ∀ W, Only (fun _ => False) wr.drew W → W.cell? ⟨bx, ox + j * 5 + 1, none⟩ = some (.string d2) := fun W hW => hW.cellF m1
                          have u2 : ∀ W, Only (fun _ => False) wr.drew W → W.cell? ⟨bx, ox + j * 5 + 2, none⟩ = some (.int .i64 d3) := fun W hW => hW.cellF m2
                          have u3 : ∀ W, Only (fun _ => False) wr.drew W → W.cell? ⟨bx, ox + j * 5 + 3, none⟩ = some (.int .i64 d4) := fun W hW => hW.cellF m3
                          have u4 : ∀ W, Only (fun _ => False) wr.drew W → W.cell? ⟨bx, ox + j * 5 + 4, none⟩ = some (.int .i64 d5) := fun W hW => hW.cellF m4
                          have t0 : ∀ W, Only (fun _ => False) wr.drew W → W.cell? ⟨bx, ox + k * 5, none⟩ = some (.string c1) := fun W hW => hW.cellF k0
                          have t1 : ∀ W, Only (fun _ => False) wr.drew W → W.cell? ⟨bx, ox + k * 5 + 1, none⟩ = some (.string c2) := fun W hW => hW.cellF k1
                          have t2 : ∀ W, Only (fun _ => False) wr.drew W → W.cell? ⟨bx, ox + k * 5 + 2, none⟩ = some (.int .i64 c3) := fun W hW => hW.cellF k2
                          have t3 : ∀ W, Only (fun _ => False) wr.drew W → W.cell? ⟨bx, ox + k * 5 + 3, none⟩ = some (.int .i64 c4) := fun W hW => hW.cellF k3
                          have t4 : ∀ W, Only (fun _ => False) wr.drew W → W.cell? ⟨bx, ox + k * 5 + 4, none⟩ = some (.int .i64 c5) := fun W hW => hW.cellF k4
                          have s0 : ∀ W, Only (fun _ => False) wr.drew W → W.cell? ⟨ba, oa + i * 2, none⟩ = some (.string pt) := fun W hW => hW.cellF q0
                          clear m0 m1 m2 m3 m4 k0 k1 k2 k3 k4 q0 q1
                          go_wp2
                          have hO := Only.refl (fun _ => False) wr.drew
                          have hoD := Lib.hid hoj.drew
                          refine wp_region_ord (.read 0 (.read 1 (.read 2 (.read 3 (.read 4 (.read 5 (.read 6 (.read 7 (.read 8 (.read 9 (.read 10 (.read 11 (.read 12 (.read 13 (.read 14 (.read 15 (.read 16 (.read 17 (.read 18 (.read 19 (.turn 20 (.read 21 (.read 22 .stop))))))))))))))))))))))) (Only (fun _ => False) wr.drew) (by kernel_rfl) (by kernel_rfl) (by kernel_rfl) (by first | exact Only.refl _ _ | assumption) ?_
                          refine wpOrd_reads (v := ?_) rfl rfl (fun _ _ _ h => h) ?_ ?_
                          rotate_left
                          · intro W hW; go_simp; try with_reducible rfl
                          go_frame
                          refine wpOrd_reads (v := ?_) rfl rfl (fun _ _ _ h => h) ?_ ?_
                          rotate_left
                          · intro W hW; go_simp; try with_reducible rfl
                          go_frame
                          refine wpOrd_reads (v := ?_) rfl rfl (fun _ _ _ h => h) ?_ ?_
                          rotate_left
                          · intro W hW; go_simp; try with_reducible rfl
                          go_frame
                          refine wpOrd_reads (v := ?_) rfl rfl (fun _ _ _ h => h) ?_ ?_
                          rotate_left
                          · intro W hW; go_simp; try with_reducible rfl
                          go_frame
                          refine wpOrd_reads (v := ?_) rfl rfl (fun _ _ _ h => h) ?_ ?_
                          rotate_left
                          · intro W hW; go_simp; try with_reducible rfl
                          go_frame
                          refine wpOrd_reads (v := ?_) rfl rfl (fun _ _ _ h => h) ?_ ?_
                          rotate_left
                          · intro W hW; go_simp; try with_reducible rfl
                          go_frame
                          refine wpOrd_reads (v := ?_) rfl rfl (fun _ _ _ h => h) ?_ ?_
                          rotate_left
                          · intro W hW; go_simp; try with_reducible rfl
                          go_frame
                          refine wpOrd_reads (v := ?_) rfl rfl (fun _ _ _ h => h) ?_ ?_
                          rotate_left
                          · intro W hW; go_simp; try with_reducible rfl
                          go_frame
                          refine wpOrd_reads (v := ?_) rfl rfl (fun _ _ _ h => h) ?_ ?_
                          rotate_left
                          · intro W hW; go_simp; try with_reducible rfl
                          go_frame
                          refine wpOrd_reads (v := ?_) rfl rfl (fun _ _ _ h => h) ?_ ?_
                          rotate_left
                          · intro W hW; go_simp; try with_reducible rfl
                          go_frame
                          refine wpOrd_reads (v := ?_) rfl rfl (fun _ _ _ h => h) ?_ ?_
                          rotate_left
                          · intro W hW; go_simp; try with_reducible rfl
                          go_frame
                          refine wpOrd_reads (v := ?_) rfl rfl (fun _ _ _ h => h) ?_ ?_
                          rotate_left
                          · intro W hW; go_simp; try with_reducible rfl
                          go_frame
                          first | (refine wpOrd_passed rfl (by rfl) (fun _ _ _ h => h) ?_) | (refine wpOrd_guarded (v := ?_) rfl (by rfl) (fun _ _ _ h => h) ?_ ?_; rotate_left; (focus (intro W hW; go_simp; try with_reducible rfl)))
                          go_frame
                          first | (refine wpOrd_passed rfl (by rfl) (fun _ _ _ h => h) ?_) | (refine wpOrd_guarded (v := ?_) rfl (by rfl) (fun _ _ _ h => h) ?_ ?_; rotate_left; (focus (intro W hW; go_simp; try with_reducible rfl)))
                          go_frame
                          first | (refine wpOrd_passed rfl (by rfl) (fun _ _ _ h => h) ?_) | (refine wpOrd_guarded (v := ?_) rfl (by rfl) (fun _ _ _ h => h) ?_ ?_; rotate_left; (focus (intro W hW; go_simp; try with_reducible rfl)))
                          go_frame
                          first | (refine wpOrd_passed rfl (by rfl) (fun _ _ _ h => h) ?_) | (refine wpOrd_guarded (v := ?_) rfl (by rfl) (fun _ _ _ h => h) ?_ ?_; rotate_left; (focus (intro W hW; go_simp; try with_reducible rfl)))
                          go_frame
                          first | (refine wpOrd_passed rfl (by rfl) (fun _ _ _ h => h) ?_) | (refine wpOrd_guarded (v := ?_) rfl (by rfl) (fun _ _ _ h => h) ?_ ?_; rotate_left; (focus (intro W hW; go_simp; try with_reducible rfl)))
                          go_frame
                          first | (refine wpOrd_passed rfl (by rfl) (fun _ _ _ h => h) ?_) | (refine wpOrd_guarded (v := ?_) rfl (by rfl) (fun _ _ _ h => h) ?_ ?_; rotate_left; (focus (intro W hW; go_simp; try with_reducible rfl)))
                          go_frame
                          first | (refine wpOrd_passed rfl (by rfl) (fun _ _ _ h => h) ?_) | (refine wpOrd_guarded (v := ?_) rfl (by rfl) (fun _ _ _ h => h) ?_ ?_; rotate_left; (focus (intro W hW; go_simp; try with_reducible rfl)))
                          go_frame
                          first | (refine wpOrd_passed rfl (by rfl) (fun _ _ _ h => h) ?_) | (refine wpOrd_guarded (v := ?_) rfl (by rfl) (fun _ _ _ h => h) ?_ ?_; rotate_left; (focus (intro W hW; go_simp; try with_reducible rfl)))
                          go_frame
                          refine wpOrd_turns rfl ?_
                          go_wp2_with (go_at_call 13; refine (hBt.out _).mono ?_; rintro e wc ⟨rfl, hoc⟩)
                          have hO := hO.trans hoc fun _ _ => id
                          refine ⟨hO, ?_⟩
                          first | (refine wpOrd_passed rfl (by rfl) (fun _ _ _ h => h) ?_) | (refine wpOrd_guarded (v := ?_) rfl (by rfl) (fun _ _ _ h => h) ?_ ?_; rotate_left; (focus (intro W hW; go_simp; try with_reducible rfl)))
                          go_frame
                          refine wpOrd_reads (v := ?_) rfl rfl (fun _ _ _ h => h) ?_ ?_
                          rotate_left
                          · intro W hW; go_simp; try with_reducible rfl
                          go_frame
                          refine wpOrd_nil ?_
                          clear u0 u1 u2 u3 u4 t0 t1 t2 t3 t4 s0
                          go_wp2
                          · go_roundg (xs.length - (j + 1))
                            case measure => omega
                            case rel => exact ⟨j + 1, false, by simp, rfl, by omega, Lib.hid (fun e => absurd (hno.out e hDT.out) (by omega)), hoD.out.trans hO fun _ _ => id⟩
                          · go_roundg (xs.length - (j + 1))
                            case measure => omega
                            case rel => exact ⟨j + 1, bb, by simp, rfl, by omega, hbb, hoD.out.trans hO fun _ _ => id⟩
                        · have z3 := other_text hdt
                          clear hdt
                          go_wp2
                          go_quiet (fail)
                          go_wp2
                          go_roundg (xs.length - (j + 1))
                          case measure => omega
                          case rel => exact ⟨j + 1, bb, by simp, rfl, by omega, hbb, hoj.drewN _⟩
                      · cases bw
                        · go_wp2
                          go_roundg (xs.length - (k + 1))
                          case measure => omega
                          case rel =>
                            refine ⟨k + 1, bb, by simp, rfl, by omega, Lib.hid (fun h => ?_), hoj⟩
                            by_cases e : K = k
                            · exact hbb.out e
                            · exact absurd (hbw.out (by omega)) (by simp)
                        · go_wp2
                          go_roundg (xs.length - (k + 1))
                          case measure => omega
                          case rel => exact ⟨k + 1, true, by simp, rfl, by omega, Lib.hid (fun _ => rfl), hoj⟩
                  · have z1 := same_text hct
                    have z2 := other_text hcn
                    have hKn : Hid (K ≠ k) := Lib.hid fun e => hcn (hKk.out e).2
                    clear hct hcn
                    go_wp2
                    go_quiet (fail)
                    go_wp2
                    go_roundg (xs.length - (k + 1))
                    case measure => omega
                    case rel => exact ⟨k + 1, bw, by simp, rfl, by omega, Lib.hid (fun h => hbw.out (by have := hKn.out; omega)), hok.drewN _⟩
                · have z1 := other_text hct
                  have hKn : Hid (K ≠ k) := Lib.hid fun e => hct (hKk.out e).1
                  clear hct
                  go_wp2
                  go_quiet (fail)
                  go_wp2
                  go_roundg (xs.length - (k + 1))
                  case measure => omega
                  case rel => exact ⟨k + 1, bw, by simp, rfl, by omega, Lib.hid (fun h => hbw.out (by have := hKn.out; omega)), hok.drewN _⟩
              · have hke : k = xs.length := by omega
                subst hke
                have hbt := hbw.out hKl
                subst hbt
                go_wp2
                go_roundg (ga.length - (i + 1))
                case measure => omega
                case rel => exact ⟨i + 1, by simp, by omega, hok⟩
        · go_wp2
          go_loopg [10] (xs.length) (fun g v10 wr => ∃ k : Nat, v10 = .int .i64 (k : Int) ∧ k + g = xs.length ∧ Only (fun _ => False) w2 wr)
          case atStart => exact ⟨0, rfl, by omega, ho⟩
          case round =>
            clear ho hg hi
            obtain ⟨k, rfl, hg, ho⟩ := hrel
            by_cases hk : k < xs.length
            · obtain ⟨c, hc⟩ : ∃ c, xs[k]? = some c := ⟨xs[k], List.getElem?_eq_getElem hk⟩
              obtain ⟨bx, ox, rfl⟩ := clm_some hX.out (show 0 < xs.length by omega)
              obtain ⟨I, pI, hIl, hI0, hIt⟩ := all_at hG.out hc
              have hIP := Lib.hid (And.intro hI0 hIt)
              have hC := Lib.hid hc
              clear hI0 hIt hc
              go_wp2
              go_loopg [11, 12] (ga.length) (fun g v11 v12 wr => ∃ i : Nat, ∃ b : Bool, v12 = .int .i64 (i : Int) ∧ v11 = .bool b ∧ i + g = ga.length ∧ Hid (I < i → b = true) ∧ Only (fun _ => False) w2 wr)
              case atStart => exact ⟨0, false, rfl, rfl, by omega, Lib.hid (fun h => by omega), ho⟩
              case round =>
                obtain ⟨i, bf, rfl, rfl, hgi, hbf, hoi⟩ := hrel
                by_cases hi : i < ga.length
                · cases bf
                  · obtain ⟨⟨pt, pn⟩, hp⟩ : ∃ p, ga[i]? = some p := ⟨ga[i], List.getElem?_eq_getElem hi⟩
                    obtain ⟨ba, oa, rfl⟩ := award_some hA.out hi
                    obtain ⟨q0, q1⟩ := award_read wr hA.out hoi hp
                    obtain ⟨k0, k1, k2, k3, k4⟩ := clm_read wr hX.out hoi hC.out
                    have hne : Hid (pt ≠ c.thing → I ≠ i) := Lib.hid fun h e => by
                      subst e
                      have := hIP.out.1
                      rw [hp] at this
                      injection this with this
                      have h2 := hIP.out.2
                      rw [← this] at h2
                      exact h h2
                    clear hp
                    obtain ⟨c1, c2, c3, c4, c5⟩ := c
                    simp only at q0 q1 k0 k1 k2 k3 k4 hne
                    by_cases he : pt = c2
                    · have z1 := same_text he
                      clear he
                      go_wp2
                      go_quiet (fail)
                      go_wp2
                      go_roundg (ga.length - (i + 1))
                      case measure => omega
                      case rel => exact ⟨i + 1, true, by simp, rfl, by omega, Lib.hid (fun _ => rfl), hoi.drewN _⟩
                    · have z1 := other_text he
                      have hIn := Lib.hid (hne.out he)
                      clear he
                      go_wp2
                      go_quiet (fail)
                      go_wp2
                      go_roundg (ga.length - (i + 1))
                      case measure => omega
                      case rel => exact ⟨i + 1, false, by simp, rfl, by omega, Lib.hid (fun h => hbf.out (by have := hIn.out; omega)), hoi.drewN _⟩
                  · go_wp2
                    go_quiet (fail)
                    go_wp2
                    go_roundg (ga.length - (i + 1))
                    case measure => omega
                    case rel => exact ⟨i + 1, true, by simp, rfl, by omega, Lib.hid (fun _ => rfl), hoi.drewN _⟩
                · have hie : i = ga.length := by omega
                  subst hie
                  have hbt := hbf.out hIl
                  subst hbt
                  go_wp2
                  go_roundg (xs.length - (k + 1))
                  case measure => omega
                  case rel => exact ⟨k + 1, by simp, by omega, hoi⟩
            · go_wp2
              go_ret
              exact ⟨rfl, hOw.out.trans ho fun _ _ => id⟩
    · have hMn := Lib.hid (fun W (ho : Only (fun _ => False) w W) => award_no W (h.quiet ho) hr.short (by omega) hme)
      have hne : (allM xs != 0) = true := by simpa using hme
      clear hfb hr hme hsz hsp
      generalize allM xs = er at *
      obtain ⟨A, c, rfl, _⟩ := h
      go_enter Tryz.func6, Tryz.ntmps6
      go_wp2_with (first
        | (go_at_call 10; refine (hAk.out _).mono ?_; clear hAk; rintro e w1 ⟨rfl, ho1⟩)
        | (go_at_call 11; have hc := hFw.out _ ho1; refine hc.mono ?_; clear hc hFw; rintro e w2 ⟨rfl, ho2⟩; have ho1 := ho1.trans ho2 fun _ _ => id)
        | (go_at_call 22; have hc := hMn.out _ ho1; refine hc.mono ?_; clear hc hMn; rintro e w3 ⟨rfl, ho3⟩))
      go_ret
      exact ⟨rfl, ho1.trans ho3 fun _ _ => id⟩
end Go.Proofs.YteecfjkljmmecaaGreat
