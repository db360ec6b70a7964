/- WALK: the reference's Money. -/
import Derived.Test.YteecfjkljmmecaaGreatSq
namespace Go.Proofs.YteecfjkljmmecaaGreat
open Go.RowKit Go.Sort Go.Shelf
theorem state_bd {pot : Int} {l : List Clm} (hm : ∀ c ∈ l, mayB c = true) (h0 : 0 ≤ pot) (R j : Nat) : 0 ≤ (stateM pot l R).1[j]?.getD 0 ∧ (stateM pot l R).1[j]?.getD 0 ≤ 1099511627776 := by
  cases hj : l[j]? with
  | none =>
    have : (stateM pot l R).1[j]? = none := by rw [List.getElem?_eq_none_iff, stateM_length]; exact List.getElem?_eq_none_iff.1 hj
    rw [this]
    simp
  | some c =>
    have hc := may_amt (hm c (List.mem_of_getElem? hj))
    rw [got_at hj hc.1 R]
    simp only [Option.getD_some]
    split
    · unfold shareAt
      by_cases hf : potAt pot l c.right.toNat < sumI (amountsM l c.right.toNat)
      · obtain ⟨x, h1, _, _, h4, h5⟩ := split_bd (potAt_nonneg hm h0 c.right.toNat) (fun w hw => (amounts_may hm _ w hw).1) hf (amount_pos hm hj)
        rw [if_pos hf, h1]
        simp only [Option.getD_some]
        omega
      · rw [if_neg hf, amount_pos hm hj]
        simp only [Option.getD_some]
        omega
    · omega
theorem pad_bd {l : List Clm} (hm : ∀ c ∈ l, mayB c = true) (r : Int) : ∀ x ∈ padM l r, 0 ≤ x ∧ x ≤ 1099511627776 := fun x hx => by
  obtain ⟨c, hc, rfl⟩ := List.mem_map.1 hx
  have := may_amt (hm c hc)
  split <;> omega
theorem pad_length (l : List Clm) (r : Int) : (padM l r).length = l.length := by unfold padM; rw [List.length_map]
/-- One round, told over all. -/
theorem state_full {pot : Int} {l : List Clm} (hm : ∀ c ∈ l, mayB c = true) (h0 : 0 ≤ pot) (R : Nat) (hf : ¬ potAt pot l R < sumI (padM l R)) {i : Nat} (hi : i < l.length) : (stateM pot l (R + 1)).1[i]?.getD 0 = (stateM pot l R).1[i]?.getD 0 + (padM l R)[i]?.getD 0 := by
  rw [state_pad hm h0 R (List.getElem?_eq_getElem hi), if_neg hf]
theorem state_part {pot : Int} {l : List Clm} (hm : ∀ c ∈ l, mayB c = true) (h0 : 0 ≤ pot) (R : Nat) (hf : potAt pot l R < sumI (padM l R)) {i : Nat} (hi : i < l.length) : (stateM pot l (R + 1)).1[i]?.getD 0 = (stateM pot l R).1[i]?.getD 0 + (splitM (potAt pot l R) (padM l R))[i]?.getD 0 := by
  rw [state_pad hm h0 R (List.getElem?_eq_getElem hi), if_pos hf]
def RefMoneyPost (pot : Int) (xs : List Clm) (w : World) (e : Ending) (w' : World) : Prop := ∃ v', e = .returned (.tuple #[v', .int .i64 (moneyM pot xs).2]) ∧ ReadsI w' v' (moneyM pot xs).1 ∧ Only (fun _ => False) w w'
theorem mix_step {N O : Nat → Int} {i : Nat} (j : Nat) : (if j = i then Value.int .i64 (N i) else .int .i64 (if j < i then N j else O j)) = .int .i64 (if j < i + 1 then N j else O j) := by
  by_cases h : j = i
  · subst h; simp
  · rw [if_neg h]
    by_cases hj : j < i
    · rw [if_pos hj, if_pos (by omega)]
    · rw [if_neg hj, if_neg (by omega)]
set_option maxHeartbeats 16000000 in
set_option maxRecDepth 100000 in
theorem refMoney_any (w : World) (pot : Int) {v : Value} {xs : List Clm} (h : ReadsC w v xs) (hm : ∀ c ∈ xs, mayB c = true) (p0 : 0 ≤ pot) (p1 : pot ≤ 1099511627776) (hl : xs.length ≤ 4096) : Calls Tryz.prog 20 #[.int .i64 pot, v] w (RefMoneyPost pot xs w) := by
  have hX := Lib.hid h
  have hM := Lib.hid hm
  have hm1 := run_make_row' (P := Tryz.prog) 35 2 (.int .i64 0) 8 Tryz.underlying35 info2 rfl .i64 .i64 xs.length (by omega) (by omega)
  have hSB := Lib.hid (fun R j => state_bd hm p0 R j)
  have hPN := Lib.hid (fun r => potAt_nonneg hm p0 r)
  have hPL := Lib.hid (fun r => potAt_le hm p0 0 r)
  clear hm
  obtain ⟨A, c, rfl, _⟩ := h
  go_enter Tryz.func20, Tryz.ntmps20
  go_wp2
  generalize hw1 : w.alloc (Obj.cells (madeCells #[Value.int IntKind.i64 0] xs.length) 2) = w1
  have hr1 : Hid (w1.rowIs w.heap.size 2 xs.length (fun j => .int .i64 ((stateM pot xs 0).1[j]?.getD 0))) := Lib.hid (by
    subst hw1
    exact (World.rowIs_made _ _ _ _).congr fun j hj => by simp [stateM, hj])
  have ho1 : Hid (Only (fun _ => False) w w1) := Lib.hid (by subst hw1; exact (Only.refl _ _).alloc _)
  have hs1 : w.heap.size < w1.heap.size := by subst hw1; simp
  clear hw1
  generalize hob : w.heap.size = ob at *
  go_loopg [0, 7] (5) (fun g v0 v7 wr => ∃ r : Nat, v7 = .int .i64 (r : Int) ∧ v0 = .int .i64 (potAt pot xs r) ∧ r + g = 5 ∧ Hid (wr.rowIs ob 2 xs.length (fun j => .int .i64 ((stateM pot xs r).1[j]?.getD 0))) ∧ Hid (Only (fun _ => False) w wr) ∧ ob < wr.heap.size)
  case atStart => exact ⟨0, rfl, rfl, by omega, hr1, ho1, hs1⟩
  case round =>
    obtain ⟨r, rfl, rfl, hg, hrow, ho, hsz⟩ := hrel
    have q0 := hPN.out r
    have q1 := hPL.out r
    rw [Nat.zero_add, potAt_zero] at q1
    generalize wr = wo at *
    by_cases hr5 : r < 5
    · have hrb : decide ((r : Int) < 5) = true := by simp; omega
      have hfull := Lib.hid (fun hf i (hi : i < xs.length) => state_full (pot := pot) hM.out p0 r hf hi)
      have hpart := Lib.hid (fun hf i (hi : i < xs.length) => state_part (pot := pot) hM.out p0 r hf hi)
      have hstep : Hid (potAt pot xs (r + 1) = if potAt pot xs r < sumI (padM xs r) then 0 else potAt pot xs r - sumI (padM xs r)) := Lib.hid (by rw [potAt_step, padM_sum])
      have hpb := Lib.hid (pad_bd hM.out (r : Int))
      have hpl := Lib.hid (pad_length xs (r : Int))
      have hpa := Lib.hid (fun i c (hc : xs[i]? = some c) => padM_at (r := (r : Int)) hc)
      have hOb : Hid (∀ i : Nat, (0 : Int) ≤ (stateM pot xs r).1[i]?.getD 0 ∧ (stateM pot xs r).1[i]?.getD 0 ≤ 1099511627776) := Lib.hid fun i => hSB.out r i
      have hNb : Hid (∀ i : Nat, (0 : Int) ≤ (stateM pot xs (r + 1)).1[i]?.getD 0 ∧ (stateM pot xs (r + 1)).1[i]?.getD 0 ≤ 1099511627776) := Lib.hid fun i => hSB.out (r + 1) i
      generalize padM xs r = pd at *
      generalize potAt pot xs r = pt at *
      go_wp2
      generalize hw2 : wo.alloc (Obj.cells (madeCells #[Value.int IntKind.i64 0] xs.length) 2) = w2
      have hwd : Hid (w2.rowIs wo.heap.size 2 xs.length (fun j => .int .i64 (if j < 0 then pd[j]?.getD 0 else 0))) := Lib.hid (by subst hw2; exact (World.rowIs_made _ _ _ _).congr fun j hj => by simp)
      have hro : Hid (w2.rowIs ob 2 xs.length (fun j => .int .i64 ((stateM pot xs r).1[j]?.getD 0))) := Lib.hid (by subst hw2; exact hrow.out.alloc _)
      have hxo : Hid (Only (fun _ => False) w w2) := Lib.hid (by subst hw2; exact ho.out.alloc _)
      have hsw : wo.heap.size < w2.heap.size := by subst hw2; simp
      clear hw2 hrow ho
      generalize hwb : wo.heap.size = wb at *
      go_loopg [9, 10] (xs.length) (fun g v9 v10 wr => ∃ i : Nat, v10 = .int .i64 (i : Int) ∧ v9 = .int .i64 (sumI (pd.take i)) ∧ i + g = xs.length ∧ Hid (wr.rowIs wb 2 xs.length (fun j => .int .i64 (if j < i then pd[j]?.getD 0 else 0))) ∧ Hid (Only (fun b => b = wb) w2 wr))
      case atStart => exact ⟨0, rfl, rfl, by omega, hwd, Lib.hid (Only.refl _ _)⟩
      case round =>
        obtain ⟨i, rfl, rfl, hgi, hwr, how⟩ := hrel
        by_cases hi : i < xs.length
        · obtain ⟨x, hx⟩ : ∃ x, xs[i]? = some x := ⟨xs[i], List.getElem?_eq_getElem hi⟩
          have hxw : Only (fun _ => False) w wr := hxo.out.new how.out (by omega)
          obtain ⟨b, off, rfl⟩ := clm_some hX.out (by omega)
          obtain ⟨k0, k1, k2, k3, k4⟩ := clm_read wr hX.out hxw hx
          have hpx := hpa.out i x hx
          have hst := Lib.hid (sumI_take hpx)
          have hs0 := sum_nonneg (l := pd.take i) fun y hy => (hpb.out y (List.mem_of_mem_take hy)).1
          have hs2 := sum_le (l := pd.take i) (m := 1099511627776) fun y hy => (hpb.out y (List.mem_of_mem_take hy)).2
          have hs3 : (pd.take i).length ≤ 4096 := by simp; omega
          have hx5 := (may_amt (hM.out x (List.mem_of_getElem? hx))).2.2
          have kw := hwr.out.cell hi
          have fw := hwr.out.frozen i
          have hPX := Lib.hid hpx
          clear hx hpx hxw
          obtain ⟨c1, c2, c3, c4, c5⟩ := x
          simp only at k0 k1 k2 k3 k4 hst hx5 hPX
          generalize hq : sumI (pd.take i) = q at *
          generalize (pd.take i).length = ll at *
          have hq' := Lib.hid hq
          clear hq
          by_cases hcr : c3 = (r : Int)
          · rw [if_pos hcr] at hst hPX
            have hb : (c3 == (r : Int)) = true := by simpa using hcr
            clear hcr
            go_wp2
            go_roundg (xs.length - (i + 1))
            case measure => omega
            case rel =>
              refine ⟨i + 1, by simp, by rw [hst.out], by omega, Lib.hid ?_, Lib.hid (how.out.setCell (fun _ => rfl) _)⟩
              exact (hwr.out.set i _).congr fun j _ => by
                have := mix_step (N := fun j => pd[j]?.getD 0) (O := fun _ => 0) (i := i) j
                simp only [hPX.out, Option.getD_some] at this
                exact this
          · rw [if_neg hcr] at hst hPX
            have hb : (c3 == (r : Int)) = false := by simpa using hcr
            clear hcr
            go_wp2
            go_roundg (xs.length - (i + 1))
            case measure => omega
            case rel =>
              refine ⟨i + 1, by simp, by rw [hst.out]; simp, by omega, Lib.hid (hwr.out.congr fun j hj => ?_), how⟩
              by_cases e : j = i
              · subst e
                rw [if_neg (Nat.lt_irrefl j), if_pos (by omega), hPX.out]
                rfl
              · by_cases hj : j < i
                · rw [if_pos hj, if_pos (by omega)]
                · rw [if_neg hj, if_neg (by omega)]
        · have hie : i = xs.length := by omega
          subst hie
          rw [← hpl.out, List.take_length]
          rw [hpl.out]
          have hxw := Lib.hid (hxo.out.new how.out (show w.heap.size ≤ wb by omega))
          have hwf : Hid (wr.rowIs wb 2 xs.length (fun j => .int .i64 (pd[j]?.getD 0))) := Lib.hid (hwr.out.congr fun j hj => by rw [if_pos hj])
          have hof : Hid (wr.rowIs ob 2 xs.length (fun j => .int .i64 (if j < 0 then (stateM pot xs (r + 1)).1[j]?.getD 0 else (stateM pot xs r).1[j]?.getD 0))) := Lib.hid ((rowIs_only hro.out how.out (by omega)).congr fun j _ => by simp)
          have hwsz : wb < wr.heap.size := hwf.out.lt
          have hS0 := sum_nonneg fun y hy => (hpb.out y hy).1
          have hS1 := sum_le fun y hy => (hpb.out y hy).2
          rw [hpl.out] at hS1
          clear hwd hro hxo hwr how
          generalize wr = w3 at *
          have hAmR : Hid (ReadsI w3 (.slice (some ⟨wb, 0, none⟩) xs.length xs.length) pd) := Lib.hid (reads_row hwf.out hpl.out fun i x hx => by rw [hx]; rfl)
          generalize hNN : (fun j : Nat => (stateM pot xs (r + 1)).1[j]?.getD 0) = NN
          generalize hOO : (fun j : Nat => (stateM pot xs r).1[j]?.getD 0) = OO
          have eN := Lib.hid (fun j => congrFun hNN j)
          have eO := Lib.hid (fun j => congrFun hOO j)
          have hof' : Hid (w3.rowIs ob 2 xs.length (fun j => .int .i64 (if j < 0 then NN j else OO j))) := Lib.hid (by rw [← hNN, ← hOO]; exact hof.out)
          have hNb' : Hid (∀ i : Nat, (0 : Int) ≤ NN i ∧ NN i ≤ 1099511627776) := Lib.hid (by rw [← hNN]; exact hNb.out)
          have hOb' : Hid (∀ i : Nat, (0 : Int) ≤ OO i ∧ OO i ≤ 1099511627776) := Lib.hid (by rw [← hOO]; exact hOb.out)
          clear hof hNb hOb hNN hOO
          have hof := hof'
          have hNb := hNb'
          have hOb := hOb'
          clear hof' hNb' hOb'
          by_cases hf : pt < sumI pd
          · have hN : Hid (∀ i, i < xs.length → NN i = OO i + (refSplitM pt pd)[i]?.getD 0) := Lib.hid fun i hi => by
              have h1 := hpart.out (by omega) i hi
              have h2 : refSplitM pt pd = splitM pt pd := by unfold refSplitM; rw [if_neg (by omega)]
              rw [← eN.out, ← eO.out, h2]
              exact h1
            have hnext : Hid (potAt pot xs (r + 1) = 0) := Lib.hid (by rw [hstep.out, if_pos hf])
            have hlm : (refSplitM pt pd).length = xs.length := by
              unfold refSplitM
              rw [if_neg (by omega), splitM_length, hpl.out]
            have hal := Lib.hid hlm
            clear hlm
            have hle : decide (sumI pd ≤ pt) = false := by simp; omega
            have hRS := Lib.hid (refSplit_any w3 pt hAmR.out q0 (by omega) hpb.out (by rw [hpl.out]; exact hl))
            clear hfull hpart hstep hAmR
            go_wp2_with (go_at_call 32; refine (hRS.out).mono ?_; clear hRS; rintro e w4 ⟨v4, rfl, hAm0, hq4, hb4⟩; generalize refSplitM pt pd = am at *; obtain ⟨wA, wc, rfl, _⟩ := id hAm0; rw [hal.out])
            have hof4 := Lib.hid (rowIs_only hof.out hq4 not_false)
            have hxw4 := Lib.hid (hxw.out.andQuiet hq4)
            have hab : Hid (∀ b, (Value.slice wA am.length wc).ownBlock = some b → ¬ b = ob) := Lib.hid fun b hb e => by
              have := hb4 b hb
              omega
            have hAm := Lib.hid hAm0
            clear hof hxw hAm0 hq4 hb4
            generalize w3.heap.size = s3 at *
            have hwsz4 : ob < w4.heap.size := hof4.out.lt
            have hxw := hxw4
            clear hxw4
            go_loopg [13] (xs.length) (fun g v13 wr => ∃ i : Nat, v13 = .int .i64 (i : Int) ∧ i + g = xs.length ∧ Hid (wr.rowIs ob 2 xs.length (fun j => .int .i64 (if j < i then NN j else OO j))) ∧ Hid (Only (fun b => b = ob) w4 wr))
            case atStart => exact ⟨0, rfl, by omega, hof4, Lib.hid (Only.refl _ _)⟩
            case round =>
              obtain ⟨i, rfl, hgi, hoi, hol⟩ := hrel
              by_cases hi : i < xs.length
              · have kO := hoi.out.cell hi
                rw [if_neg (Nat.lt_irrefl i)] at kO
                have fO := hoi.out.frozen i
                have ia : i < am.length := by rw [hal.out]; exact hi
                obtain ⟨a, ha⟩ : ∃ a, am[i]? = some a := ⟨am[i], List.getElem?_eq_getElem ia⟩
                have hAw := hAm.out.only hol.out hab.out
                obtain ⟨ba, oa, rfl⟩ := int_some hAw ia
                have kA := int_read wr hAw (Only.refl _ _) ha
                have hna := Lib.hid (by have := hN.out i hi; rw [ha] at this; exact this : NN i = OO i + a)
                have b1 := hNb.out i
                have b2 := hOb.out i
                have b3 : 0 ≤ OO i + a ∧ OO i + a ≤ 1099511627776 := by rw [← hna.out]; exact b1
                obtain ⟨b31, b32⟩ := b3
                clear ha b1 hAw
                generalize hoi' : OO i = oi at *
                have hoi2 := Lib.hid hoi'
                clear hoi'
                have hwrp : IntKind.i64.wrap (oi + a) = oi + a := IntWalk.i64_in _ (by omega)
                have u0 : ∀ W, Only (fun _ => False) wr.drew W → W.cell? ⟨ob, i, none⟩ = some (.int .i64 oi) := fun W hW => hW.cellF kO
                have u1 : ∀ W, Only (fun _ => False) wr.drew W → W.cell? ⟨ba, oa + i, none⟩ = some (.int .i64 a) := fun W hW => hW.cellF kA
                go_wp2
                refine wp_region_ord (.read 0 (.read 1 (.read 2 (.read 3 (.read 4 (.read 5 (.read 6 (.read 7 (.read 8 (.read 9 (.read 10 (.read 11 (.last 12))))))))))))) (Only (fun _ => False) _) (by kernel_rfl) (by kernel_rfl) (by kernel_rfl) (by first | exact Only.refl _ _ | assumption) ?_
                refine wpOrd_reads (v := ?_) rfl rfl (fun _ _ _ h => h) ?_ ?_
                rotate_left
                · intro W hW; go_simp; try with_reducible rfl
                go_frame
                refine wpOrd_reads (v := ?_) rfl rfl (fun _ _ _ h => h) ?_ ?_
                rotate_left
                · intro W hW; go_simp; try with_reducible rfl
                go_frame
                refine wpOrd_reads (v := ?_) rfl rfl (fun _ _ _ h => h) ?_ ?_
                rotate_left
                · intro W hW; go_simp; try with_reducible rfl
                go_frame
                refine wpOrd_reads (v := ?_) rfl rfl (fun _ _ _ h => h) ?_ ?_
                rotate_left
                · intro W hW; go_simp; try with_reducible rfl
                go_frame
                refine wpOrd_reads (v := ?_) rfl rfl (fun _ _ _ h => h) ?_ ?_
                rotate_left
                · intro W hW; go_simp; try with_reducible rfl
                go_frame
                refine wpOrd_reads (v := ?_) rfl rfl (fun _ _ _ h => h) ?_ ?_
                rotate_left
                · intro W hW; go_simp; try with_reducible rfl
                go_frame
                refine wpOrd_reads (v := ?_) rfl rfl (fun _ _ _ h => h) ?_ ?_
                rotate_left
                · intro W hW; go_simp; try with_reducible rfl
                go_frame
                refine wpOrd_reads (v := ?_) rfl rfl (fun _ _ _ h => h) ?_ ?_
                rotate_left
                · intro W hW; go_simp; try with_reducible rfl
                go_frame
                refine wpOrd_reads (v := ?_) rfl rfl (fun _ _ _ h => h) ?_ ?_
                rotate_left
                · intro W hW; go_simp; try with_reducible rfl
                go_frame
                refine wpOrd_reads (v := ?_) rfl rfl (fun _ _ _ h => h) ?_ ?_
                rotate_left
                · intro W hW; go_simp; try with_reducible rfl
                go_frame
                refine wpOrd_reads (v := ?_) rfl rfl (fun _ _ _ h => h) ?_ ?_
                rotate_left
                · intro W hW; go_simp; try with_reducible rfl
                go_frame
                refine wpOrd_reads (v := ?_) rfl rfl (fun _ _ _ h => h) ?_ ?_
                rotate_left
                · intro W hW; go_simp; try with_reducible rfl
                go_frame
                refine wpOrd_lasts rfl ?_
                go_wp2
                refine ⟨trivial, ?_⟩
                go_wp2_with fail
                go_roundg (xs.length - (i + 1))
                case measure => omega
                case rel =>
                  refine ⟨i + 1, by simp, by omega, Lib.hid ?_, Lib.hid ((hol.out.drew).setCell (fun _ => rfl) _)⟩
                  have hs := (hoi.out.drew).set i (.int .i64 (oi + a))
                  exact hs.congr fun j _ => by rw [← hna.out]; exact mix_step (N := NN) (O := OO) j
              · have hie : i = xs.length := by omega
                subst hie
                go_wp2
                go_roundg (5 - (r + 1))
                case measure => omega
                case rel =>
                  refine ⟨r + 1, by simp, by rw [hnext.out], by omega, Lib.hid ?_, Lib.hid ?_, ?_⟩
                  · exact hoi.out.congr fun j hj => by
                      have h1 : (stateM pot xs (r + 1)).1[j]?.getD 0 = NN j := eN.out j
                      rw [if_pos hj, h1]
                  · exact hxw.out.new hol.out (by omega)
                  · have := hol.out.size
                    omega
          · have hN : Hid (∀ i, i < xs.length → NN i = OO i + pd[i]?.getD 0) := Lib.hid fun i hi => by rw [← eN.out, ← eO.out]; exact hfull.out (by omega) i hi
            have hnext : Hid (potAt pot xs (r + 1) = pt - sumI pd) := Lib.hid (by rw [hstep.out, if_neg hf])
            clear hfull hpart hstep
            generalize sumI pd = sp at *
            have hal : Hid (pd.length = xs.length) := hpl
            generalize pd = am at *
            obtain ⟨wA, hwA⟩ : ∃ wA : Option Addr, wA = some ⟨wb, 0, none⟩ := ⟨_, rfl⟩
            rw [← hwA] at hAmR
            rw [← hwA]
            have hAm := hAmR
            have hab : Hid (∀ b, (Value.slice wA xs.length xs.length).ownBlock = some b → ¬ b = ob) := Lib.hid fun b hb e => by
              rw [hwA] at hb
              have h1 : some wb = some b := hb
              injection h1
              omega
            clear hwA
            have hle : decide (sp ≤ pt) = true := by simp; omega
            clear hAmR
            go_wp2
            go_loopg [11] (xs.length) (fun g v11 wr => ∃ i : Nat, v11 = .int .i64 (i : Int) ∧ i + g = xs.length ∧ Hid (wr.rowIs ob 2 xs.length (fun j => .int .i64 (if j < i then NN j else OO j))) ∧ Hid (Only (fun b => b = ob) w3 wr))
            case atStart => exact ⟨0, rfl, by omega, hof, Lib.hid (Only.refl _ _)⟩
            case round =>
              obtain ⟨i, rfl, hgi, hoi, hol⟩ := hrel
              by_cases hi : i < xs.length
              · have kO := hoi.out.cell hi
                rw [if_neg (Nat.lt_irrefl i)] at kO
                have fO := hoi.out.frozen i
                have ia : i < am.length := by rw [hal.out]; exact hi
                obtain ⟨a, ha⟩ : ∃ a, am[i]? = some a := ⟨am[i], List.getElem?_eq_getElem ia⟩
                have hAw := hAm.out.only hol.out hab.out
                obtain ⟨ba, oa, rfl⟩ := int_some hAw ia
                have kA := int_read wr hAw (Only.refl _ _) ha
                have hna := Lib.hid (by have := hN.out i hi; rw [ha] at this; exact this : NN i = OO i + a)
                have b1 := hNb.out i
                have b2 := hOb.out i
                have b3 : 0 ≤ OO i + a ∧ OO i + a ≤ 1099511627776 := by rw [← hna.out]; exact b1
                obtain ⟨b31, b32⟩ := b3
                clear ha b1 hAw
                generalize hoi' : OO i = oi at *
                have hoi2 := Lib.hid hoi'
                clear hoi'
                have hwrp : IntKind.i64.wrap (oi + a) = oi + a := IntWalk.i64_in _ (by omega)
                have u0 : ∀ W, Only (fun _ => False) wr.drew W → W.cell? ⟨ob, i, none⟩ = some (.int .i64 oi) := fun W hW => hW.cellF kO
                have u1 : ∀ W, Only (fun _ => False) wr.drew W → W.cell? ⟨ba, oa + i, none⟩ = some (.int .i64 a) := fun W hW => hW.cellF kA
                go_wp2
                refine wp_region_ord (.read 0 (.read 1 (.read 2 (.read 3 (.read 4 (.read 5 (.read 6 (.read 7 (.read 8 (.read 9 (.read 10 (.read 11 (.last 12))))))))))))) (Only (fun _ => False) _) (by kernel_rfl) (by kernel_rfl) (by kernel_rfl) (by first | exact Only.refl _ _ | assumption) ?_
                refine wpOrd_reads (v := ?_) rfl rfl (fun _ _ _ h => h) ?_ ?_
                rotate_left
                · intro W hW; go_simp; try with_reducible rfl
                go_frame
                refine wpOrd_reads (v := ?_) rfl rfl (fun _ _ _ h => h) ?_ ?_
                rotate_left
                · intro W hW; go_simp; try with_reducible rfl
                go_frame
                refine wpOrd_reads (v := ?_) rfl rfl (fun _ _ _ h => h) ?_ ?_
                rotate_left
                · intro W hW; go_simp; try with_reducible rfl
                go_frame
                refine wpOrd_reads (v := ?_) rfl rfl (fun _ _ _ h => h) ?_ ?_
                rotate_left
                · intro W hW; go_simp; try with_reducible rfl
                go_frame
                refine wpOrd_reads (v := ?_) rfl rfl (fun _ _ _ h => h) ?_ ?_
                rotate_left
                · intro W hW; go_simp; try with_reducible rfl
                go_frame
                refine wpOrd_reads (v := ?_) rfl rfl (fun _ _ _ h => h) ?_ ?_
                rotate_left
                · intro W hW; go_simp; try with_reducible rfl
                go_frame
                refine wpOrd_reads (v := ?_) rfl rfl (fun _ _ _ h => h) ?_ ?_
                rotate_left
                · intro W hW; go_simp; try with_reducible rfl
                go_frame
                refine wpOrd_reads (v := ?_) rfl rfl (fun _ _ _ h => h) ?_ ?_
                rotate_left
                · intro W hW; go_simp; try with_reducible rfl
                go_frame
                refine wpOrd_reads (v := ?_) rfl rfl (fun _ _ _ h => h) ?_ ?_
                rotate_left
                · intro W hW; go_simp; try with_reducible rfl
                go_frame
                refine wpOrd_reads (v := ?_) rfl rfl (fun _ _ _ h => h) ?_ ?_
                rotate_left
                · intro W hW; go_simp; try with_reducible rfl
                go_frame
                refine wpOrd_reads (v := ?_) rfl rfl (fun _ _ _ h => h) ?_ ?_
                rotate_left
                · intro W hW; go_simp; try with_reducible rfl
                go_frame
                refine wpOrd_reads (v := ?_) rfl rfl (fun _ _ _ h => h) ?_ ?_
                rotate_left
                · intro W hW; go_simp; try with_reducible rfl
                go_frame
                refine wpOrd_lasts rfl ?_
                go_wp2
                refine ⟨trivial, ?_⟩
                go_wp2_with fail
                go_roundg (xs.length - (i + 1))
                case measure => omega
                case rel =>
                  refine ⟨i + 1, by simp, by omega, Lib.hid ?_, Lib.hid ((hol.out.drew).setCell (fun _ => rfl) _)⟩
                  have hs := (hoi.out.drew).set i (.int .i64 (oi + a))
                  exact hs.congr fun j _ => by rw [← hna.out]; exact mix_step (N := NN) (O := OO) j
              · have hie : i = xs.length := by omega
                subst hie
                go_wp2
                go_roundg (5 - (r + 1))
                case measure => omega
                case rel =>
                  refine ⟨r + 1, by simp, by rw [hnext.out], by omega, Lib.hid ?_, Lib.hid ?_, ?_⟩
                  · exact hoi.out.congr fun j hj => by
                      have h1 : (stateM pot xs (r + 1)).1[j]?.getD 0 = NN j := eN.out j
                      rw [if_pos hj, h1]
                  · exact hxw.out.new hol.out (by omega)
                  · have := hol.out.size
                    omega
    · have hre : r = 5 := by omega
      subst hre
      go_wp2_with fail
      go_ret2
      refine ⟨_, rfl, reads_row hrow.out (money_length _ _) (fun i x hx => ?_), ho.out⟩
      have hx' : (stateM pot xs 5).1[i]? = some x := hx
      rw [hx']
      rfl
end Go.Proofs.YteecfjkljmmecaaGreat
