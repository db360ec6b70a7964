/- WALK: the reference's Split. -/
import Derived.Test.YteecfjkljmmecaaGreatTm
import Derived.Test.YteecfjkljmmecaaGreatPq
namespace Go.Proofs.YteecfjkljmmecaaGreat
open Go.RowKit Go.Sort Go.Shelf
def refSplitM (t : Int) (ws : List Int) : List Int := if sumI ws = 0 then ws.map fun _ => 0 else splitM t ws
def RefSplitPost (t : Int) (ws : List Int) (w : World) (e : Ending) (w' : World) : Prop := ∃ v', e = .returned v' ∧ ReadsI w' v' (refSplitM t ws) ∧ Only (fun _ => False) w w' ∧ ∀ b, v'.ownBlock = some b → w.heap.size ≤ b
theorem split_bump (t : Int) (ws : List Int) : splitM t ws = bump (ws.map (qM t (sumI ws))) ((orderM (ws.map (rM t (sumI ws))) ws.length).take (leftM t ws).toNat) := by
  unfold splitM
  by_cases ht : t = 0
  · subst ht
    have hq : ∀ w, qM 0 (sumI ws) w = 0 := fun w => by unfold qM; simp
    have e : ws.map (qM 0 (sumI ws)) = ws.map fun _ => 0 := List.map_congr_left fun w _ => hq w
    have hl0 : leftM 0 ws = 0 := by
      unfold leftM
      rw [e]
      have : ∀ l : List Int, sumI (l.map fun _ => (0 : Int)) = 0 := fun l => by
        induction l with
        | nil => rfl
        | cons x r ih => simp [ih]
      rw [this]
      rfl
    rw [if_pos rfl, hl0, e]
    rfl
  · rw [if_neg ht]
/-- What is left over, behind k that got one more. -/
def restK (rs : List Int) (ord : List Nat) (k j : Nat) : Int := if j ∈ ord.take k then -1 else rs[j]?.getD 0
theorem restK_zero (rs : List Int) (ord : List Nat) (j : Nat) : restK rs ord 0 j = rs[j]?.getD 0 := by unfold restK; simp
theorem restK_step {rs : List Int} {ord : List Nat} {k p : Nat} (h : ord[k]? = some p) (j : Nat) : (if j = p then (-1 : Int) else restK rs ord k j) = restK rs ord (k + 1) j := by
  unfold restK
  rw [List.take_add_one, h]
  by_cases e : j = p
  · rw [if_pos e, if_pos (by simp [e])]
  · rw [if_neg e]
    have : (j ∈ ord.take k ++ (some p).toList) ↔ j ∈ ord.take k := by simp [e]
    by_cases hm : j ∈ ord.take k
    · rw [if_pos hm, if_pos (this.2 hm)]
    · rw [if_neg hm, if_neg (fun h => hm (this.1 h))]
theorem pick_eq {rs : List Int} {n k p b : Nat} (h0 : ∀ j, j < n → 0 ≤ rs[j]?.getD 0) (h : (orderM rs n)[k]? = some p) (hb : b < n)
    (hi : ∀ j, j < n → restK rs (orderM rs n) k j < restK rs (orderM rs n) k b ∨ (restK rs (orderM rs n) k j = restK rs (orderM rs n) k b ∧ b ≤ j)) : b = p := by
  have hpn : p < n := order_lt (List.mem_of_getElem? h)
  have hpk : p ∉ (orderM rs n).take k := fun hm => by
    have := (order_take.1 hm).2
    rw [order_split h] at this
    omega
  have hRp : restK rs (orderM rs n) k p = rs[p]?.getD 0 := by unfold restK; rw [if_neg hpk]
  have hp0 := h0 p hpn
  have h1 := hi p hpn
  by_cases hbk : b ∈ (orderM rs n).take k
  · have hRb : restK rs (orderM rs n) k b = -1 := by unfold restK; rw [if_pos hbk]
    omega
  · have hRb : restK rs (orderM rs n) k b = rs[b]?.getD 0 := by unfold restK; rw [if_neg hbk]
    apply Classical.byContradiction
    intro hne
    have h2 := order_next h hb hbk hne
    rw [aheadB_iff] at h2
    omega
def PRow2 (t S : Int) (xs : List Int) (i : Nat) (j : Nat) : Value := .int .i64 (if j < i then rM t S (xs[j]?.getD 0) else 0)
theorem prow2_step {t S : Int} {xs : List Int} {i : Nat} {x : Int} (hx : xs[i]? = some x) (j : Nat) : (if j = i then Value.int .i64 (rM t S x) else PRow2 t S xs i j) = PRow2 t S xs (i + 1) j := by
  unfold PRow2
  by_cases h : j = i
  · subst h; simp [hx]
  · rw [if_neg h]
    by_cases hj : j < i
    · rw [if_pos hj, if_pos (by omega)]
    · rw [if_neg hj, if_neg (by omega)]
set_option maxHeartbeats 16000000 in
set_option maxRecDepth 100000 in
theorem refSplit_any (w : World) (t : Int) {v : Value} {xs : List Int} (h : ReadsI w v xs) (o1 : 0 ≤ t) (o2 : t ≤ 1099511627776) (o5 : ∀ x ∈ xs, 0 ≤ x ∧ x ≤ 1099511627776) (o4 : xs.length ≤ 4096) : Calls Tryz.prog 32 #[.int .i64 t, v] w (RefSplitPost t xs w) := by
  have o7 := sum_nonneg (l := xs) fun x hx => (o5 x hx).1
  have o8 := sum_le (l := xs) (m := 1099511627776) fun x hx => (o5 x hx).2
  have hX := Lib.hid h
  have hR := Lib.hid o5
  clear o5
  have hm1 := run_make_row' (P := Tryz.prog) 35 2 (.int .i64 0) 8 Tryz.underlying35 info2 rfl .i64 .i64 xs.length (by omega) (by omega)
  obtain ⟨A, c, rfl, _⟩ := h
  go_enter Tryz.func32, Tryz.ntmps32
  go_wp2
  generalize hw1 : ((w.alloc (Obj.cells (madeCells #[Value.int IntKind.i64 0] xs.length) 2)).alloc (Obj.cells (madeCells #[Value.int IntKind.i64 0] xs.length) 2)) = w1
  have ho1 : Only (fun _ => False) w w1 := by subst hw1; exact ((Only.refl _ _).alloc _).alloc _
  have hp1 : Hid (w1.rowIs w.heap.size 2 xs.length (fun _ => .int .i64 0)) := Lib.hid (by subst hw1; exact (World.rowIs_made _ _ _ _).alloc _)
  have hr1 : Hid (w1.rowIs (w.heap.size + 1) 2 xs.length (fun _ => .int .i64 0)) := Lib.hid (by
    subst hw1
    have := World.rowIs_made (w.alloc (Obj.cells (madeCells #[Value.int IntKind.i64 0] xs.length) 2)) (.int .i64 0) xs.length 2
    rwa [World.size_alloc] at this)
  clear hw1
  go_loopg [7, 8] (xs.length) (fun g v7 v8 wr => ∃ i : Nat, v8 = .int .i64 (i : Int) ∧ v7 = .int .i64 (sumI (xs.take i)) ∧ i + g = xs.length ∧ w1 = wr)
  case atStart => exact ⟨0, rfl, rfl, by omega, rfl⟩
  case round =>
    obtain ⟨i, rfl, rfl, hg, rfl⟩ := hrel
    by_cases hi : i < xs.length
    · obtain ⟨x, hx⟩ : ∃ x, xs[i]? = some x := ⟨xs[i], List.getElem?_eq_getElem hi⟩
      obtain ⟨b, off, rfl⟩ := int_some hX.out hi
      have k0 := int_read w1 hX.out ho1 hx
      have hx5 := hR.out x (List.mem_of_getElem? hx)
      have hst := Lib.hid (sumI_take hx)
      have hs0 := sum_nonneg (l := xs.take i) fun y hy => (hR.out y (List.mem_of_mem_take hy)).1
      have hs2 := sum_le (l := xs.take i) (m := 1099511627776) fun y hy => (hR.out y (List.mem_of_mem_take hy)).2
      have hs3 : (xs.take i).length ≤ 4096 := by simp; omega
      clear hx
      generalize hq : sumI (xs.take i) = q at *
      generalize (xs.take i).length = ll at *
      have hq' := Lib.hid hq
      clear hq
      go_wp2
      go_roundg (xs.length - (i + 1))
      case measure => omega
      case rel => exact ⟨i + 1, by simp, congrArg (Value.int .i64) (by have := hst.out; omega), by omega, rfl⟩
    · have hie : i = xs.length := by omega
      subst hie
      rw [List.take_length]
      by_cases hS0 : sumI xs = 0
      · have hfin : Hid (refSplitM t xs = xs.map fun _ => 0) := Lib.hid (by unfold refSplitM; rw [if_pos hS0])
        rw [hS0]
        go_wp2
        go_ret
        refine ⟨_, rfl, reads_row hp1.out (by rw [hfin.out, List.length_map]) (fun i x hx => ?_), ho1, fun b hb => by cases hb; exact Nat.le_refl _⟩
        rw [hfin.out, List.getElem?_map, Option.map_eq_some_iff] at hx
        obtain ⟨_, _, rfl⟩ := hx
        rfl
      · have hSp : 0 < sumI xs := by omega
        have hfin : Hid (refSplitM t xs = bump (xs.map (qM t (sumI xs))) ((orderM (xs.map (rM t (sumI xs))) xs.length).take (leftM t xs).toNat)) := Lib.hid (by unfold refSplitM; rw [if_neg hS0, split_bump t xs])
        have hlb := left_bd t xs hSp
        have hLe : Hid (leftM t xs = t - sumI (xs.map (qM t (sumI xs)))) := Lib.hid rfl
        have hnz : (sumI xs == 0) = false := by simpa using hS0
        generalize hS : sumI xs = S at *
        have hS' := Lib.hid hS
        clear hS
        obtain ⟨tn, htn⟩ := Int.eq_ofNat_of_zero_le o1
        obtain ⟨sn, hsn⟩ := Int.eq_ofNat_of_zero_le (show 0 ≤ S by omega)
        subst htn hsn
        clear hS0
        go_wp2
        have hrw0 : Hid (w1.rowIs w.heap.size 2 xs.length (PRow tn sn xs 0)) := Lib.hid (hp1.out.congr fun j _ => by simp [PRow])
        have hrr0 : Hid (w1.rowIs (w.heap.size + 1) 2 xs.length (PRow2 tn sn xs 0)) := Lib.hid (hr1.out.congr fun j _ => by simp [PRow2])
        go_loopg [9, 10] (xs.length) (fun g v9 v10 wr => ∃ i : Nat, v10 = .int .i64 (i : Int) ∧ v9 = .int .i64 ((tn : Int) - sumI ((xs.take i).map (qM tn sn))) ∧ i + g = xs.length ∧ Hid (wr.rowIs w.heap.size 2 xs.length (PRow tn sn xs i)) ∧ Hid (wr.rowIs (w.heap.size + 1) 2 xs.length (PRow2 tn sn xs i)) ∧ Hid (Only (fun _ => False) w wr))
        case atStart => exact ⟨0, rfl, congrArg (Value.int .i64) (by simp), by omega, hrw0, hrr0, Lib.hid ho1⟩
        case round =>
          clear hrw0 hrr0 hp1 hr1 hi hg ho1
          obtain ⟨i, rfl, rfl, hg, hp, hr, ho⟩ := hrel
          by_cases hi : i < xs.length
          · obtain ⟨x, hx⟩ : ∃ x, xs[i]? = some x := ⟨xs[i], List.getElem?_eq_getElem hi⟩
            obtain ⟨b, off, rfl⟩ := int_some hX.out hi
            have k0 := int_read wr hX.out ho.out hx
            have hx5 := hR.out x (List.mem_of_getElem? hx)
            have hxs := sum_mem_le (l := xs) (fun y hy => (hR.out y hy).1) (List.mem_of_getElem? hx)
            rw [hS'.out] at hxs
            obtain ⟨xn, hxn⟩ := Int.eq_ofNat_of_zero_le hx5.1
            subst hxn
            have hsum : Hid (sumI ((xs.take (i + 1)).map (qM tn sn)) = sumI ((xs.take i).map (qM tn sn)) + ((tn * xn / sn : Nat) : Int)) := Lib.hid (by
              rw [List.take_add_one, hx, List.map_append, sumI_append]
              simp [qM])
            have hX1 := Lib.hid hx
            have hTm := Lib.hid (fun W => times_any W tn xn sn (by omega) (by omega) (by omega) (by omega))
            have n3 : tn * xn / sn ≤ tn := by
              apply Nat.div_le_of_le_mul
              rw [Nat.mul_comm sn]
              exact Nat.mul_le_mul_left _ (by omega)
            have n4 : tn * xn % sn < sn := Nat.mod_lt _ (by omega)
            have eQ : Hid (qM tn sn xn = ((tn * xn / sn : Nat) : Int)) := Lib.hid (by simp [qM])
            have eR : Hid (rM tn sn xn = ((tn * xn % sn : Nat) : Int)) := Lib.hid (by simp [rM])
            clear hx hxs
            generalize tn * xn / sn = Q at *
            generalize tn * xn % sn = Rr at *
            have hqa : ∀ z ∈ (xs.take i).map (qM tn sn), 0 ≤ z ∧ z ≤ 1099511627776 := fun z hz => by
              obtain ⟨y, hy, rfl⟩ := List.mem_map.1 hz
              have hy5 := hR.out y (List.mem_of_mem_take hy)
              have hyS := sum_mem_le (l := xs) (fun y hy => (hR.out y hy).1) (List.mem_of_mem_take hy)
              rw [hS'.out] at hyS
              refine ⟨Int.ediv_nonneg (Int.mul_nonneg (by omega) hy5.1) (by omega), ?_⟩
              have h1 : (tn : Int) * y ≤ tn * sn := Int.mul_le_mul_of_nonneg_left hyS (by omega)
              have h2 : (tn : Int) * y / sn ≤ tn := Int.ediv_le_of_le_mul (by omega) h1
              unfold qM
              omega
            have hq0 := sum_nonneg fun z hz => (hqa z hz).1
            have hq1 := sum_le fun z hz => (hqa z hz).2
            have hq2 : ((xs.take i).map (qM tn sn)).length ≤ 4096 := by simp; omega
            generalize ((xs.take i).map (qM tn sn)).length = ql at *
            clear hqa
            generalize hq : sumI ((xs.take i).map (qM tn sn)) = q at *
            have hq' := Lib.hid hq
            clear hq
            have kp := hp.out.cell hi
            have kr := hr.out.cell hi
            have fp := hp.out.frozen i
            have fr := hr.out.frozen i
            go_wp2_with (go_at_call 50; refine (hTm.out _).mono ?_; clear hTm; rintro e w3 ⟨rfl, rfl⟩)
            go_roundg (xs.length - (i + 1))
            case measure => omega
            case rel =>
              refine ⟨i + 1, by simp, ?_, by omega, Lib.hid ?_, Lib.hid ?_, Lib.hid ?_⟩
              · have hq3 := hsum.out
                exact congrArg (Value.int .i64) (by omega)
              · exact (((hp.out.set i _).setOther (by first | (simp; done) | (simp; omega)) _)).congr fun j _ => by rw [← eQ.out]; exact prow_step hX1.out j
              · exact (((hr.out.setOther (by first | (simp; done) | (simp; omega)) _).set i _)).congr fun j _ => by rw [← eR.out]; exact prow2_step hX1.out j
              · exact (ho.out.setCell (fun h => absurd h (by first | (simp; done) | (simp; omega))) _).setCell (fun h => absurd h (by first | (simp; done) | (simp; omega))) _
          · have hie : i = xs.length := by omega
            subst hie
            rw [List.take_length, ← hLe.out]
            obtain ⟨left, hleft⟩ := Int.eq_ofNat_of_zero_le hlb.1
            rw [hleft] at hlb hfin ⊢
            have hll := hlb.2
            simp only [Int.toNat_natCast] at hfin
            clear hlb hleft hLe
            have hqb : Hid (∀ j : Nat, 0 ≤ (xs.map (qM tn sn))[j]?.getD 0 ∧ (xs.map (qM tn sn))[j]?.getD 0 ≤ 1099511627776) := Lib.hid fun j => by
              rw [List.getElem?_map]
              cases hj : xs[j]? with
              | none => simp
              | some y =>
                have hm := List.mem_of_getElem? hj
                have hy5 := hR.out y hm
                have hyS := sum_mem_le (l := xs) (fun y hy => (hR.out y hy).1) hm
                rw [hS'.out] at hyS
                refine ⟨Int.ediv_nonneg (Int.mul_nonneg (by omega) hy5.1) (by omega), ?_⟩
                have h1 : (tn : Int) * y ≤ tn * sn := Int.mul_le_mul_of_nonneg_left hyS (by omega)
                have h2 : (tn : Int) * y / sn ≤ tn := Int.ediv_le_of_le_mul (by omega) h1
                simp only [Option.map_some, Option.getD_some, qM]
                omega
            have hrb : ∀ j, j < xs.length → 0 ≤ (xs.map (rM tn sn))[j]?.getD 0 := fun j hj => by
              rw [List.getElem?_map, List.getElem?_eq_getElem hj]
              exact Int.emod_nonneg _ (by omega)
            have hpick : Hid (∀ k p b, (orderM (xs.map (rM tn sn)) xs.length)[k]? = some p → b < xs.length → (∀ j, j < xs.length → restK (xs.map (rM tn sn)) (orderM (xs.map (rM tn sn)) xs.length) k j < restK (xs.map (rM tn sn)) (orderM (xs.map (rM tn sn)) xs.length) k b ∨ (restK (xs.map (rM tn sn)) (orderM (xs.map (rM tn sn)) xs.length) k j = restK (xs.map (rM tn sn)) (orderM (xs.map (rM tn sn)) xs.length) k b ∧ b ≤ j)) → b = p) := Lib.hid fun k p b h1 h2 h3 => pick_eq hrb h1 h2 h3
            have hP4 : Hid (wr.rowIs w.heap.size 2 xs.length (fun j => .int .i64 ((bump (xs.map (qM tn sn)) ((orderM (xs.map (rM tn sn)) xs.length).take 0))[j]?.getD 0))) := Lib.hid (hp.out.congr fun j hj => by simp [PRow, hj, bump])
            have hR4 : Hid (wr.rowIs (w.heap.size + 1) 2 xs.length (fun j => .int .i64 (restK (xs.map (rM tn sn)) (orderM (xs.map (rM tn sn)) xs.length) 0 j))) := Lib.hid (hr.out.congr fun j hj => by simp [PRow2, restK, hj])
            have hpl : Hid ((xs.map (qM tn sn)).length = xs.length) := Lib.hid (by rw [List.length_map])
            have hol : Hid ((orderM (xs.map (rM tn sn)) xs.length).length = xs.length) := Lib.hid (order_length _ _)
            have hob : Hid (∀ k ∈ orderM (xs.map (rM tn sn)) xs.length, k < xs.length) := Lib.hid fun k hk => order_lt hk
            clear hp hr hrb
            generalize xs.map (qM tn sn) = ps at *
            generalize xs.map (rM tn sn) = rs at *
            generalize orderM rs xs.length = ord at *
            go_wp2
            go_loopg [9] (left) (fun g v9 wr => ∃ k : Nat, v9 = .int .i64 ((left : Int) - (k : Int)) ∧ k + g = left ∧ Hid (wr.rowIs w.heap.size 2 xs.length (fun j => .int .i64 ((bump ps (ord.take k))[j]?.getD 0))) ∧ Hid (wr.rowIs (w.heap.size + 1) 2 xs.length (fun j => .int .i64 (restK rs ord k j))) ∧ Hid (Only (fun _ => False) w wr))
            case atStart => exact ⟨0, congrArg (Value.int .i64) (by simp), by omega, hP4, hR4, ho⟩
            case round =>
              clear hP4 hR4 ho hi hg
              obtain ⟨k, rfl, hg, hp, hr, ho⟩ := hrel
              by_cases hk : k < left
              · obtain ⟨p, hpk⟩ : ∃ p, ord[k]? = some p := ⟨ord[k]'(by rw [hol.out]; omega), List.getElem?_eq_getElem _⟩
                have hpn := hob.out p (List.mem_of_getElem? hpk)
                have hn0 : 0 < xs.length := by omega
                have hPK := Lib.hid hpk
                have hst := Lib.hid (bump_step (l := ps) hpk)
                have hrs := Lib.hid (fun j => restK_step (rs := rs) hpk j)
                have hbd := bump_bd 1099511627776 (by omega) (ord.take k) ps hqb.out p
                have hkl : (ord.take k).length ≤ 4096 := by simp; omega
                clear hpk
                generalize (ord.take k).length = kk at *
                generalize wr = wo at *
                go_wp2
                go_loopg [11, 12] (xs.length) (fun g v11 v12 wr => ∃ i b : Nat, v12 = .int .i64 (i : Int) ∧ v11 = .int .i64 (b : Int) ∧ i + g = xs.length + 1 ∧ b < i ∧ i ≤ xs.length ∧ Hid (∀ j, j < i → restK rs ord k j < restK rs ord k b ∨ (restK rs ord k j = restK rs ord k b ∧ b ≤ j)) ∧ Hid (Only (fun _ => False) wo wr))
                case atStart => exact ⟨1, 0, rfl, rfl, by omega, by omega, by omega, Lib.hid (fun j hj => .inr ⟨by rw [show j = 0 by omega], by omega⟩), Lib.hid (Only.refl _ _)⟩
                case round =>
                  obtain ⟨i, b, rfl, rfl, hgi, hbi, hin, hinv, hoi⟩ := hrel
                  by_cases hi : i < xs.length
                  · have hr' := rowIs_only hr.out hoi.out id
                    have ki := hr'.cell hi
                    have kb := hr'.cell (show b < xs.length by omega)
                    have hup : Hid (restK rs ord k b < restK rs ord k i → ∀ j, j < i + 1 → restK rs ord k j < restK rs ord k i ∨ (restK rs ord k j = restK rs ord k i ∧ i ≤ j)) := Lib.hid fun hlt j hj => by
                      by_cases e : j = i
                      · subst e; exact .inr ⟨rfl, Nat.le_refl _⟩
                      · have := hinv.out j (by omega)
                        left
                        omega
                    have hst' : Hid (¬ restK rs ord k b < restK rs ord k i → ∀ j, j < i + 1 → restK rs ord k j < restK rs ord k b ∨ (restK rs ord k j = restK rs ord k b ∧ b ≤ j)) := Lib.hid fun hlt j hj => by
                      by_cases e : j = i
                      · subst e; omega
                      · exact hinv.out j (by omega)
                    clear hr'
                    by_cases hlt : restK rs ord k b < restK rs ord k i
                    · have hU := Lib.hid (hup.out hlt)
                      clear hup hst'
                      generalize restK rs ord k b = rb at ki kb hlt
                      generalize restK rs ord k i = ri at ki kb hlt
                      have z : decide (rb < ri) = true := by simpa using hlt
                      clear hlt
                      go_wp2
                      go_quiet (fail)
                      go_wp2
                      go_roundg (xs.length - i)
                      case measure => omega
                      case rel => exact ⟨i + 1, i, by simp, rfl, by omega, by omega, by omega, hU, Lib.hid (hoi.out.drewN _)⟩
                    · have hU := Lib.hid (hst'.out hlt)
                      clear hup hst'
                      generalize restK rs ord k b = rb at ki kb hlt
                      generalize restK rs ord k i = ri at ki kb hlt
                      have z : decide (rb < ri) = false := by simpa using hlt
                      clear hlt
                      go_wp2
                      go_quiet (fail)
                      go_wp2
                      go_roundg (xs.length - i)
                      case measure => omega
                      case rel => exact ⟨i + 1, b, by simp, rfl, by omega, by omega, by omega, hU, Lib.hid (hoi.out.drewN _)⟩
                  · have hie : i = xs.length := by omega
                    subst hie
                    have hbp := hpick.out k p b hPK.out hbi hinv.out
                    subst hbp
                    have hp2 := Lib.hid (rowIs_only hp.out hoi.out id)
                    have hr2 := Lib.hid (rowIs_only hr.out hoi.out id)
                    have ho2 := Lib.hid (ho.out.trans hoi.out fun _ _ => id)
                    have kp := hp2.out.cell hpn
                    have kr := hr2.out.cell hpn
                    have fp := hp2.out.frozen b
                    have fr := hr2.out.frozen b
                    clear hp hr ho hoi hinv
                    generalize hy : (bump ps (ord.take k))[b]?.getD 0 = y at *
                    have hY := Lib.hid hy
                    clear hy
                    go_wp2
                    go_roundg (left - (k + 1))
                    case measure => omega
                    case rel =>
                      refine ⟨k + 1, congrArg (Value.int .i64) (by omega), by omega, Lib.hid ?_, Lib.hid ?_, Lib.hid ?_⟩
                      · exact ((hp2.out.set b _).setOther (by first | (simp; done) | (simp; omega)) _).congr fun j hj => by
                          rw [hst.out, List.getElem?_set]
                          by_cases hjp : j = b
                          · subst hjp
                            rw [if_pos rfl, if_pos rfl, if_pos (by rw [bump_length, hpl.out]; exact hpn)]
                            first | rfl | (simp; done) | exact congrArg (Value.int .i64) (by simp)
                          · rw [if_neg hjp, if_neg (fun e => hjp e.symm)]
                      · exact ((hr2.out.setOther (by first | (simp; done) | (simp; omega)) _).set b _).congr fun j hj => by
                          rw [← hrs.out j]
                          by_cases hjp : j = b
                          · rw [if_pos hjp, if_pos hjp]
                          · rw [if_neg hjp, if_neg hjp]
                      · exact (ho2.out.setCell (fun h => absurd h (by first | (simp; done) | (simp; omega))) _).setCell (fun h => absurd h (by first | (simp; done) | (simp; omega))) _
              · have hke : k = left := by omega
                subst hke
                go_wp2
                go_ret
                refine ⟨_, rfl, reads_row hp.out (by rw [hfin.out, bump_length, hpl.out]) (fun i x hx => ?_), ho.out, fun b hb => by cases hb; exact Nat.le_refl _⟩
                rw [hfin.out] at hx
                rw [hx]
                rfl
end Go.Proofs.YteecfjkljmmecaaGreat
