/- WALK: share.Split, of more than nothing. -/
import Derived.Test.YteecfjkljmmecaaGreatSu
namespace Go.Proofs.YteecfjkljmmecaaGreat
open Go.RowKit Go.Sort Go.Shelf
theorem rowIs_only {F : Nat → Prop} {w w' : World} {b : Nat} {ty : TypeId} {n : Nat} {f : Nat → Value} (h : w.rowIs b ty n f) (ho : Only F w w') (hf : ¬ F b) : w'.rowIs b ty n f := h.of_block (ho.block b h.lt hf)
def PRow (t S : Int) (xs : List Int) (i : Nat) (j : Nat) : Value := .int .i64 (if j < i then qM t S (xs[j]?.getD 0) else 0)
def RRow (t S : Int) (xs : List Int) (i : Nat) (j : Nat) : Value := .int .u64 (if j < i then rM t S (xs[j]?.getD 0) else 0)
def LRow (i : Nat) (j : Nat) : Value := .int .i64 (if j < i then (j : Int) else 0)
structure Rows3 (w0 : World) (t S : Int) (xs : List Int) (i : Nat) (w : World) : Prop where
  p : w.rowIs w0.heap.size 2 xs.length (PRow t S xs i)
  r : w.rowIs (w0.heap.size + 1) 78 xs.length (RRow t S xs i)
  c : w.cell? ⟨w0.heap.size + 1 + 1, 0, none⟩ = some (.slice (some ⟨w0.heap.size + 1, 0, none⟩) xs.length xs.length)
  b : w0.heap.size + 1 + 1 < w.heap.size
  l : w.rowIs (w0.heap.size + 1 + 1 + 1) 3 xs.length (LRow i)
  o : Only (fun _ => False) w0 w
theorem Rows3.quiet {w0 w w' : World} {t S : Int} {xs : List Int} {i : Nat} (h : Rows3 w0 t S xs i w) (ho : Only (fun _ => False) w w') : Rows3 w0 t S xs i w' :=
  ⟨rowIs_only h.p ho id, rowIs_only h.r ho id, ho.cellF h.c, Nat.lt_of_lt_of_le h.b ho.size, rowIs_only h.l ho id, h.o.trans ho fun _ _ => id⟩
theorem prow_step {t S : Int} {xs : List Int} {i : Nat} {x : Int} (hx : xs[i]? = some x) (j : Nat) : (if j = i then Value.int .i64 (qM t S x) else PRow t S xs i j) = PRow t S xs (i + 1) j := by
  unfold PRow
  by_cases h : j = i
  · subst h; simp [hx]
  · rw [if_neg h]
    by_cases hj : j < i
    · rw [if_pos hj, if_pos (by omega)]
    · rw [if_neg hj, if_neg (by omega)]
theorem rrow_step {t S : Int} {xs : List Int} {i : Nat} {x : Int} (hx : xs[i]? = some x) (j : Nat) : (if j = i then Value.int .u64 (rM t S x) else RRow t S xs i j) = RRow t S xs (i + 1) j := by
  unfold RRow
  by_cases h : j = i
  · subst h; simp [hx]
  · rw [if_neg h]
    by_cases hj : j < i
    · rw [if_pos hj, if_pos (by omega)]
    · rw [if_neg hj, if_neg (by omega)]
theorem lrow_step {i : Nat} (j : Nat) : (if j = i then Value.int .i64 (i : Int) else LRow i j) = LRow (i + 1) j := by
  unfold LRow
  by_cases h : j = i
  · subst h; simp
  · rw [if_neg h]
    by_cases hj : j < i
    · rw [if_pos hj, if_pos (by omega)]
    · rw [if_neg hj, if_neg (by omega)]
theorem bump_step {l : List Int} {ks : List Nat} {k p : Nat} (hp : ks[k]? = some p) : bump l (ks.take (k + 1)) = (bump l (ks.take k)).set p ((bump l (ks.take k))[p]?.getD 0 + 1) := by
  rw [List.take_add_one, hp]
  unfold bump
  rw [List.foldl_append]
  rfl
theorem bump_bd (M : Int) (hM : 0 ≤ M) (ks : List Nat) (l : List Int) (h : ∀ j : Nat, 0 ≤ l[j]?.getD 0 ∧ l[j]?.getD 0 ≤ M) (j : Nat) : 0 ≤ (bump l ks)[j]?.getD 0 ∧ (bump l ks)[j]?.getD 0 ≤ M + ks.length := by
  induction ks generalizing l M with
  | nil => simpa [bump] using h j
  | cons k r ih =>
    have h1 := ih (M + 1) (by omega) (l.set k (l[k]?.getD 0 + 1)) fun i => by
      rw [List.getElem?_set]
      have hi := h i
      have hk := h k
      split
      · split
        · simp; omega
        · simp; omega
      · omega
    unfold bump at h1 ⊢
    rw [List.foldl_cons]
    simp only [List.length_cons, Int.natCast_add, Int.natCast_one]
    omega
set_option maxHeartbeats 8000000 in
set_option maxRecDepth 100000 in
theorem split1_any (w : World) (t : Int) {v : Value} {xs : List Int} (h : ReadsI w v xs) (hok : wrongM t xs = 0) (ht : t ≠ 0) : Calls Tryz.prog 30 #[.int .i64 t, v] w (SplitPost t xs w) := by
  obtain ⟨o1, o2, o3, o4, o5, o6⟩ := wrong_ok hok
  have o7 := o6 ht
  have o8 := sum_le (l := xs) (m := 1099511627776) fun x hx => (o5 x hx).2
  have hW0 := wrong_any w t h (by omega)
  rw [hok] at hW0
  have hW := Lib.hid hW0
  have hX := Lib.hid h
  have hR := Lib.hid o5
  have htb : (t == 0) = false := by simpa using ht
  clear hW0 hok o5 o6
  have hm1 := run_make_row' (P := Tryz.prog) 35 2 (.int .i64 0) 8 Tryz.underlying35 info2 rfl .i64 .i64 xs.length (by omega) (by omega)
  have hm2 := run_make_row' (P := Tryz.prog) 79 78 (.int .u64 0) 8 Tryz.underlying79 info78 rfl .i64 .i64 xs.length (by omega) (by omega)
  have hm3 := run_make_row' (P := Tryz.prog) 57 3 (.int .i64 0) 8 Tryz.underlying57 info3 rfl .i64 .i64 xs.length (by omega) (by omega)
  obtain ⟨A, c, rfl, _⟩ := h
  go_enter Tryz.func30, Tryz.ntmps30
  go_wp2_with (first
    | (go_at_call 41; refine hW.out.mono ?_; clear hW; rintro e w' ⟨rfl, rfl⟩))
  generalize hw1 : w.alloc (Obj.cells (madeCells #[Value.int IntKind.i64 0] xs.length) 2) = w1
  have ho1 : Only (fun _ => False) w w1 := by subst hw1; exact (Only.refl _ _).alloc _
  have hr1 : w1.rowIs w.heap.size 2 xs.length (fun _ => .int .i64 0) := by subst hw1; exact World.rowIs_made _ _ _ _
  have hs1 : w1.heap.size = w.heap.size + 1 := by subst hw1; simp
  clear hw1
  go_loopg [36, 8] (xs.length) (fun g v36 v8 wr => ∃ i : Nat, v36 = .int .i64 (i : Int) ∧ v8 = .int .u64 (sumI (xs.take i)) ∧ i + g = xs.length ∧ w1 = wr)
  case atStart => exact ⟨0, rfl, rfl, by omega, rfl⟩
  case round =>
    obtain ⟨i, rfl, rfl, hg, rfl⟩ := hrel
    by_cases hi : i < xs.length
    · obtain ⟨x, hx⟩ : ∃ x, xs[i]? = some x := ⟨xs[i], List.getElem?_eq_getElem hi⟩
      obtain ⟨A', c', hA', hr⟩ := hX.out.quiet ho1
      injection hA' with hA1 hA2 hA3
      subst hA1 hA3
      obtain ⟨b, off, rfl, k0⟩ := hr i x hx
      have hx5 := hR.out x (List.mem_of_getElem? hx)
      have hst := Lib.hid (sumI_take hx)
      have hs0 := sum_nonneg (l := xs.take i) fun y hy => (hR.out y (List.mem_of_mem_take hy)).1
      have hs2 := sum_le (l := xs.take i) (m := 1099511627776) fun y hy => (hR.out y (List.mem_of_mem_take hy)).2
      have hs3 : (xs.take i).length ≤ 4096 := by simp; omega
      clear hr hA2 hx
      generalize hq : sumI (xs.take i) = q at *
      generalize (xs.take i).length = ll at *
      have hq' := Lib.hid hq
      clear hq
      go_wp2
      go_roundg (xs.length - (i + 1))
      case measure => omega
      case rel =>
        exact ⟨i + 1, by simp, congrArg (Value.int .u64) (by have := hst.out; omega), by omega, rfl⟩
    · have hie : i = xs.length := by omega
      subst hie
      rw [List.take_length]
      go_wp2
      generalize hw2 : (((w1.alloc (Obj.cells (madeCells #[Value.int IntKind.u64 0] xs.length) 78)).alloc (Obj.cells #[Value.slice (some { block := w.heap.size + 1, off := 0 }) xs.length xs.length] 79)).alloc (Obj.cells (madeCells #[Value.int IntKind.i64 0] xs.length) 3)) = w2
      have hr2 : Rows3 w t (sumI xs) xs 0 w2 := by
        subst hw2
        refine ⟨?_, ?_, ?_, ?_, ?_, ?_⟩
        · exact (((hr1.alloc _).alloc _).alloc _).congr fun i hi => by simp [PRow]
        · rw [← hs1]
          exact (((World.rowIs_made w1 _ _ _).alloc _).alloc _).congr fun i hi => by simp [RRow]
        · go_simp
        · simp [hs1]
        · have h4 := World.rowIs_made ((w1.alloc (Obj.cells (madeCells #[Value.int IntKind.u64 0] xs.length) 78)).alloc (Obj.cells #[Value.slice (some { block := w.heap.size + 1, off := 0 }) xs.length xs.length] 79)) (.int .i64 0) xs.length 3
          simp only [World.size_alloc, hs1] at h4
          exact h4.congr fun i hi => by simp [LRow]
        · exact ((ho1.alloc _).alloc _).alloc _
      have hR2 := Lib.hid hr2
      clear hw2 hr2 hr1 ho1 hs1
      generalize hS : sumI xs = S at *
      have hS' := Lib.hid hS
      clear hS
      obtain ⟨tn, htn⟩ := Int.eq_ofNat_of_zero_le o1
      obtain ⟨sn, hsn⟩ := Int.eq_ofNat_of_zero_le (show 0 ≤ S by omega)
      subst htn hsn
      go_loopg [54, 13] (xs.length) (fun g v54 v13 wr => ∃ i : Nat, v54 = .int .i64 (i : Int) ∧ v13 = .int .i64 ((tn : Int) - sumI ((xs.take i).map (qM tn sn))) ∧ i + g = xs.length ∧ Hid (Rows3 w tn sn xs i wr))
      case atStart => exact ⟨0, rfl, congrArg (Value.int .i64) (by simp), by omega, hR2⟩
      case round =>
        obtain ⟨i, rfl, rfl, hg, hrows⟩ := hrel
        by_cases hi : i < xs.length
        · obtain ⟨x, hx⟩ : ∃ x, xs[i]? = some x := ⟨xs[i], List.getElem?_eq_getElem hi⟩
          obtain ⟨A', c', hA', hr⟩ := hX.out.quiet hrows.out.o
          injection hA' with hA1 hA2 hA3
          subst hA1 hA3
          obtain ⟨b, off, rfl, k0⟩ := hr i x hx
          have hx5 := hR.out x (List.mem_of_getElem? hx)
          have hxs := sum_mem_le (l := xs) (fun y hy => (hR.out y hy).1) (List.mem_of_getElem? hx)
          rw [hS'.out] at hxs
          obtain ⟨xn, hxn⟩ := Int.eq_ofNat_of_zero_le hx5.1
          subst hxn
          have hsum : Hid (sumI ((xs.take (i + 1)).map (qM tn sn)) = sumI ((xs.take i).map (qM tn sn)) + ((tn * xn / sn : Nat) : Int)) := Lib.hid (by
            rw [List.take_add_one, hx, List.map_append, sumI_append]
            simp [qM])
          have hX1 := Lib.hid hx
          have hM := mul_any
          have n1 : tn * xn ≤ 1099511627776 * 1099511627776 := Nat.mul_le_mul (by omega) (by omega)
          have n2 : tn * xn / 18446744073709551616 < sn := by
            rw [Nat.div_lt_iff_lt_mul (by omega)]
            have : tn * xn ≤ 1099511627776 * sn := Nat.mul_le_mul (by omega) (by omega)
            omega
          have n3 : tn * xn / sn ≤ tn := by
            apply Nat.div_le_of_le_mul
            rw [Nat.mul_comm sn]
            exact Nat.mul_le_mul_left _ (by omega)
          have n4 : tn * xn % sn < sn := Nat.mod_lt _ (by omega)
          have hM := Lib.hid (fun W => mul_any W tn xn (by omega) (by omega))
          have hD := Lib.hid (fun W => div_any W (tn * xn / 18446744073709551616) (tn * xn % 18446744073709551616) sn (by omega) (by omega) n2)
          have hN : tn * xn / 18446744073709551616 * 18446744073709551616 + tn * xn % 18446744073709551616 = tn * xn := Nat.div_add_mod' _ _
          rw [hN] at hD
          unfold DivPost at hD
          clear hN n1 n2 hr hA2 hx
          generalize tn * xn / 18446744073709551616 = mh at *
          generalize tn * xn % 18446744073709551616 = ml at *
          generalize hQ : tn * xn / sn = Q at *
          generalize hRr : tn * xn % sn = Rr at *
          have hQR := Lib.hid (And.intro hQ hRr)
          clear hQ hRr hxs
          have hqa : ∀ z ∈ (xs.take i).map (qM tn sn), 0 ≤ z ∧ z ≤ 1099511627776 := fun z hz => by
            obtain ⟨y, hy, rfl⟩ := List.mem_map.1 hz
            have hy5 := hR.out y (List.mem_of_mem_take hy)
            have hyS := sum_mem_le (l := xs) (fun y hy => (hR.out y hy).1) (List.mem_of_mem_take hy)
            rw [hS'.out] at hyS
            refine ⟨Int.ediv_nonneg (Int.mul_nonneg (by omega) hy5.1) (by omega), ?_⟩
            have h1 : (tn : Int) * y ≤ tn * sn := Int.mul_le_mul_of_nonneg_left hyS (by omega)
            have h2 : (tn : Int) * y / sn ≤ tn := Int.ediv_le_of_le_mul (by omega) h1
            unfold qM
            omega
          have hq0 := sum_nonneg fun z hz => (hqa z hz).1
          have hq1 := sum_le fun z hz => (hqa z hz).2
          have hq2 : ((xs.take i).map (qM tn sn)).length ≤ 4096 := by simp; omega
          generalize ((xs.take i).map (qM tn sn)).length = ql at *
          clear hqa
          generalize hq : sumI ((xs.take i).map (qM tn sn)) = q at *
          have hq' := Lib.hid hq
          clear hq
          have cc := hrows.out.c
          go_wp2_with (first
            | (go_at_call 42; refine (hM.out _).mono ?_; clear hM; rintro e w3 ⟨rfl, rfl⟩)
            | (go_at_call 43; refine (hD.out _).mono ?_; clear hD; rintro e w3 ⟨rfl, hgw⟩; have cc := hgw.only.cellF cc))
          have hrw := Lib.hid (hrows.out.quiet hgw.only)
          have kp := hrw.out.p.cell hi
          have kr := hrw.out.r.cell hi
          have kl := hrw.out.l.cell hi
          have fp := hrw.out.p.frozen i
          have fr := hrw.out.r.frozen i
          have fl := hrw.out.l.frozen i
          have c3 : ∀ V, Only (fun k => k = w.heap.size ∨ k = w.heap.size + 1 ∨ k = w.heap.size + 1 + 1 + 1) w3.drew V → V.cell? ⟨w.heap.size + 1 + 1, 0, none⟩ = some (.slice (some ⟨w.heap.size + 1, 0, none⟩) xs.length xs.length) := fun V hV => hV.keeps cc (by simp; omega)
          refine wp_region_ord (.read 0 (.read 1 (.read 2 (.read 3 (.read 4 (.read 5 (.read 6 (.read 7 (.read 8 (.read 9 (.read 10 (.turn 11 (.read 12 (.turn 13 (.read 14 (.turn 15 .stop)))))))))))))))) (Only (fun k => k = w.heap.size ∨ k = w.heap.size + 1 ∨ k = w.heap.size + 1 + 1 + 1) _) (by kernel_rfl) (by kernel_rfl) (by kernel_rfl) (by first | exact Only.refl _ _ | assumption) ?_
          refine wpOrd_reads (v := ?_) rfl rfl (fun _ _ _ h => h) ?_ ?_
          rotate_left
          · intro W hW; go_simp; try with_reducible rfl
          go_frame
          refine wpOrd_reads (v := ?_) rfl rfl (fun _ _ _ h => h) ?_ ?_
          rotate_left
          · intro W hW; go_simp; try with_reducible rfl
          go_frame
          refine wpOrd_reads (v := ?_) rfl rfl (fun _ _ _ h => h) ?_ ?_
          rotate_left
          · intro W hW; go_simp; try with_reducible rfl
          go_frame
          refine wpOrd_reads (v := ?_) rfl rfl (fun _ _ _ h => h) ?_ ?_
          rotate_left
          · intro W hW; go_simp; try with_reducible rfl
          go_frame
          refine wpOrd_reads (v := ?_) rfl rfl (fun _ _ _ h => h) ?_ ?_
          rotate_left
          · intro W hW; go_simp; try with_reducible rfl
          go_frame
          refine wpOrd_reads (v := ?_) rfl rfl (fun _ _ _ h => h) ?_ ?_
          rotate_left
          · intro W hW; go_simp; try with_reducible rfl
          go_frame
          refine wpOrd_reads (v := ?_) rfl rfl (fun _ _ _ h => h) ?_ ?_
          rotate_left
          · intro W hW; go_simp; try with_reducible rfl
          go_frame
          refine wpOrd_reads (v := ?_) rfl rfl (fun _ _ _ h => h) ?_ ?_
          rotate_left
          · intro W hW; go_simp; try with_reducible rfl
          go_frame
          refine wpOrd_reads (v := ?_) rfl rfl (fun _ _ _ h => h) ?_ ?_
          rotate_left
          · intro W hW; go_simp; try with_reducible rfl
          go_frame
          refine wpOrd_reads (v := ?_) rfl rfl (fun _ _ _ h => h) ?_ ?_
          rotate_left
          · intro W hW; go_simp; try with_reducible rfl
          go_frame
          refine wpOrd_reads (v := ?_) rfl rfl (fun _ _ _ h => h) ?_ ?_
          rotate_left
          · intro W hW; go_simp; try with_reducible rfl
          go_frame
          refine wpOrd_turns rfl ?_
          go_wp2
          refine ⟨(Only.refl _ _).setCell (fun _ => .inl rfl) _, ?_⟩
          refine wpOrd_reads (v := ?_) rfl rfl (fun _ _ _ h => h) ?_ ?_
          rotate_left
          · intro W hW; go_simp; try with_reducible rfl
          go_frame
          refine wpOrd_turns rfl ?_
          go_wp2
          refine ⟨((Only.refl _ _).setCell (fun _ => .inl rfl) _).setCell (fun _ => .inr (.inl rfl)) _, ?_⟩
          refine wpOrd_reads (v := ?_) rfl rfl (fun _ _ _ h => h) ?_ ?_
          rotate_left
          · intro W hW; go_simp; try with_reducible rfl
          go_frame
          refine wpOrd_turns rfl ?_
          go_wp2
          refine ⟨(((Only.refl _ _).setCell (fun _ => .inl rfl) _).setCell (fun _ => .inr (.inl rfl)) _).setCell (fun _ => .inr (.inr rfl)) _, ?_⟩
          refine wpOrd_nil ?_
          go_wp2_with fail
          go_roundg (xs.length - (i + 1))
          case measure => omega
          case rel =>
            have hq3 := hsum.out
            obtain ⟨hQ1, hR1⟩ := hQR.out
            have eQ : qM tn sn xn = (Q : Int) := by rw [← hQ1]; simp [qM]
            have eR : rM tn sn xn = (Rr : Int) := by rw [← hR1]; simp [rM]
            refine ⟨i + 1, by simp, ?_, by omega, Lib.hid ⟨?_, ?_, ?_, ?_, ?_, ?_⟩⟩
            · first | exact congrArg (Value.int .i64) (by omega) | exact congrArg (Value.int .i64) ((IntWalk.wrap64_in _ (by omega)).trans (by omega))
            · exact ((((hrw.out.p.set i _).setOther (by first | (simp; done) | (simp; omega)) _).setOther (by first | (simp; done) | (simp; omega)) _).drew).congr fun j _ => by rw [← eQ]; exact prow_step hX1.out j
            · exact ((((hrw.out.r.setOther (by first | (simp; done) | (simp; omega)) _).set i _).setOther (by first | (simp; done) | (simp; omega)) _).drew).congr fun j _ => by rw [← eR]; exact rrow_step hX1.out j
            · exact c3 _ (((((Only.refl _ _).setCell (fun _ => .inl rfl) _).setCell (fun _ => .inr (.inl rfl)) _).setCell (fun _ => .inr (.inr rfl)) _))
            · have := hrw.out.b
              simpa using this
            · exact ((((hrw.out.l.setOther (by first | (simp; done) | (simp; omega)) _).setOther (by first | (simp; done) | (simp; omega)) _).set i _).drew).congr fun j _ => lrow_step j
            · exact (((hrw.out.o.setCell (fun h => absurd h (by first | (simp; done) | (simp; omega))) _).setCell (fun h => absurd h (by first | (simp; done) | (simp; omega))) _).setCell (fun h => absurd h (by first | (simp; done) | (simp; omega))) _).drew
        · have hie : i = xs.length := by omega
          subst hie
          rw [List.take_length]
          have hL := left_bd tn xs (by rw [hS'.out]; omega)
          have hLe : leftM tn xs = (tn : Int) - sumI (xs.map (qM tn sn)) := by unfold leftM; rw [hS'.out]
          rw [← hLe]
          obtain ⟨left, hleft⟩ := Int.eq_ofNat_of_zero_le hL.1
          rw [hleft] at hL ⊢
          have hLeft := Lib.hid hleft
          clear hleft hLe
          have hL2 := hL.2
          clear hL
          have hsort := sort_places (W := wr) (g2 := w.heap.size + 1) (g3 := w.heap.size + 1 + 1) (g4 := w.heap.size + 1 + 1 + 1) (xs.map (rM tn sn)) o3 o4 hrows.out.c (hrows.out.r.congr fun j hj => by simp [RRow, hj]) (hrows.out.l.congr fun j hj => by simp [LRow, hj]) (by omega) (by omega)
          have hSo := Lib.hid hsort
          have hPp : Hid (wr.rowIs w.heap.size 2 xs.length (fun j => .int .i64 (((xs.map (qM tn sn))[j]?.getD 0)))) := Lib.hid (hrows.out.p.congr fun j hj => by simp [PRow, hj])
          have hOo := Lib.hid hrows.out.o
          have hb1 : w.heap.size + 1 + 1 < wr.heap.size := hrows.out.b
          clear hsort hrows
          go_wp2_with (go_at_call 44; refine hSo.out.mono ?_; clear hSo; rintro e w4 ⟨rfl, hl4, ho4⟩; have hL4 := Lib.hid hl4; have hO4 := Lib.hid ho4; clear hl4 ho4)
          have hP4 := Lib.hid (rowIs_only hPp.out hO4.out (by omega))
          have hOw := Lib.hid (hOo.out.trans hO4.out fun i hi hf => by omega)
          have hqb : Hid (∀ j : Nat, 0 ≤ (xs.map (qM tn sn))[j]?.getD 0 ∧ (xs.map (qM tn sn))[j]?.getD 0 ≤ 1099511627776) := Lib.hid fun j => by
            rw [List.getElem?_map]
            cases hj : xs[j]? with
            | none => simp
            | some y =>
              have hm := List.mem_of_getElem? hj
              have hy5 := hR.out y hm
              have hyS := sum_mem_le (l := xs) (fun y hy => (hR.out y hy).1) hm
              rw [hS'.out] at hyS
              refine ⟨Int.ediv_nonneg (Int.mul_nonneg (by omega) hy5.1) (by omega), ?_⟩
              have h1 : (tn : Int) * y ≤ tn * sn := Int.mul_le_mul_of_nonneg_left hyS (by omega)
              have h2 : (tn : Int) * y / sn ≤ tn := Int.ediv_le_of_le_mul (by omega) h1
              simp only [Option.map_some, Option.getD_some, qM]
              omega
          clear hPp hOo hO4 hb1
          have hfin : Hid (splitM tn xs = bump (xs.map (qM tn sn)) ((orderM (xs.map (rM tn sn)) xs.length).take left)) := Lib.hid (by
            unfold splitM
            rw [if_neg ht, hS'.out, hLeft.out]
            rfl)
          generalize hps : xs.map (qM tn sn) = ps at *
          generalize hor : orderM (xs.map (rM tn sn)) xs.length = ord at *
          have hpl : Hid (ps.length = xs.length) := Lib.hid (by rw [← hps, List.length_map])
          have hol : Hid (ord.length = xs.length) := Lib.hid (by rw [← hor, order_length])
          have hob : Hid (∀ k ∈ ord, k < xs.length) := Lib.hid (by rw [← hor]; exact fun k hk => order_lt hk)
          clear hps hor
          go_loopg [101] (left) (fun g v101 wr => ∃ k : Nat, v101 = .int .i64 (k : Int) ∧ k + g = left ∧ Hid (wr.rowIs w.heap.size 2 xs.length (fun j => .int .i64 ((bump ps (ord.take k))[j]?.getD 0))) ∧ Hid (wr.rowIs (w.heap.size + 1 + 1 + 1) 3 xs.length (fun j => .int .i64 ((ord[j]?.getD 0 : Nat) : Int))) ∧ Hid (Only (fun _ => False) w wr))
          case atStart => exact ⟨0, rfl, by omega, hP4, hL4, hOw⟩
          case round =>
            obtain ⟨k, rfl, hg, hp, hl, ho⟩ := hrel
            by_cases hk : k < left
            · obtain ⟨p, hpk⟩ : ∃ p, ord[k]? = some p := ⟨ord[k]'(by rw [hol.out]; omega), List.getElem?_eq_getElem _⟩
              have hpn := hob.out p (List.mem_of_getElem? hpk)
              have kl := hl.out.cell (show k < xs.length by omega)
              rw [hpk] at kl
              simp only [Option.getD_some] at kl
              have kp := hp.out.cell hpn
              have fp := hp.out.frozen p
              have hbd := bump_bd 1099511627776 (by omega) (ord.take k) ps hqb.out p
              have hkl : (ord.take k).length ≤ 4096 := by simp; omega
              have hst := Lib.hid (bump_step (l := ps) hpk)
              clear hpk
              generalize (ord.take k).length = kk at *
              generalize hy : (bump ps (ord.take k))[p]?.getD 0 = y at *
              go_wp2_with fail
              go_roundg (left - (k + 1))
              case measure => omega
              case rel =>
                refine ⟨k + 1, by simp, by omega, Lib.hid ?_, Lib.hid ?_, Lib.hid ?_⟩
                · exact (hp.out.set p _).congr fun j hj => by
                    rw [hst.out, List.getElem?_set]
                    by_cases hjp : j = p
                    · subst hjp
                      rw [if_pos rfl, if_pos rfl, if_pos (by rw [bump_length, hpl.out]; exact hpn)]
                      first | rfl | (simp; done) | exact congrArg (Value.int .i64) (by simp)
                    · rw [if_neg hjp, if_neg (fun e => hjp e.symm)]
                · exact hl.out.setOther (by first | (simp; done) | (simp; omega)) _
                · exact ho.out.setCell (fun h => absurd h (by simp)) _
            · have hke : k = left := by omega
              subst hke
              go_wp2_with fail
              go_ret2
              refine ⟨_, rfl, reads_row hp.out (by rw [hfin.out, bump_length, hpl.out]) (fun i x hx => ?_), ho.out, fun b hb => by cases hb; exact Nat.le_refl _⟩
              rw [hfin.out] at hx
              rw [hx]
              rfl
theorem split_any (w : World) (t : Int) {v : Value} {xs : List Int} (h : ReadsI w v xs) (hok : wrongM t xs = 0) : Calls Tryz.prog 30 #[.int .i64 t, v] w (SplitPost t xs w) := by
  by_cases ht : t = 0
  · subst ht
    exact split0_any w h hok
  · exact split1_any w t h hok ht
end Go.Proofs.YteecfjkljmmecaaGreat
