/- WALK: dispute.Money. -/
import Derived.Test.YteecfjkljmmecaaGreatMe
namespace Go.Proofs.YteecfjkljmmecaaGreat
open Go.RowKit Go.Sort Go.Shelf
def MoneyPost (pot : Int) (xs : List Clm) (w : World) (e : Ending) (w' : World) : Prop := ∃ v', e = .returned (.tuple #[v', .int .i64 (moneyM pot xs).2, .int .i64 0]) ∧ ReadsI w' v' (moneyM pot xs).1 ∧ Only (fun _ => False) w w'
def stateM (pot : Int) (l : List Clm) (r : Nat) : List Int × Int := ((List.range r).map fun k : Nat => (k : Int)).foldl (fun s r => roundM l r s) (l.map fun _ => 0, pot)
theorem stateM_step (pot : Int) (l : List Clm) (r : Nat) : stateM pot l (r + 1) = roundM l r (stateM pot l r) := by
  unfold stateM
  rw [List.range_succ, List.map_append, List.foldl_append]
  rfl
theorem stateM_all (pot : Int) (l : List Clm) : stateM pot l 5 = moneyM pot l := rfl
/-- Two rows of a call's own: the places, and the amounts. -/
structure Sel (w0 : World) (u v : Value) (ps : List Nat) (am : List Int) (w : World) : Prop where
  p : w.ownsRow w0.heap.size 3 1 u ps.length (ps.map fun k : Nat => .int .i64 (k : Int))
  a : w.ownsRow w0.heap.size 2 1 v am.length (am.map fun x => .int .i64 x)
  ne : ∀ b, u.ownBlock = some b → v.ownBlock ≠ some b
  o : Only (fun _ => False) w0 w
theorem Sel.place {w0 w w' : World} {u v u' : Value} {ps : List Nat} {am : List Int} {k : Nat} (h : Sel w0 u v ps am w) (ho : w'.ownsRow w0.heap.size 3 1 u' (ps.length + 1) ((ps.map fun k : Nat => .int .i64 (k : Int)) ++ [.int .i64 (k : Int)])) (hg : w.grownBy w' u.ownBlock) (hb : u'.ownBlock = u.ownBlock ∨ u'.ownBlock = some w.heap.size) : Sel w0 u' v (ps ++ [k]) am w' where
  p := by simpa using ho
  a := h.a.kept hg (by
    cases hv : v.ownBlock with
    | none => exact .inl rfl
    | some b => exact .inr fun e => h.ne b e.symm hv)
  ne b e hv := by
    rcases hb with hb | hb
    · exact h.ne b (hb.symm.trans e) hv
    · have := (h.a.lt b hv).2
      rw [hb] at e
      injection e with e
      omega
  o := h.o.grown hg fun b e hl => by have := (h.p.lt b e).1; omega
theorem Sel.amount {w0 w w' : World} {u v v' : Value} {ps : List Nat} {am : List Int} {x : Int} (h : Sel w0 u v ps am w) (ho : w'.ownsRow w0.heap.size 2 1 v' (am.length + 1) ((am.map fun x => .int .i64 x) ++ [.int .i64 x])) (hg : w.grownBy w' v.ownBlock) (hb : v'.ownBlock = v.ownBlock ∨ v'.ownBlock = some w.heap.size) : Sel w0 u v' ps (am ++ [x]) w' where
  p := h.p.kept hg (by
    cases hv : u.ownBlock with
    | none => exact .inl rfl
    | some b => exact .inr fun e => h.ne b hv e.symm)
  a := by simpa using ho
  ne b e hv := by
    rcases hb with hb | hb
    · exact h.ne b e (hb.symm.trans hv)
    · have := (h.p.lt b e).2
      rw [hb] at hv
      injection hv with hv
      omega
  o := h.o.grown hg fun b e hl => by have := (h.a.lt b e).1; omega
theorem ownsRow_only {F : Nat → Prop} {w w' : World} {base : Nat} {e : TypeId} {size n : Nat} {v : Value} {xs : List Value} (h : w.ownsRow base e size v n xs) (ho : Only F w w') (hf : ∀ b, v.ownBlock = some b → ¬ F b) : w'.ownsRow base e size v n xs := by
  refine ⟨h.1, ?_⟩
  rcases h.2 with h2 | ⟨g, cap, cur, rfl, h1, h2, h3, h4, h5, h6⟩
  · exact .inl h2
  · exact .inr ⟨g, cap, cur, rfl, h1, by rw [ho.block g (Array.getElem?_eq_some_iff.1 h2).1 (hf g rfl)]; exact h2, h3, h4, h5, h6⟩
theorem Sel.quiet {w0 w w' : World} {u v : Value} {ps : List Nat} {am : List Int} (h : Sel w0 u v ps am w) (ho : Only (fun _ => False) w w') : Sel w0 u v ps am w' :=
  ⟨ownsRow_only h.p ho fun _ _ => id, ownsRow_only h.a ho fun _ _ => id, h.ne, h.o.trans ho fun _ _ => id⟩
theorem ReadsI.only {F : Nat → Prop} {w w' : World} {v : Value} {xs : List Int} (h : ReadsI w v xs) (ho : Only F w w') (hf : ∀ b, v.ownBlock = some b → ¬ F b) : ReadsI w' v xs := by
  obtain ⟨A, c, rfl, hc⟩ := h
  refine ⟨A, c, rfl, fun i x hx => ?_⟩
  obtain ⟨b, off, rfl, hr⟩ := hc i x hx
  exact ⟨b, off, rfl, ho.keeps hr (hf b rfl)⟩
theorem ReadsI.of_own {w : World} {base : Nat} {e : TypeId} {v : Value} {xs : List Int} (h : w.ownsRow base e 1 v xs.length (xs.map fun x => .int .i64 x)) : ReadsI w v xs := by
  rcases h.2 with ⟨rfl, h0⟩ | ⟨g, cap, cur, rfl, hb, hh, h1, h2, h3, h4⟩
  · exact ⟨none, 0, by rw [h0], fun i x hx => by have := List.eq_nil_of_length_eq_zero h0; subst this; simp at hx⟩
  · refine ⟨_, cap, rfl, fun i x hx => ⟨g, 0, rfl, ?_⟩⟩
    have hj : (xs.map fun x => Value.int .i64 x)[i]? = some (.int .i64 x) := by rw [List.getElem?_map, hx]; rfl
    rw [← h4, List.getElem?_take] at hj
    split at hj
    · simp only [World.cell?, hh]
      simpa using hj
    · cases hj
theorem Only.one {F : Nat → Prop} {a b : World} (_h : Only F a b) (v : Value) (t : TypeId) : (b.alloc (.cells #[v] t)).cell? ⟨b.heap.size, 0, none⟩ = some v := by simp
theorem cell_news {w : World} {a : Addr} {v : Value} (h : w.cell? a = some v) : ∀ j u, [v][j]? = some u → w.cell? (a.add j) = some u := by
  intro j u hj
  match j, hj with
  | 0, hj =>
    simp at hj
    subst hj
    exact h
theorem stateM_length (pot : Int) (l : List Clm) (r : Nat) : (stateM pot l r).1.length = l.length := by
  induction r with
  | zero => simp [stateM]
  | succ n ih => rw [stateM_step, roundM_length, ih]
set_option maxHeartbeats 8000000 in
set_option maxRecDepth 100000 in
theorem money_yes (w : World) (pot : Int) {v : Value} {xs : List Clm} (h : ReadsC w v xs) (hs : Short xs) (hl : xs.length ≤ 9223372036854775807) (he : moneyErr pot xs = 0) : Calls Tryz.prog 18 #[.int .i64 pot, v] w (MoneyPost pot xs w) := by
  have hA := claims_any w h hs hl
  obtain ⟨h0, p1, p2⟩ : allM xs = 0 ∧ 0 ≤ pot ∧ pot ≤ 1099511627776 := by
    unfold moneyErr at he
    split at he
    · cases he
    · exact ⟨he, by omega, by omega⟩
  obtain ⟨n1, hm⟩ := allM_ok h0
  unfold AllPost at hA
  rw [h0] at hA
  have hAl := Lib.hid hA
  have hX := Lib.hid h
  have hM := Lib.hid hm
  clear hA he hm h0
  have hm1 := run_make_row' (P := Tryz.prog) 35 2 (.int .i64 0) 8 Tryz.underlying35 info2 rfl .i64 .i64 xs.length (by omega) (by omega)
  obtain ⟨A, c, rfl, _⟩ := h
  go_enter Tryz.func18, Tryz.ntmps18
  go_wp2_with (first | (go_at_call 29; refine hAl.out.mono ?_; clear hAl; rintro e w1 ⟨rfl, hg⟩))
  generalize hw2 : w1.alloc (Obj.cells (madeCells #[Value.int IntKind.i64 0] xs.length) 2) = w2
  have hr2 : Hid (w2.rowIs w1.heap.size 2 xs.length (fun j => .int .i64 ((stateM pot xs 0).1[j]?.getD 0))) := Lib.hid (by
    subst hw2
    exact (World.rowIs_made _ _ _ _).congr fun j hj => by simp [stateM, hj])
  have ho2 : Hid (Only (fun _ => False) w w2) := Lib.hid (by subst hw2; exact hg.only.alloc _)
  have hs2 : w.heap.size ≤ w1.heap.size := hg.only.size
  have hs3 : w1.heap.size < w2.heap.size := by subst hw2; simp
  clear hw2 hg
  go_loopg [35, 0] (5) (fun g v35 v0 wr => ∃ r : Nat, v35 = .int .i64 (r : Int) ∧ v0 = .int .i64 (stateM pot xs r).2 ∧ r + g = 5 ∧ 0 ≤ (stateM pot xs r).2 ∧ (stateM pot xs r).2 ≤ 1099511627776 ∧ Hid (wr.rowIs w1.heap.size 2 xs.length (fun j => .int .i64 ((stateM pot xs r).1[j]?.getD 0))) ∧ Hid (Only (fun _ => False) w wr) ∧ w1.heap.size < wr.heap.size)
  case atStart => exact ⟨0, rfl, rfl, by omega, p1, p2, hr2, ho2, hs3⟩
  case round =>
    obtain ⟨r, rfl, rfl, hg, b1, b2, hrow, ho, hsz⟩ := hrel
    generalize wr = wo at *
    by_cases hr5 : r < 5
    · have hrb : decide ((r : Int) < 5) = true := by simp; omega
      go_wp2
      go_loopg [40, 10, 11, 12] (xs.length) (fun g v40 v10 v11 v12 wr => ∃ i : Nat, v40 = .int .i64 (i : Int) ∧ i + g = xs.length ∧ v12 = .int .i64 (sumI (amountsT xs r i)) ∧ Hid (Sel wo v10 v11 (placesT xs r i) (amountsT xs r i) wr))
      case atStart => exact ⟨0, rfl, by omega, by simp [amountsT], Lib.hid ⟨⟨by simp [placesT], .inl ⟨rfl, by simp [placesT]⟩⟩, ⟨by simp [amountsT], .inl ⟨rfl, by simp [amountsT]⟩⟩, fun b e => by simp [Value.ownBlock] at e, Only.refl _ _⟩⟩
      case round =>
        obtain ⟨i, rfl, hgi, rfl, hsel⟩ := hrel
        by_cases hi : i < xs.length
        · obtain ⟨x, hx⟩ : ∃ x, xs[i]? = some x := ⟨xs[i], List.getElem?_eq_getElem hi⟩
          obtain ⟨A', c', hA', hr⟩ := ReadsC.cells wr (hX.out.quiet (ho.out.trans hsel.out.o fun _ _ => id))
          injection hA' with hA1 hA2 hA3
          subst hA1 hA3
          obtain ⟨b, off, rfl, k0, k1, k2, k3, k4⟩ := hr i x hx
          have hpl := Lib.hid (placesT_step (r := r) hx)
          have ham := Lib.hid (amountsT_step (r := r) hx)
          have hx5 := may_amt (hM.out x (List.mem_of_getElem? hx))
          have hpa := placesT_length xs r i (by omega)
          have hal := amountsT_len_le xs r i
          have hq0 := sum_nonneg (l := amountsT xs r i) fun y hy => by
            obtain ⟨c, hc, rfl⟩ := amountsT_mem hy
            exact (may_amt (hM.out c hc)).2.2.1
          have hq1 := sum_le (l := amountsT xs r i) (m := 1099511627776) fun y hy => by
            obtain ⟨c, hc, rfl⟩ := amountsT_mem hy
            exact (may_amt (hM.out c hc)).2.2.2
          clear hr hA2 hx
          obtain ⟨a1, a2, a3, a4, a5⟩ := x
          simp only at k0 k1 k2 k3 k4 hpl ham hx5
          generalize hps : placesT xs r i = ps at *
          generalize hams : amountsT xs r i = am at *
          generalize hsu : sumI am = q at *
          have hSU := Lib.hid hsu
          clear hsu hps hams
          by_cases hrt : a3 = (r : Int)
          · have hb : (a3 == (r : Int)) = true := by simpa using hrt
            rw [if_pos hrt] at hpl ham
            clear hrt
            have hpn : ps.length ≤ 4096 := by omega
            have han : am.length ≤ 4096 := by omega
            have hQ : IntKind.i64.wrap (q + a5) = q + a5 := IntWalk.i64_in _ (by omega)
            clear hpa
            obtain ⟨sA, sc, rfl⟩ := own_sl hsel.out.p
            obtain ⟨tA, tc, rfl⟩ := own_sl hsel.out.a
            obtain ⟨i3, hi3, hz3, hz31, hz32⟩ := info_parts info3
            obtain ⟨i2, hi2, hz2, hz21, hz22⟩ := info_parts info2
            have hwo : wo.heap.size ≤ wr.heap.size := hsel.out.o.size
            have hlp : ∀ k, (Value.slice sA ps.length sc).ownBlock = some k → k < wr.heap.size := fun k hk => (hsel.out.p.lt k hk).2
            have hla : ∀ k, (Value.slice tA am.length tc).ownBlock = some k → k < wr.heap.size := fun k hk => (hsel.out.a.lt k hk).2
            go_wp2
            generalize hW0 : wr.alloc (Obj.cells #[Value.string a1, Value.string a2, Value.int IntKind.i64 a3, Value.int IntKind.i64 a4, Value.int IntKind.i64 a5] 23) = W0
            have hSel := Lib.hid (hW0 ▸ (hsel.out.quiet ((Only.refl _ wr).alloc _)).quiet (Only.refl _ _).drew : Sel wo (.slice sA ps.length sc) (.slice tA am.length tc) ps am W0.drew)
            have e4 : W0.cell? ⟨wr.heap.size, 4, none⟩ = some (.int .i64 a5) := by subst hW0; go_simp
            have hs0 : W0.heap.size = wr.heap.size + 1 := by subst hW0; simp
            have hs1 : wr.heap.size < W0.heap.size := by omega
            clear hW0 hs0
            generalize wr.heap.size = B at *
            have kb : ∀ W, Only (fun k => (Value.slice sA ps.length sc).ownBlock = some k ∨ (Value.slice tA am.length tc).ownBlock = some k) W0.drew W → W.cell? ⟨B, 4, none⟩ = some (.int .i64 a5) := fun W hW => hW.keeps e4 (fun e => by rcases e with e | e; exact absurd (hlp _ e) (by simp); exact absurd (hla _ e) (by simp))
            have hO := Only.refl (fun k => (Value.slice sA ps.length sc).ownBlock = some k ∨ (Value.slice tA am.length tc).ownBlock = some k) W0.drew
            refine wp_region_ord (.read 0 (.read 1 (.read 4 (.read 5 (.read 6 (.read 9 (.read 10 (.read 11 (.read 12 (.fork 2 7 (.fork 3 7 (.turn 7 (.turn 8 (.read 13 (.read 14 (.read 15 .stop))))) (.turn 3 (.turn 8 (.read 13 (.read 14 (.read 15 .stop)))))) (.turn 2 (.turn 3 (.turn 8 (.read 13 (.read 14 (.read 15 .stop)))))))))))))))) (Only (fun k => (Value.slice sA ps.length sc).ownBlock = some k ∨ (Value.slice tA am.length tc).ownBlock = some k) _) (by kernel_rfl) (by kernel_rfl) (by kernel_rfl) (by first | exact Only.refl _ _ | assumption) ?_
            refine wpOrd_reads (v := ?_) rfl rfl (fun _ _ _ h => h) ?_ ?_
            rotate_left
            · intro W hW; go_simp; try with_reducible rfl
            go_frame
            refine wpOrd_reads (v := ?_) rfl rfl (fun _ _ _ h => h) ?_ ?_
            rotate_left
            · intro W hW; go_simp; try with_reducible rfl
            go_frame
            refine wpOrd_reads (v := ?_) rfl rfl (fun _ _ _ h => h) ?_ ?_
            rotate_left
            · intro W hW; go_simp; try with_reducible rfl
            go_frame
            refine wpOrd_reads (v := ?_) rfl rfl (fun _ _ _ h => h) ?_ ?_
            rotate_left
            · intro W hW; go_simp; try with_reducible rfl
            go_frame
            refine wpOrd_reads (v := ?_) rfl rfl (fun _ _ _ h => h) ?_ ?_
            rotate_left
            · intro W hW; go_simp; try with_reducible rfl
            go_frame
            refine wpOrd_reads (v := ?_) rfl rfl (fun _ _ _ h => h) ?_ ?_
            rotate_left
            · intro W hW; go_simp; try with_reducible rfl
            go_frame
            refine wpOrd_reads (v := ?_) rfl rfl (fun _ _ _ h => h) ?_ ?_
            rotate_left
            · intro W hW; go_simp; try with_reducible rfl
            go_frame
            refine wpOrd_reads (v := ?_) rfl rfl (fun _ _ _ h => h) ?_ ?_
            rotate_left
            · intro W hW; go_simp; try with_reducible rfl
            go_frame
            refine wpOrd_reads (v := ?_) rfl rfl (fun _ _ _ h => h) ?_ ?_
            rotate_left
            · intro W hW; go_simp; try with_reducible rfl
            go_frame
            refine wpOrd_forks ?_ ?_
            · refine wpOrd_turns rfl ?_
              go_wp2
              have cA := hO.one (.int .i64 (i : Int)) 3
              try have cB := ((Only.refl (fun _ => False) _).alloc (.cells #[.int .i64 (i : Int)] 3)).cellF cB
              have hSel := Lib.hid (hSel.out.quiet ((Only.refl _ _).alloc (.cells #[.int .i64 (i : Int)] 3)))
              have hO := hO.alloc (.cells #[.int .i64 (i : Int)] 3)
              refine ⟨hO, ?_⟩
              refine wpOrd_forks ?_ ?_
              · refine wpOrd_turns rfl ?_
                refine wpList_append_own_at _ rfl _ _ 57 rfl wo.heap.size 3 i3 _ 1 8 Tryz.underlying57 hi3 hz3 hz31 hz32 rfl (by decide) _ ps.length _ rfl hSel.out.p _ _ _ [.int .i64 (i : Int)] rfl rfl ?_ ?_ ?_ ?_ ?_ ?_
                · exact cell_news (by first | exact cA | simp | simpa using cA)
                · intro u hu; simp at hu; subst hu; rfl
                · unfold maxLen; omega
                · omega
                · exact hSel.out.o.size
                intro v1 w8 hown8 hg8 _ hat8
                have hO := hO.grown hg8 (fun k hk _ => .inl hk)
                have hSel := Lib.hid (hSel.out.place (k := i) hown8 hg8 hat8)
                try have cB := hg8.cell cB (fun e => by have := hlp _ e.symm; simp at this; omega)
                obtain ⟨sA1, sc1, rfl⟩ := own_sl hSel.out.p
                refine wpList_nil ⟨hO, ?_⟩
                refine wpOrd_turns rfl ?_
                go_wp2
                have cB := hO.one (.int .i64 a5) 2
                try have cA := ((Only.refl (fun _ => False) _).alloc (.cells #[.int .i64 a5] 2)).cellF cA
                have hSel := Lib.hid (hSel.out.quiet ((Only.refl _ _).alloc (.cells #[.int .i64 a5] 2)))
                have hO := hO.alloc (.cells #[.int .i64 a5] 2)
                refine ⟨hO, ?_⟩
                refine wpOrd_turns rfl ?_
                refine wpList_append_own_at _ rfl _ _ 35 rfl wo.heap.size 2 i2 _ 1 8 Tryz.underlying35 hi2 hz2 hz21 hz22 rfl (by decide) _ am.length _ rfl hSel.out.a _ _ _ [.int .i64 a5] rfl rfl ?_ ?_ ?_ ?_ ?_ ?_
                · exact cell_news (by first | exact cB | simp | simpa using cB)
                · intro u hu; simp at hu; subst hu; rfl
                · unfold maxLen; omega
                · omega
                · exact hSel.out.o.size
                intro v2 w9 hown9 hg9 _ hat9
                have hO := hO.grown hg9 (fun k hk _ => .inr hk)
                have hSel := Lib.hid (hSel.out.amount (x := a5) hown9 hg9 hat9)
                obtain ⟨tA1, tc1, rfl⟩ := own_sl hSel.out.a
                refine wpList_nil ⟨hO, ?_⟩
                refine wpOrd_reads (v := ?_) rfl rfl (fun _ _ _ h => h) ?_ ?_
                rotate_left
                · intro W hW; go_simp; try with_reducible rfl
                go_frame
                refine wpOrd_reads (v := ?_) rfl rfl (fun _ _ _ h => h) ?_ ?_
                rotate_left
                · intro W hW; go_simp; try with_reducible rfl
                go_frame
                refine wpOrd_reads (v := ?_) rfl rfl (fun _ _ _ h => h) ?_ ?_
                rotate_left
                · intro W hW; go_simp; try with_reducible rfl
                go_frame
                refine wpOrd_nil ?_
                clear e4 kb
                go_wp2_with fail
                go_roundg (xs.length - (i + 1))
                case measure => omega
                case rel => exact ⟨i + 1, by simp, by omega, by rw [ham.out, sumI_append, hSU.out]; simp, Lib.hid (by rw [hpl.out, ham.out]; have := hSel.out; simpa using this)⟩
              · refine wpOrd_turns rfl ?_
                go_wp2
                have cB := hO.one (.int .i64 a5) 2
                try have cA := ((Only.refl (fun _ => False) _).alloc (.cells #[.int .i64 a5] 2)).cellF cA
                have hSel := Lib.hid (hSel.out.quiet ((Only.refl _ _).alloc (.cells #[.int .i64 a5] 2)))
                have hO := hO.alloc (.cells #[.int .i64 a5] 2)
                refine ⟨hO, ?_⟩
                refine wpOrd_turns rfl ?_
                refine wpList_append_own_at _ rfl _ _ 57 rfl wo.heap.size 3 i3 _ 1 8 Tryz.underlying57 hi3 hz3 hz31 hz32 rfl (by decide) _ ps.length _ rfl hSel.out.p _ _ _ [.int .i64 (i : Int)] rfl rfl ?_ ?_ ?_ ?_ ?_ ?_
                · exact cell_news (by first | exact cA | simp | simpa using cA)
                · intro u hu; simp at hu; subst hu; rfl
                · unfold maxLen; omega
                · omega
                · exact hSel.out.o.size
                intro v1 w8 hown8 hg8 _ hat8
                have hO := hO.grown hg8 (fun k hk _ => .inl hk)
                have hSel := Lib.hid (hSel.out.place (k := i) hown8 hg8 hat8)
                try have cB := hg8.cell cB (fun e => by have := hlp _ e.symm; simp at this; omega)
                obtain ⟨sA1, sc1, rfl⟩ := own_sl hSel.out.p
                refine wpList_nil ⟨hO, ?_⟩
                refine wpOrd_turns rfl ?_
                refine wpList_append_own_at _ rfl _ _ 35 rfl wo.heap.size 2 i2 _ 1 8 Tryz.underlying35 hi2 hz2 hz21 hz22 rfl (by decide) _ am.length _ rfl hSel.out.a _ _ _ [.int .i64 a5] rfl rfl ?_ ?_ ?_ ?_ ?_ ?_
                · exact cell_news (by first | exact cB | simp | simpa using cB)
                · intro u hu; simp at hu; subst hu; rfl
                · unfold maxLen; omega
                · omega
                · exact hSel.out.o.size
                intro v2 w9 hown9 hg9 _ hat9
                have hO := hO.grown hg9 (fun k hk _ => .inr hk)
                have hSel := Lib.hid (hSel.out.amount (x := a5) hown9 hg9 hat9)
                obtain ⟨tA1, tc1, rfl⟩ := own_sl hSel.out.a
                refine wpList_nil ⟨hO, ?_⟩
                refine wpOrd_reads (v := ?_) rfl rfl (fun _ _ _ h => h) ?_ ?_
                rotate_left
                · intro W hW; go_simp; try with_reducible rfl
                go_frame
                refine wpOrd_reads (v := ?_) rfl rfl (fun _ _ _ h => h) ?_ ?_
                rotate_left
                · intro W hW; go_simp; try with_reducible rfl
                go_frame
                refine wpOrd_reads (v := ?_) rfl rfl (fun _ _ _ h => h) ?_ ?_
                rotate_left
                · intro W hW; go_simp; try with_reducible rfl
                go_frame
                refine wpOrd_nil ?_
                clear e4 kb
                go_wp2_with fail
                go_roundg (xs.length - (i + 1))
                case measure => omega
                case rel => exact ⟨i + 1, by simp, by omega, by rw [ham.out, sumI_append, hSU.out]; simp, Lib.hid (by rw [hpl.out, ham.out]; have := hSel.out; simpa using this)⟩
            · refine wpOrd_turns rfl ?_
              go_wp2
              have cB := hO.one (.int .i64 a5) 2
              try have cA := ((Only.refl (fun _ => False) _).alloc (.cells #[.int .i64 a5] 2)).cellF cA
              have hSel := Lib.hid (hSel.out.quiet ((Only.refl _ _).alloc (.cells #[.int .i64 a5] 2)))
              have hO := hO.alloc (.cells #[.int .i64 a5] 2)
              refine ⟨hO, ?_⟩
              refine wpOrd_turns rfl ?_
              go_wp2
              have cA := hO.one (.int .i64 (i : Int)) 3
              try have cB := ((Only.refl (fun _ => False) _).alloc (.cells #[.int .i64 (i : Int)] 3)).cellF cB
              have hSel := Lib.hid (hSel.out.quiet ((Only.refl _ _).alloc (.cells #[.int .i64 (i : Int)] 3)))
              have hO := hO.alloc (.cells #[.int .i64 (i : Int)] 3)
              refine ⟨hO, ?_⟩
              refine wpOrd_turns rfl ?_
              refine wpList_append_own_at _ rfl _ _ 57 rfl wo.heap.size 3 i3 _ 1 8 Tryz.underlying57 hi3 hz3 hz31 hz32 rfl (by decide) _ ps.length _ rfl hSel.out.p _ _ _ [.int .i64 (i : Int)] rfl rfl ?_ ?_ ?_ ?_ ?_ ?_
              · exact cell_news (by first | exact cA | simp | simpa using cA)
              · intro u hu; simp at hu; subst hu; rfl
              · unfold maxLen; omega
              · omega
              · exact hSel.out.o.size
              intro v1 w8 hown8 hg8 _ hat8
              have hO := hO.grown hg8 (fun k hk _ => .inl hk)
              have hSel := Lib.hid (hSel.out.place (k := i) hown8 hg8 hat8)
              try have cB := hg8.cell cB (fun e => by have := hlp _ e.symm; simp at this; omega)
              obtain ⟨sA1, sc1, rfl⟩ := own_sl hSel.out.p
              refine wpList_nil ⟨hO, ?_⟩
              refine wpOrd_turns rfl ?_
              refine wpList_append_own_at _ rfl _ _ 35 rfl wo.heap.size 2 i2 _ 1 8 Tryz.underlying35 hi2 hz2 hz21 hz22 rfl (by decide) _ am.length _ rfl hSel.out.a _ _ _ [.int .i64 a5] rfl rfl ?_ ?_ ?_ ?_ ?_ ?_
              · exact cell_news (by first | exact cB | simp | simpa using cB)
              · intro u hu; simp at hu; subst hu; rfl
              · unfold maxLen; omega
              · omega
              · exact hSel.out.o.size
              intro v2 w9 hown9 hg9 _ hat9
              have hO := hO.grown hg9 (fun k hk _ => .inr hk)
              have hSel := Lib.hid (hSel.out.amount (x := a5) hown9 hg9 hat9)
              obtain ⟨tA1, tc1, rfl⟩ := own_sl hSel.out.a
              refine wpList_nil ⟨hO, ?_⟩
              refine wpOrd_reads (v := ?_) rfl rfl (fun _ _ _ h => h) ?_ ?_
              rotate_left
              · intro W hW; go_simp; try with_reducible rfl
              go_frame
              refine wpOrd_reads (v := ?_) rfl rfl (fun _ _ _ h => h) ?_ ?_
              rotate_left
              · intro W hW; go_simp; try with_reducible rfl
              go_frame
              refine wpOrd_reads (v := ?_) rfl rfl (fun _ _ _ h => h) ?_ ?_
              rotate_left
              · intro W hW; go_simp; try with_reducible rfl
              go_frame
              refine wpOrd_nil ?_
              clear e4 kb
              go_wp2_with fail
              go_roundg (xs.length - (i + 1))
              case measure => omega
              case rel => exact ⟨i + 1, by simp, by omega, by rw [ham.out, sumI_append, hSU.out]; simp, Lib.hid (by rw [hpl.out, ham.out]; have := hSel.out; simpa using this)⟩
          · have hb : (a3 == (r : Int)) = false := by simpa using hrt
            rw [if_neg hrt] at hpl ham
            clear hrt
            go_wp2
            go_roundg (xs.length - (i + 1))
            case measure => omega
            case rel => exact ⟨i + 1, by simp, by omega, by rw [ham.out, hSU.out], Lib.hid (by rw [hpl.out, ham.out]; exact hsel.out.quiet ((Only.refl _ _).alloc _))⟩
        · have hie : i = xs.length := by omega
          subst hie
          rw [placesT_all, amountsT_all] at hsel
          rw [amountsT_all]
          have hst := Lib.hid (stateM_step pot xs r)
          have hsl := Lib.hid (stateM_length pot xs r)
          have hpl := Lib.hid (fun p (hp : p ∈ placesM xs r) => placesM_lt hp)
          have hpa : (placesM xs r).length = (amountsM xs r).length := by rw [← placesT_all, ← amountsT_all]; exact placesT_length xs r _ (Nat.le_refl _)
          have hal : (amountsM xs r).length ≤ xs.length := by rw [← amountsT_all]; exact amountsT_len_le xs r _
          have ham : ∀ y ∈ amountsM xs r, 0 ≤ y ∧ y ≤ 1099511627776 := fun y hy => by
            rw [← amountsT_all] at hy
            obtain ⟨c, hc, rfl⟩ := amountsT_mem hy
            exact (may_amt (hM.out c hc)).2.2
          have hRnd : Hid (∀ s, roundM xs r s = if s.2 < sumI (amountsM xs r) then (putM s.1 (placesM xs r) (splitM s.2 (amountsM xs r)), 0) else (putM s.1 (placesM xs r) (amountsM xs r), s.2 - sumI (amountsM xs r))) := Lib.hid fun _ => rfl
          generalize placesM xs r = ps at *
          generalize amountsM xs r = am at *
          have hSM : Hid (stateM pot xs (r + 1) = roundM xs r (stateM pot xs r)) := hst
          clear hst
          generalize stateM pot xs r = s at *
          obtain ⟨out, pt⟩ := s
          simp only at b1 b2 hrow hsl ⊢
          have hq0 := sum_nonneg fun y hy => (ham y hy).1
          have hq1 := sum_le fun y hy => (ham y hy).2
          obtain ⟨sA, sc, rfl⟩ := own_sl hsel.out.p
          obtain ⟨tA, tc, rfl⟩ := own_sl hsel.out.a
          have hwo : wo.heap.size ≤ wr.heap.size := hsel.out.o.size
          have hlp : ∀ k, (Value.slice sA ps.length sc).ownBlock = some k → w1.heap.size < k := fun k hk => by have := (hsel.out.p.lt k hk).1; omega
          have hla : ∀ k, (Value.slice tA am.length tc).ownBlock = some k → w1.heap.size < k := fun k hk => by have := (hsel.out.a.lt k hk).1; omega
          have hPl : Hid (ReadsI wr (.slice sA ps.length sc) (ps.map fun k : Nat => (k : Int))) := Lib.hid (ReadsI.of_own (by rw [List.map_map, List.length_map]; exact hsel.out.p))
          have hAm : Hid (ReadsI wr (.slice tA am.length tc) am) := Lib.hid (ReadsI.of_own hsel.out.a)
          have hOut : Hid (wr.rowIs w1.heap.size 2 xs.length fun j => .int .i64 (out[j]?.getD 0)) := Lib.hid (rowIs_only hrow.out hsel.out.o id)
          have hOn : Hid (Only (fun _ => False) w wr) := Lib.hid (ho.out.trans hsel.out.o fun _ _ => id)
          have hszr : w1.heap.size < wr.heap.size := by omega
          have hPA := Lib.hid hpa
          clear hpa
          by_cases hlt : pt < sumI am
          · have hwm := wrongM_zero b1 b2 ham (by omega) hlt
            have hSp0 := split_any wr pt hAm.out hwm
            have hRn : Hid (roundM xs r (out, pt) = (putM out ps (splitM pt am), 0)) := Lib.hid (by rw [hRnd.out, if_pos hlt])
            unfold SplitPost at hSp0
            have hSpl : (splitM pt am).length = ps.length := by rw [splitM_length, hPA.out]
            have hSp := Lib.hid hSp0
            generalize splitM pt am = am' at *
            have hAL := Lib.hid hSpl
            clear hSp0 hwm ham hSpl hAm hla
            generalize sumI am = S at *
            go_wp2_with (go_at_call 30; refine hSp.out.mono ?_; clear hSp; rintro e wq ⟨v3, rfl, hI3, hO3, hB3⟩; obtain ⟨A3, c3, rfl, _⟩ := id hI3; have hI4 := Lib.hid hI3; have hO4 := Lib.hid hO3; clear hI3 hO3)
            have hAm := hI4
            have hla : ∀ k, (Value.slice A3 am'.length c3).ownBlock = some k → w1.heap.size < k := fun k hk => by have := hB3 k hk; omega
            have hPl := Lib.hid (hPl.out.quiet hO4.out)
            have hOut := Lib.hid (rowIs_only hOut.out hO4.out id)
            have hOn := Lib.hid (hOn.out.trans hO4.out fun _ _ => id)
            have hszq := Nat.lt_of_lt_of_le hszr hO4.out.size
            clear hI4 hO4 hB3 hszr
            generalize wq = w3 at hPl hAm hOut hOn hszq ⊢
            have hszr := hszq
            have hle : am'.length ≤ 4096 := by have := hAL.out; have := hPA.out; omega
            go_loopg [75] (ps.length) (fun g v75 wr => ∃ k : Nat, v75 = .int .i64 (k : Int) ∧ k + g = ps.length ∧ Hid (wr.rowIs w1.heap.size 2 xs.length (fun j => .int .i64 ((putM out (ps.take k) (am'.take k))[j]?.getD 0))) ∧ Hid (Only (fun b => b = w1.heap.size) w3 wr))
            case atStart => exact ⟨0, rfl, by omega, Lib.hid (by simpa [putM] using hOut.out), Lib.hid (Only.refl _ _)⟩
            case round =>
              obtain ⟨k, rfl, hgk, hrw, how⟩ := hrel
              by_cases hk : k < ps.length
              · obtain ⟨p, hp⟩ : ∃ p, ps[k]? = some p := ⟨ps[k], List.getElem?_eq_getElem hk⟩
                obtain ⟨a, ha⟩ : ∃ a, am'[k]? = some a := ⟨am'[k]'(by have := hAL.out; omega), List.getElem?_eq_getElem _⟩
                have hpn := hpl.out p (List.mem_of_getElem? hp)
                obtain ⟨P', cp, hP', hrp⟩ := hPl.out.only how.out (fun b hb e => by have := hlp b hb; omega)
                obtain ⟨Q', cq, hQ', hrq⟩ := hAm.out.only how.out (fun b hb e => by have := hla b hb; omega)
                injection hP' with hP1 hP2 hP3
                injection hQ' with hQ1 hQ2 hQ3
                subst hP1 hP3 hQ1 hQ3
                obtain ⟨bp, op, rfl, kp⟩ := hrp k (p : Int) (by rw [List.getElem?_map, hp]; rfl)
                obtain ⟨bq, oq, rfl, kq⟩ := hrq k a ha
                have hst := Lib.hid (putM_step (out := out) hp ha)
                have fo := hrw.out.frozen p
                have ko := hrw.out.cell hpn
                have hk2 : k < am'.length := by have := hAL.out; omega
                clear hP2 hQ2 hrp hrq hp ha
                go_wp2_with fail
                go_roundg (ps.length - (k + 1))
                case measure => omega
                case rel =>
                  refine ⟨k + 1, by simp, by omega, Lib.hid ?_, Lib.hid (how.out.setCell (fun _ => rfl) _)⟩
                  refine (hrw.out.set p _).congr fun j hj => ?_
                  rw [hst.out, List.getElem?_set]
                  by_cases hjp : j = p
                  · subst hjp
                    rw [if_pos rfl, if_pos rfl, if_pos (by rw [putM_length, hsl.out]; exact hpn)]
                    rfl
                  · rw [if_neg hjp, if_neg (fun e => hjp e.symm)]
              · have hke : k = ps.length := by omega
                subst hke
                have hfin : Hid (stateM pot xs (r + 1) = (putM out ps am', _)) := Lib.hid (hSM.out.trans hRn.out)
                rw [List.take_length, show am'.take ps.length = am' from by rw [← hAL.out, List.take_length]] at hrw
                go_wp2_with fail
                go_roundg (5 - (r + 1))
                case measure => omega
                case rel =>
                  refine ⟨r + 1, by simp, by rw [hfin.out]; try simp, by omega, by rw [hfin.out]; simp; try omega, by rw [hfin.out]; simp; try omega, Lib.hid (by rw [hfin.out]; exact hrw.out), Lib.hid (hOn.out.trans how.out fun i hi hf => by have hf' : i = w1.heap.size := hf; omega), Nat.lt_of_lt_of_le hszr how.out.size⟩
          · have hRn : Hid (roundM xs r (out, pt) = (putM out ps am, pt - sumI am)) := Lib.hid (by rw [hRnd.out, if_neg hlt])
            have hAL : Hid (am.length = ps.length) := Lib.hid hPA.out.symm
            clear ham
            generalize sumI am = S at *
            generalize am = am' at *
            go_wp2_with fail
            generalize wr = w3 at hPl hAm hOut hOn hszr ⊢
            have hle : am'.length ≤ 4096 := by have := hAL.out; have := hPA.out; omega
            go_loopg [75] (ps.length) (fun g v75 wr => ∃ k : Nat, v75 = .int .i64 (k : Int) ∧ k + g = ps.length ∧ Hid (wr.rowIs w1.heap.size 2 xs.length (fun j => .int .i64 ((putM out (ps.take k) (am'.take k))[j]?.getD 0))) ∧ Hid (Only (fun b => b = w1.heap.size) w3 wr))
            case atStart => exact ⟨0, rfl, by omega, Lib.hid (by simpa [putM] using hOut.out), Lib.hid (Only.refl _ _)⟩
            case round =>
              obtain ⟨k, rfl, hgk, hrw, how⟩ := hrel
              by_cases hk : k < ps.length
              · obtain ⟨p, hp⟩ : ∃ p, ps[k]? = some p := ⟨ps[k], List.getElem?_eq_getElem hk⟩
                obtain ⟨a, ha⟩ : ∃ a, am'[k]? = some a := ⟨am'[k]'(by have := hAL.out; omega), List.getElem?_eq_getElem _⟩
                have hpn := hpl.out p (List.mem_of_getElem? hp)
                obtain ⟨P', cp, hP', hrp⟩ := hPl.out.only how.out (fun b hb e => by have := hlp b hb; omega)
                obtain ⟨Q', cq, hQ', hrq⟩ := hAm.out.only how.out (fun b hb e => by have := hla b hb; omega)
                injection hP' with hP1 hP2 hP3
                injection hQ' with hQ1 hQ2 hQ3
                subst hP1 hP3 hQ1 hQ3
                obtain ⟨bp, op, rfl, kp⟩ := hrp k (p : Int) (by rw [List.getElem?_map, hp]; rfl)
                obtain ⟨bq, oq, rfl, kq⟩ := hrq k a ha
                have hst := Lib.hid (putM_step (out := out) hp ha)
                have fo := hrw.out.frozen p
                have ko := hrw.out.cell hpn
                have hk2 : k < am'.length := by have := hAL.out; omega
                clear hP2 hQ2 hrp hrq hp ha
                go_wp2_with fail
                go_roundg (ps.length - (k + 1))
                case measure => omega
                case rel =>
                  refine ⟨k + 1, by simp, by omega, Lib.hid ?_, Lib.hid (how.out.setCell (fun _ => rfl) _)⟩
                  refine (hrw.out.set p _).congr fun j hj => ?_
                  rw [hst.out, List.getElem?_set]
                  by_cases hjp : j = p
                  · subst hjp
                    rw [if_pos rfl, if_pos rfl, if_pos (by rw [putM_length, hsl.out]; exact hpn)]
                    rfl
                  · rw [if_neg hjp, if_neg (fun e => hjp e.symm)]
              · have hke : k = ps.length := by omega
                subst hke
                have hfin : Hid (stateM pot xs (r + 1) = (putM out ps am', _)) := Lib.hid (hSM.out.trans hRn.out)
                rw [List.take_length, show am'.take ps.length = am' from by rw [← hAL.out, List.take_length]] at hrw
                go_wp2_with fail
                go_roundg (5 - (r + 1))
                case measure => omega
                case rel =>
                  refine ⟨r + 1, by simp, by rw [hfin.out]; try simp, by omega, by rw [hfin.out]; simp; try omega, by rw [hfin.out]; simp; try omega, Lib.hid (by rw [hfin.out]; exact hrw.out), Lib.hid (hOn.out.trans how.out fun i hi hf => by have hf' : i = w1.heap.size := hf; omega), Nat.lt_of_lt_of_le hszr how.out.size⟩
    · have hre : r = 5 := by omega
      subst hre
      go_wp2_with fail
      go_ret3
      rw [stateM_all] at *
      exact ⟨_, rfl, reads_row hrow.out (by rw [← stateM_all]; exact stateM_length _ _ _) (fun i x hx => by rw [hx]; rfl), ho.out⟩
end Go.Proofs.YteecfjkljmmecaaGreat
