/- WALKS: Post. -/
import Derived.Test.YtoeokakcdfdjkaaWh
namespace Go.Proofs.Ytoeokakcdfdjkaa
open Go.RowKit Go.Shelf

theorem wrongM_zero {S : Led} {text : ByteArray} {xs : List Ent} (h : wrongM S text xs = 0) : text.size ≤ 4096 ∧ 1 ≤ xs.length ∧ xs.length ≤ 64 ∧ S.P.length < 4096 ∧ (∀ e ∈ xs, (aget S.A e.key).isSome = true) ∧ (∀ e ∈ xs, -1099511627776 ≤ e.amt ∧ e.amt ≤ 1099511627776) ∧ ∀ p ∈ sumM xs, p.2 = 0 := by
  unfold wrongM maxA at h
  split at h
  · cases h
  · split at h
    · cases h
    · split at h
      · cases h
      · split at h
        · cases h
        · split at h
          · cases h
          · rename_i h1 h2 h3 h4 h5
            refine ⟨by omega, by omega, by omega, by omega, fun e he => ?_, fun e he => ?_, fun p hp => ?_⟩
            · cases hk : (aget S.A e.key).isSome with
              | true => rfl
              | false => exact absurd (List.any_eq_true.2 ⟨e, he, by rw [hk]; rfl⟩) h3
            · by_cases hk : e.amt < -1099511627776 ∨ e.amt > 1099511627776
              · exact absurd (List.any_eq_true.2 ⟨e, he, decide_eq_true hk⟩) h4
              · omega
            · by_cases hk : p.2 ≠ 0
              · exact absurd (List.any_eq_true.2 ⟨p, hp, decide_eq_true hk⟩) h5
              · simpa using hk
theorem chgM_keys {xs : List Ent} : ∀ k ∈ akeys (chgM xs), ∃ e ∈ xs, e.key = k := by
  suffices H : ∀ (l : List Ent) (m : List (Key × Int)) (k : Key), k ∈ akeys (l.foldl (fun m e => aput m e.key ((aget m e.key).getD 0 + e.amt)) m) → k ∈ akeys m ∨ ∃ e ∈ l, e.key = k by
    intro k hk
    exact (H xs [] k hk).resolve_left (by simp [akeys])
  intro l
  induction l with
  | nil => intro m k h; exact .inl h
  | cons e r ih =>
    intro m k h
    rcases ih _ k h with h1 | ⟨e', he', h1⟩
    · rcases mem_keys_put.1 h1 with h2 | h2
      · exact .inr ⟨e, by simp, h2.symm⟩
      · exact .inl h2
    · exact .inr ⟨e', by simp [he'], h1⟩

theorem post_over {S : Led} {text : ByteArray} {xs : List Ent} {p : Key × Int} (h0 : wrongM S text xs = 0) (hp : p ∈ chgM xs) (hb : (acctOr S.A p.1).bal + p.2 > 1099511627776) : postM S text xs = (S, 0, 3) := by
  unfold postM maxA
  rw [if_neg (by rw [h0]; simp), if_pos (List.any_eq_true.2 ⟨p, hp, decide_eq_true hb⟩)]
theorem not_over {S : Led} {xs : List Ent} (hf : ∀ p ∈ chgM xs, (acctOr S.A p.1).bal + p.2 ≤ 1099511627776) : ¬ ((chgM xs).any (fun p => decide ((acctOr S.A p.1).bal + p.2 > 1099511627776))) = true := fun hh => by
  obtain ⟨p, hp, h2⟩ := List.any_eq_true.1 hh
  have := hf p hp
  have := of_decide_eq_true h2
  omega
theorem post_low {S : Led} {text : ByteArray} {xs : List Ent} (h0 : wrongM S text xs = 0) (hf : ∀ p ∈ chgM xs, (acctOr S.A p.1).bal + p.2 ≤ 1099511627776) (hl : ((chgM xs).any (fun p => decide (p.2 < 0 ∧ (acctOr S.A p.1).free < -p.2))) = true) : postM S text xs = (S, 0, 10) := by
  unfold postM maxA
  rw [if_neg (by rw [h0]; simp), if_neg (not_over hf), if_pos hl]
theorem post_done {S : Led} {text : ByteArray} {xs : List Ent} (h0 : wrongM S text xs = 0) (hf : ∀ p ∈ chgM xs, (acctOr S.A p.1).bal + p.2 ≤ 1099511627776) (hl : ((chgM xs).any (fun p => decide (p.2 < 0 ∧ (acctOr S.A p.1).free < -p.2))) = false) : postM S text xs = (bookM S text xs (chgM xs), (S.P.length : Int) + 1, 0) := by
  unfold postM maxA
  rw [if_neg (by rw [h0]; simp), if_neg (not_over hf), if_neg (by rw [hl]; simp)]
theorem any_perm {α : Type} {l m : List α} {p : α → Bool} (h : l.Perm m) : l.any p = m.any p := by
  rw [Bool.eq_iff_iff, List.any_eq_true, List.any_eq_true]
  exact ⟨fun ⟨x, hx, hp⟩ => ⟨x, h.mem_iff.1 hx, hp⟩, fun ⟨x, hx, hp⟩ => ⟨x, h.mem_iff.2 hx, hp⟩⟩

/-- What stands while one entry of the changes is written: the others' memory is as it was, and the entry of k reads z. -/
structure SeesM (w : World) (cb : Nat) (k : Key) (z : Int) (W : World) : Prop where
  only : Only (fun i => i = cb) w W
  sees : ∃ M, MapAt ePair eInt W cb M ∧ (aget M k).getD 0 = z
section
variable {w : World} {l : Loc} {S : Led}

set_option maxHeartbeats 8000000 in
set_option maxRecDepth 100000 in
theorem post_any (h : LAt w l S) (G : Good S) (text : ByteArray) {xv : Value} {xs : List Ent} (hx : ReadsEnts w xv xs) (hxl : xs.length ≤ 100000) (htl : text.size ≤ 1000000) (hxF : 0 < xs.length → ∀ b, xv.ownBlock = some b → ¬ l.F b) :
    Calls Try.prog 29 #[.pointer (some ⟨l.lb, 0, none⟩), .string text, xv] w (LPostV l w (postM S text xs).1 (.tuple #[.int .i64 (postM S text xs).2.1, .int .i64 (postM S text xs).2.2])) := by
  have hW := Lib.hid (wrong_any h text hx hxl htl)
  have hX := Lib.hid hx
  have hXF := Lib.hid hxF
  obtain ⟨A, c, rfl, _⟩ := hx
  obtain ⟨c0, c1, c2, c3⟩ := h.c
  have hlt := h.lt
  have hab := h.accts.lt
  have hG := Lib.hid G
  have hmm := @run_makeMap Try.prog
  clear hxF G
  go_enter Try.func29, Try.ntmps29
  go_wp2_with (go_at_call 55; refine (hW.out).mono ?_; rintro e w1 ⟨rfl, ho1⟩)
  · go_ret2
    have hne : wrongM S text xs ≠ 0 := by simp_all
    have hp : postM S text xs = (S, 0, wrongM S text xs) := by unfold postM; rw [if_pos hne]
    rw [hp]
    exact LPostV.same rfl (h.quiet ho1) ho1 (fun _ h => h.elim)
  · have hw0 : wrongM S text xs = 0 := by simp_all
    obtain ⟨q1, q2, q3, q4, q5, q6, q7⟩ := wrongM_zero hw0
    have hKey := Lib.hid q5
    have hAmt := Lib.hid q6
    have hZ := Lib.hid hw0
    clear q5 q6 q7 hw0
    generalize hwe : wrongM S text xs = we at *
    have hob := ho1.alloc (.map #[] 0)
    have hm0 : MapAt ePair eInt (w1.alloc (.map #[] 0)) w1.heap.size ([] : List (Key × Int)) := MapAt.made w1
    have hge : w.heap.size ≤ w1.heap.size := ho1.size
    generalize hmb : w1.heap.size = cb at *
    generalize hwm : World.alloc w1 _ = wm at *
    have hX1 := Lib.hid (hX.out.only hob fun _ _ => id)
    clear hwm hmb ho1
    have hnz : (we != 0) = false := by assumption
    simp only [hnz]
    go_loopg [26] (xs.length) (fun g v26 wr => ∃ i : Nat, v26 = .int .i64 (i : Int) ∧ i + g = xs.length ∧ Only (fun _ => False) w wr ∧ MapAt ePair eInt wr cb (chgM (xs.take i)))
    case atStart => exact ⟨0, rfl, by omega, hob, hm0⟩
    case round =>
      clear hm0 hob
      obtain ⟨i, rfl, hg, ho, hmi⟩ := hrel
      by_cases hi : i < xs.length
      · obtain ⟨e, he⟩ : ∃ e, xs[i]? = some e := ⟨xs[i], List.getElem?_eq_getElem hi⟩
        obtain ⟨A', c', hA, hr⟩ := (hX.out.only ho fun _ _ => id).cells
        injection hA with hA1 hA2 hA3
        subst hA1 hA3
        obtain ⟨b, off, rfl, r0, r1, r2⟩ := hr i e he
        clear hr hA2
        have hsb := chgM_bound (l := xs.take i) (fun e he => hAmt.out e (List.mem_of_mem_take he)) e.key
        have hti : (xs.take i).length = i := by simp; omega
        have hea := hAmt.out e (List.mem_of_getElem? he)
        rw [hti] at hsb
        have hsn : chgM (xs.take (i + 1)) = aput (chgM (xs.take i)) e.key ((aget (chgM (xs.take i)) e.key).getD 0 + e.amt) := by rw [take_snoc he, chgM_snoc]
        have hSn := Lib.hid hsn
        clear hsn hti
        obtain ⟨e1, e2, e3⟩ := e
        simp only [Ent.key] at r0 r1 r2 hsb hSn hea
        have hcw := hmi.lt
        go_wp2
        generalize hwb : World.alloc wr _ = wb
        have hoq : Only (fun _ => False) wr wb := hwb ▸ (Only.refl _ wr).alloc _
        have hob : Only (fun _ => False) w wb := ho.trans hoq fun _ _ h => h
        have hmb : MapAt ePair eInt wb.drew cb (chgM (xs.take i)) := hmi.only hoq.drew not_false
        generalize hz : (aget (chgM (xs.take i)) (e1, e2)).getD 0 = z at *
        have hq0 : ∀ W, SeesM wb.drew cb (e1, e2) z W → W.cell? ⟨wr.heap.size, 0, none⟩ = some (.string e1) := fun W hW => hW.only.keeps (by subst hwb; go_simp) (fun e => by simp only at e; omega)
        have hq1 : ∀ W, SeesM wb.drew cb (e1, e2) z W → W.cell? ⟨wr.heap.size, 1, none⟩ = some (.string e2) := fun W hW => hW.only.keeps (by subst hwb; go_simp) (fun e => by simp only at e; omega)
        have hq2 : ∀ W, SeesM wb.drew cb (e1, e2) z W → W.cell? ⟨wr.heap.size, 2, none⟩ = some (.int .i64 e3) := fun W hW => hW.only.keeps (by subst hwb; go_simp) (fun e => by simp only at e; omega)
        have hlk : ∀ W, SeesM wb.drew cb (e1, e2) z W → (Instr.lookup 82 (.map (some cb)) (.agg #[.string e1, .string e2]) false).run Try.prog W = .ok (.int .i64 z) W := fun W hW => by
          obtain ⟨M, h1, h2⟩ := hW.sees
          rw [look_chg h1, h2]
        have hinv : SeesM wb.drew cb (e1, e2) z wb.drew := ⟨Only.refl _ _, _, hmb, hz⟩
        have hwbs : wb.heap.size = wr.heap.size + 1 := by subst hwb; simp
        have hZz := Lib.hid hz
        clear hwb r0 r1 r2 hz hmi
        refine wp_region_ord (.read 0 (.read 1 (.read 2 (.read 3 (.read 4 (.read 5 (.read 6 (.read 7 (.read 8 (.read 9 (.turn 10 (.read 11 (.last 12))))))))))))) ((SeesM wb.drew cb (e1, e2) z)) (by kernel_rfl) (by kernel_rfl) (by kernel_rfl) (by first | exact Only.refl _ _ | assumption) ?_
        refine wpOrd_reads (v := ?_) rfl rfl (fun _ _ _ h => h) ?_ ?_
        rotate_left
        · intro W hW; go_simp; try with_reducible rfl
        go_frame
        refine wpOrd_reads (v := ?_) rfl rfl (fun _ _ _ h => h) ?_ ?_
        rotate_left
        · intro W hW; go_simp; try with_reducible rfl
        go_frame
        refine wpOrd_reads (v := ?_) rfl rfl (fun _ _ _ h => h) ?_ ?_
        rotate_left
        · intro W hW; go_simp; try with_reducible rfl
        go_frame
        refine wpOrd_reads (v := ?_) rfl rfl (fun _ _ _ h => h) ?_ ?_
        rotate_left
        · intro W hW; go_simp; try with_reducible rfl
        go_frame
        refine wpOrd_reads (v := ?_) rfl rfl (fun _ _ _ h => h) ?_ ?_
        rotate_left
        · intro W hW; go_simp; try with_reducible rfl
        go_frame
        refine wpOrd_reads (v := ?_) rfl rfl (fun _ _ _ h => h) ?_ ?_
        rotate_left
        · intro W hW; go_simp; try with_reducible rfl
        go_frame
        refine wpOrd_reads (v := ?_) rfl rfl (fun _ _ _ h => h) ?_ ?_
        rotate_left
        · intro W hW; go_simp; try with_reducible rfl
        go_frame
        refine wpOrd_reads (v := ?_) rfl rfl (fun _ _ _ h => h) ?_ ?_
        rotate_left
        · intro W hW; go_simp; try with_reducible rfl
        go_frame
        refine wpOrd_reads (v := ?_) rfl rfl (fun _ _ _ h => h) ?_ ?_
        rotate_left
        · intro W hW; go_simp; try with_reducible rfl
        go_frame
        refine wpOrd_reads (v := ?_) rfl rfl (fun _ _ _ h => h) ?_ ?_
        rotate_left
        · intro W hW; go_simp; try with_reducible rfl
        go_frame
        refine wpOrd_turns rfl ?_
        refine wpList_entry_map rfl _ _ 82 2 rfl kOps Try.underlying82 cb _ hmb (z := 0) zero2 rfl (e1, e2) rfl ?_
        intro w7 st hE ho7 hs7
        refine wpList_nil ⟨⟨ho7, _, hE.map, by rw [aget_put, if_pos rfl, hZz.out]; rfl⟩, ?_⟩
        refine wpOrd_reads (v := ?_) rfl rfl (fun _ _ _ h => h) ?_ ?_
        rotate_left
        · intro W hW; go_simp; try with_reducible rfl
        go_frame
        refine wpOrd_lasts rfl ?_
        refine wpList_entryStore_map rfl _ _ _ 82 rfl cb _ (e1, e2) st hE rfl rfl (z + e3) (by first | exact congrArg (Value.int .i64) (IntWalk.i64_in (z + e3) (by omega)) | exact congrArg (Value.int .i64) (IntWalk.wrap64_in (z + e3) (by omega)) | rfl) ?_
        intro w8 hM8 ho8 hs8
        refine wpList_nil ⟨trivial, ?_⟩
        rw [aput_twice] at hM8
        go_wp2
        go_roundg (xs.length - (i + 1))
        case measure => omega
        case rel =>
          refine ⟨i + 1, by simp, by omega, (hob.drew.new ho7 hge).new ho8 hge, ?_⟩
          rw [hSn.out]
          exact hM8
      · have hie : i = xs.length := by omega
        subst hie
        rw [List.take_length] at hmi
        clear hi hg
        have hcw := hmi.lt
        have hMM := Lib.hid hmi
        go_wp2_with (first | (at_range; refine wpList_range_map rfl _ 82 2 rfl Try.underlying82 cb _ hmi rfl ?_; intro w0 hIt0 ho0 hs0))
        have hor := ho.andQuiet ho0
        have hger : w.heap.size ≤ wr.heap.size := ho.size
        have hcb : cb ≠ wr.heap.size := by omega
        generalize hrb : wr.heap.size = rb at *
        have hnd := Lib.hid hMM.out.keys_nodup
        clear ho0 hs0 ho hMM hmi hrb hcw
        go_frame
        go_loopg [12] ((chgM xs).length) (fun g v12 wr => ∃ done low, v12 = .bool low ∧ IterAt ePair eInt wr cb rb (chgM xs) done ∧ done.length + g = (chgM xs).length ∧ Only (fun _ => False) w wr ∧ Hid (low = done.any (fun p => decide (p.2 < 0 ∧ (acctOr S.A p.1).free < -p.2))) ∧ Hid (∀ p ∈ done, (acctOr S.A p.1).bal + p.2 ≤ 1099511627776))
        case atStart => exact ⟨[], false, rfl, hIt0, by simp, hor, Lib.hid (by simp), Lib.hid (by simp)⟩
        case round =>
          clear hIt0 hor
          obtain ⟨done, low, rfl, hIt, hg, ho, hlow, hfit⟩ := hrel
          have hgd := Lib.hid hg
          clear hg
          go_wp2_with (first | (at_next; refine wpList_next_map rfl _ rfl kOps cb rb _ done hIt rfl ?_ ?_))
          · intro hperm
            have hBk := Lib.hid (book_any (h.quiet ho) hG.out.nodA text (hX.out.only ho fun _ _ => id) (by omega) (by omega) (by omega) hIt.map (by omega) (fun b hb e => hXF.out (by omega) b hb (.inr (.inl e))) (fun p hp => by
              obtain ⟨e, he, h2⟩ := chgM_keys p.1 (List.mem_map.2 ⟨p, hp, rfl⟩)
              rw [← h2]
              exact isSome_mem (hKey.out e he)) (fun p hp => by
              have hnb := chgM_bound hAmt.out p.1
              rw [aget_of_mem hnd.out hp] at hnb
              simp only [Option.getD_some] at hnb
              have hbd := hG.out.bounds p.1
              rw [show maxA = 1099511627776 from rfl] at hbd
              omega))
            cases low <;> go_wp2_with (go_at_call 37; refine (hBk.out).mono ?_; rintro e w9 ⟨pv', rfl, hL9, ho9, hpv9⟩)
            · go_ret2
              have hp : postM S text xs = (bookM S text xs (chgM xs), (S.P.length : Int) + 1, 0) := post_done (hwe.trans hZ.out) (fun p hp => hfit.out p (hperm.mem_iff.2 hp)) (by rw [← any_perm hperm, ← hlow.out])
              rw [hp]
              exact ⟨pv', rfl, hL9, ho.andThen ho9, hpv9.imp (fun h => h) fun h b hb => Nat.le_trans ho.size (h b hb)⟩
            · go_ret2
              have hp : postM S text xs = (S, 0, 10) := post_low (hwe.trans hZ.out) (fun p hp => hfit.out p (hperm.mem_iff.2 hp)) (by rw [← any_perm hperm, ← hlow.out])
              rw [hp]
              exact LPostV.same rfl (h.quiet ho) ho (fun _ h => h.elim)
          · intro k1 k2 n w1 hin hnot hIt1 ho1 hs1 hen
            have how := ho.new ho1 hger
            have hle := hIt1.length_le
            have hnb := chgM_bound hAmt.out (k1, k2)
            rw [aget_of_mem hnd.out hin] at hnb
            simp only [Option.getD_some] at hnb
            have hbd := hG.out.bounds (k1, k2)
            rw [show maxA = 1099511627776 from rfl] at hbd
            have hlk : ∀ W, Only (fun _ => False) w1 W → (Instr.lookup 72 (.map (some l.ab)) (.agg #[.string k1, .string k2]) false).run Try.prog W = .ok (.agg #[.int .i64 (acctOr S.A (k1, k2)).floor, .int .i64 (acctOr S.A (k1, k2)).bal, .int .i64 (acctOr S.A (k1, k2)).held]) W := fun W hW => look_acct (h.accts.only (how.trans hW fun _ _ h => h) not_false) k1 k2 false
            have hc1 : ∀ W, Only (fun _ => False) w1 W → W.cell? ⟨l.lb, 1, none⟩ = some (.map (some l.ab)) := fun W hW => (how.trans hW fun _ _ h => h).keeps c1 not_false
            generalize hr : acctOr S.A (k1, k2) = r at hlk hbd
            have hR := Lib.hid hr
            clear hr
            obtain ⟨rf, rb', rh⟩ := r
            unfold Acct.free at hbd
            simp only at hlk hbd
            have hFr := Lib.hid (fun W => free_any rf rb' rh W (by omega) (by omega) (by omega) (by omega) (by omega) (by omega))
            simp only [ePair, eInt] at hen ⊢
            go_wp2
            generalize hwb : World.alloc w1 _ = wb
            have hoq : Only (fun _ => False) w1 wb := hwb ▸ (Only.refl _ w1).alloc _
            have hq1 : ∀ W, Only (fun _ => False) wb.drew W → W.cell? ⟨l.lb, 1, none⟩ = some (.map (some l.ab)) := fun W hW => hc1 W (hoq.drew.trans hW fun _ _ h => h)
            have hq2 : ∀ W, Only (fun _ => False) wb.drew W → W.cell? ⟨wr.heap.size, 0, none⟩ = some (.string k1) := fun W hW => hW.keeps (by rw [← hs1]; subst hwb; go_simp) not_false
            have hq3 : ∀ W, Only (fun _ => False) wb.drew W → W.cell? ⟨wr.heap.size, 1, none⟩ = some (.string k2) := fun W hW => hW.keeps (by rw [← hs1]; subst hwb; go_simp) not_false
            have hqk : ∀ W, Only (fun _ => False) wb.drew W → (Instr.lookup 72 (.map (some l.ab)) (.agg #[.string k1, .string k2]) false).run Try.prog W = .ok (.agg #[.int .i64 rf, .int .i64 rb', .int .i64 rh]) W := fun W hW => hlk W (hoq.drew.trans hW fun _ _ h => h)
            have hob := how.trans hoq fun _ _ h => h
            clear hlk hc1 hwb
            refine wp_region_ord (.read 0 (.read 1 (.read 2 (.read 3 (.read 4 (.read 5 (.turn 6 (.turn 7 .stop)))))))) (Only (fun _ => False) _) (by kernel_rfl) (by kernel_rfl) (by kernel_rfl) (by first | exact Only.refl _ _ | assumption) ?_
            refine wpOrd_reads (v := ?_) rfl rfl (fun _ _ _ h => h) ?_ ?_
            rotate_left
            · intro W hW; go_simp; try with_reducible rfl
            go_frame
            refine wpOrd_reads (v := ?_) rfl rfl (fun _ _ _ h => h) ?_ ?_
            rotate_left
            · intro W hW; go_simp; try with_reducible rfl
            go_frame
            refine wpOrd_reads (v := ?_) rfl rfl (fun _ _ _ h => h) ?_ ?_
            rotate_left
            · intro W hW; go_simp; try with_reducible rfl
            go_frame
            refine wpOrd_reads (v := ?_) rfl rfl (fun _ _ _ h => h) ?_ ?_
            rotate_left
            · intro W hW; go_simp; try with_reducible rfl
            go_frame
            refine wpOrd_reads (v := ?_) rfl rfl (fun _ _ _ h => h) ?_ ?_
            rotate_left
            · intro W hW; go_simp; try with_reducible rfl
            go_frame
            refine wpOrd_reads (v := ?_) rfl rfl (fun _ _ _ h => h) ?_ ?_
            rotate_left
            · intro W hW; go_simp; try with_reducible rfl
            go_frame
            refine wpOrd_turns rfl ?_
            go_wp2
            refine ⟨(Only.refl _ _).alloc _, ?_⟩
            refine wpOrd_turns rfl ?_
            go_wp2
            refine ⟨(Only.refl _ _).alloc _, ?_⟩
            refine wpOrd_nil ?_
            have hoc := hob.drew.alloc (.cells #[.int .i64 rf, .int .i64 rb', .int .i64 rh] 70)
            clear hq1 hq2 hq3 hqk
            cases low <;> go_wp2_with (go_at_call 32; refine (hFr.out _).mono ?_; rintro e w5 ⟨rfl, ho5⟩; have ho6 := hoc.trans ho5 fun _ _ h => h)
            · go_ret2
              have hp : postM S text xs = (S, 0, 3) := post_over (hwe.trans hZ.out) hin (by rw [hR.out]; show rb' + n > 1099511627776; omega)
              rw [hp]
              exact LPostV.same rfl (h.quiet hoc) hoc (fun _ h => h.elim)
            · go_roundg ((chgM xs).length - (done.length + 1))
              case measure => have := hgd.out; simp only [List.length_append, List.length_cons, List.length_nil] at hle; omega
              case rel =>
                refine ⟨done ++ [((k1, k2), n)], decide (rb' - rh - rf < -n), by first | rfl | simp_all, (hIt1.only hoq not_false not_false).only (((Only.refl (fun _ => False) wb).alloc (.cells #[.int .i64 rf, .int .i64 rb', .int .i64 rh] 70)).drew.trans ho5 fun _ _ h => h) not_false not_false, by simp only [List.length_append, List.length_cons, List.length_nil] at hle ⊢; omega, ho6, Lib.hid ?_, Lib.hid ?_⟩
                · rw [List.any_append, ← hlow.out]
                  simp only [List.any_cons, List.any_nil, Bool.or_false, Bool.false_or, hR.out, Acct.free]
                  rw [Bool.eq_iff_iff]; simp; omega
                · intro p hp
                  rcases List.mem_append.1 hp with h1 | h1
                  · exact hfit.out p h1
                  · simp at h1; subst h1; show (acctOr S.A (k1, k2)).bal + n ≤ 1099511627776; rw [hR.out]; show rb' + n ≤ 1099511627776; omega
            · go_roundg ((chgM xs).length - (done.length + 1))
              case measure => have := hgd.out; simp only [List.length_append, List.length_cons, List.length_nil] at hle; omega
              case rel =>
                refine ⟨done ++ [((k1, k2), n)], false, by first | rfl | simp_all, (hIt1.only hoq not_false not_false).only ((Only.refl (fun _ => False) wb).alloc (.cells #[.int .i64 rf, .int .i64 rb', .int .i64 rh] 70)).drew not_false not_false, by simp only [List.length_append, List.length_cons, List.length_nil] at hle ⊢; omega, hoc, Lib.hid ?_, Lib.hid ?_⟩
                · rw [List.any_append, ← hlow.out]
                  simp only [List.any_cons, List.any_nil, Bool.or_false, Bool.false_or, hR.out, Acct.free]
                  symm; apply decide_eq_false; omega
                · intro p hp
                  rcases List.mem_append.1 hp with h1 | h1
                  · exact hfit.out p h1
                  · simp at h1; subst h1; show (acctOr S.A (k1, k2)).bal + n ≤ 1099511627776; rw [hR.out]; show rb' + n ≤ 1099511627776; omega
            · go_ret2
              have hp : postM S text xs = (S, 0, 3) := post_over (hwe.trans hZ.out) hin (by rw [hR.out]; show rb' + n > 1099511627776; omega)
              rw [hp]
              exact LPostV.same rfl (h.quiet hoc) hoc (fun _ h => h.elim)
            · go_roundg ((chgM xs).length - (done.length + 1))
              case measure => have := hgd.out; simp only [List.length_append, List.length_cons, List.length_nil] at hle; omega
              case rel =>
                refine ⟨done ++ [((k1, k2), n)], true, by first | rfl | simp_all, (hIt1.only hoq not_false not_false).only ((Only.refl (fun _ => False) wb).alloc (.cells #[.int .i64 rf, .int .i64 rb', .int .i64 rh] 70)).drew not_false not_false, by simp only [List.length_append, List.length_cons, List.length_nil] at hle ⊢; omega, hoc, Lib.hid ?_, Lib.hid ?_⟩
                · rw [List.any_append, ← hlow.out]
                  simp
                · intro p hp
                  rcases List.mem_append.1 hp with h1 | h1
                  · exact hfit.out p h1
                  · simp at h1; subst h1; show (acctOr S.A (k1, k2)).bal + n ≤ 1099511627776; rw [hR.out]; show rb' + n ≤ 1099511627776; omega
end
end Go.Proofs.Ytoeokakcdfdjkaa
