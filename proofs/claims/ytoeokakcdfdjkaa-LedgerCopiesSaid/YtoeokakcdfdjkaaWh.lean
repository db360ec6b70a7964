/- WALKS: wrong. -/
import Derived.Test.YtoeokakcdfdjkaaWg
namespace Go.Proofs.Ytoeokakcdfdjkaa
open Go.RowKit Go.Shelf

theorem entCells_at {xs : List Ent} {i : Nat} {e : Ent} (h : xs[i]? = some e) : (entCells xs)[3 * i]? = some (.string e.acct) ∧ (entCells xs)[3 * i + 1]? = some (.string e.cur) ∧ (entCells xs)[3 * i + 2]? = some (.int .i64 e.amt) := by
  induction xs generalizing i with
  | nil => simp at h
  | cons x r ih =>
    cases i with
    | zero => simp at h; subst h; simp [entCells]
    | succ i =>
      have := ih (i := i) (by simpa using h)
      have e1 : 3 * (i + 1) = 3 * i + 3 := by omega
      rw [e1]
      simpa [entCells] using this
/-- The entries that a slice reads as: where each lies. -/
theorem ReadsEnts.cells {w : World} {v : Value} {xs : List Ent} (h : ReadsEnts w v xs) : ∃ A c, v = .slice A xs.length c ∧ ∀ i e, xs[i]? = some e → ∃ b off, A = some ⟨b, off, none⟩ ∧
    w.cell? ⟨b, off + i * 3, none⟩ = some (.string e.acct) ∧ w.cell? ⟨b, off + i * 3 + 1, none⟩ = some (.string e.cur) ∧ w.cell? ⟨b, off + i * 3 + 2, none⟩ = some (.int .i64 e.amt) := by
  obtain ⟨A, c, rfl, hc⟩ := h
  refine ⟨A, c, rfl, fun i e he => ?_⟩
  have hlt : i < xs.length := (List.getElem?_eq_some_iff.1 he).1
  obtain ⟨b, off, rfl, hr⟩ := hc (by omega)
  obtain ⟨h1, h2, h3⟩ := entCells_at he
  have e1 : i * 3 = 3 * i := by omega
  have e2 : off + i * 3 + 1 = off + (3 * i + 1) := by omega
  have e3 : off + i * 3 + 2 = off + (3 * i + 2) := by omega
  refine ⟨b, off, rfl, ?_, ?_, ?_⟩
  · rw [e1]; exact hr _ _ h1
  · rw [e2]; exact hr _ _ h2
  · rw [e3]; exact hr _ _ h3
section
variable {w : World} {l : Loc} {S : Led}

theorem look_sum {w : World} {b : Nat} {M : List (ByteArray × Int)} (h : MapAt eStr eInt w b M) (k : ByteArray) : (Instr.lookup 119 (.map (some b)) (.string k) false).run Try.prog w = .ok (.int .i64 ((aget M k).getD 0)) w := by
  have := h.lookup sOps Try.underlying119 (zero2 w) k false
  have e : ((aget M k).map eInt).getD (.int .i64 0) = .int .i64 ((aget M k).getD 0) := by cases aget M k <;> rfl
  rw [e] at this
  exact this
theorem look_chg {w : World} {b : Nat} {M : List (Key × Int)} (h : MapAt ePair eInt w b M) (k1 k2 : ByteArray) : (Instr.lookup 82 (.map (some b)) (.agg #[.string k1, .string k2]) false).run Try.prog w = .ok (.int .i64 ((aget M (k1, k2)).getD 0)) w := by
  have := h.lookup kOps Try.underlying82 (zero2 w) (k1, k2) false
  have e : ((aget M (k1, k2)).map eInt).getD (.int .i64 0) = .int .i64 ((aget M (k1, k2)).getD 0) := by cases aget M (k1, k2) <;> rfl
  rw [e] at this
  exact this
theorem sumM_snoc (l : List Ent) (e : Ent) : sumM (l ++ [e]) = aput (sumM l) e.cur ((aget (sumM l) e.cur).getD 0 + e.amt) := by
  unfold sumM; rw [List.foldl_append]; rfl
theorem chgM_snoc (l : List Ent) (e : Ent) : chgM (l ++ [e]) = aput (chgM l) e.key ((aget (chgM l) e.key).getD 0 + e.amt) := by
  unfold chgM; rw [List.foldl_append]; rfl
theorem fold_bound {K : Type} [DecidableEq K] (f : Ent → K) (B : Int) (hB : 0 ≤ B) : ∀ (l : List Ent) (m : List (K × Int)) (n : Nat), (∀ c, -(n * B) ≤ (aget m c).getD 0 ∧ (aget m c).getD 0 ≤ n * B) → (∀ e ∈ l, -B ≤ e.amt ∧ e.amt ≤ B) → ∀ c, -(((n + l.length : Nat) : Int) * B) ≤ (aget (l.foldl (fun m e => aput m (f e) ((aget m (f e)).getD 0 + e.amt)) m) c).getD 0 ∧ (aget (l.foldl (fun m e => aput m (f e) ((aget m (f e)).getD 0 + e.amt)) m) c).getD 0 ≤ ((n + l.length : Nat) : Int) * B := by
  intro l
  induction l with
  | nil => intro m n h _; simpa using h
  | cons e r ih =>
    intro m n h hl c
    have := ih (aput m (f e) ((aget m (f e)).getD 0 + e.amt)) (n + 1) (fun c => by
      rw [aget_put]
      have h1 := h (f e)
      have h2 := hl e (by simp)
      have h3 := h c
      have e1 : (((n + 1 : Nat) : Int)) * B = n * B + B := by push_cast; rw [Int.add_mul]; simp
      rw [e1]
      split
      · simp only [Option.getD_some]; omega
      · omega) (fun e' he' => hl e' (by simp [he'])) c
    have e2 : n + 1 + r.length = n + (e :: r).length := by simp; omega
    rw [e2] at this
    exact this
theorem sumM_bound {l : List Ent} (h : ∀ e ∈ l, -1099511627776 ≤ e.amt ∧ e.amt ≤ 1099511627776) (c : ByteArray) : -((l.length : Int) * 1099511627776) ≤ (aget (sumM l) c).getD 0 ∧ (aget (sumM l) c).getD 0 ≤ (l.length : Int) * 1099511627776 := by
  have := fold_bound (fun e => e.cur) 1099511627776 (by decide) l [] 0 (by simp [aget]) h c
  unfold sumM; simpa using this
theorem chgM_bound {l : List Ent} (h : ∀ e ∈ l, -1099511627776 ≤ e.amt ∧ e.amt ≤ 1099511627776) (c : Key) : -((l.length : Int) * 1099511627776) ≤ (aget (chgM l) c).getD 0 ∧ (aget (chgM l) c).getD 0 ≤ (l.length : Int) * 1099511627776 := by
  have := fold_bound (fun e => e.key) 1099511627776 (by decide) l [] 0 (by simp [aget]) h c
  unfold chgM; simpa using this
def WrongPost (S : Led) (text : ByteArray) (xs : List Ent) (w : World) (e : Ending) (w' : World) : Prop := e = .returned (.int .i64 (wrongM S text xs)) ∧ Only (fun _ => False) w w'
theorem WrongPost.of {W : World} {n : Int} {text : ByteArray} {xs : List Ent} (hW : Only (fun _ => False) w W) (hn : wrongM S text xs = n) : WrongPost S text xs w (.returned (.int .i64 n)) W := ⟨by rw [hn], hW⟩
theorem take_snoc {α : Type} {xs : List α} {i : Nat} {e : α} (h : xs[i]? = some e) : xs.take (i + 1) = xs.take i ++ [e] := by
  rw [List.take_add_one, h]; rfl
set_option maxHeartbeats 4000000 in
set_option maxRecDepth 100000 in
theorem wrong_any (h : LAt w l S) (text : ByteArray) {xv : Value} {xs : List Ent} (hx : ReadsEnts w xv xs) (hxl : xs.length ≤ 100000) (htl : text.size ≤ 1000000) :
    Calls Try.prog 55 #[.pointer (some ⟨l.lb, 0, none⟩), .string text, xv] w (WrongPost S text xs w) := by
  obtain ⟨c0, c1, c2, c3⟩ := h.c
  have hlen : ∀ W, (Builtin.len_ #[40] 3 #[l.pv]).run Try.prog W = .ok (.int .i64 S.P.length) W := by
    intro W
    obtain ⟨evs, _, h2, _⟩ := h.posts
    obtain ⟨A, c, hA⟩ := own_sl h2
    rw [hA]
    simp [Builtin.len_, run_underlying Try.underlying40, Result.andThen, goInt]
  have hX := Lib.hid hx
  obtain ⟨A, c, rfl, _⟩ := hx
  have hlt := h.lt
  have hab := h.accts.lt
  have hmm := @run_makeMap Try.prog
  go_enter Try.func55, Try.ntmps55
  go_wp2
  · go_ret; exact WrongPost.of (Only.refl _ _) (by unfold wrongM; rw [if_pos (by omega)])
  · go_ret; exact WrongPost.of (Only.refl _ _) (by unfold wrongM; rw [if_neg (by omega), if_pos (by omega)])
  · have hP4 : ¬ 4096 ≤ S.P.length := by omega
    have hx64 : xs.length ≤ 64 := by omega
    have hx1 : 1 ≤ xs.length := by omega
    have ht4 : text.size ≤ 4096 := by omega
    go_loopg [37] (xs.length) (fun g v37 wr => ∃ i : Nat, v37 = .int .i64 (i : Int) ∧ i + g = xs.length ∧ Only (fun _ => False) w wr ∧ Hid (∀ e ∈ xs.take i, (aget S.A e.key).isSome = true))
    case atStart => exact ⟨0, rfl, by omega, Only.refl _ _, Lib.hid (by simp)⟩
    case round =>
      obtain ⟨i, rfl, hg, ho, hok⟩ := hrel
      by_cases hi : i < xs.length
      · obtain ⟨e, he⟩ : ∃ e, xs[i]? = some e := ⟨xs[i], List.getElem?_eq_getElem hi⟩
        obtain ⟨A', c', hA, hr⟩ := (hX.out.only ho fun _ _ => id).cells
        injection hA with hA1 hA2 hA3
        subst hA1 hA3
        obtain ⟨b, off, rfl, r0, r1, r2⟩ := hr i e he
        clear hr hA2
        obtain ⟨e1, e2, e3⟩ := e
        simp only at r0 r1 r2
        go_wp2
        generalize hwb : World.alloc wr _ = wb
        have hob : Only (fun _ => False) w wb := hwb ▸ ho.alloc _
        have hq0 : ∀ W, Only (fun _ => False) wb.drew W → W.cell? ⟨wr.heap.size, 0, none⟩ = some (.string e1) := fun W hW => hW.keeps (by subst hwb; go_simp) not_false
        have hq1 : ∀ W, Only (fun _ => False) wb.drew W → W.cell? ⟨wr.heap.size, 1, none⟩ = some (.string e2) := fun W hW => hW.keeps (by subst hwb; go_simp) not_false
        have hq2 : ∀ W, Only (fun _ => False) wb.drew W → W.cell? ⟨l.lb, 1, none⟩ = some (.map (some l.ab)) := fun W hW => hW.keeps (hob.keeps c1 not_false) not_false
        have hlk : ∀ W, Only (fun _ => False) wb.drew W → (Instr.lookup 72 (.map (some l.ab)) (.agg #[.string e1, .string e2]) true).run Try.prog W = .ok (.tuple #[.agg #[.int .i64 (acctOr S.A (e1, e2)).floor, .int .i64 (acctOr S.A (e1, e2)).bal, .int .i64 (acctOr S.A (e1, e2)).held], .bool (aget S.A (e1, e2)).isSome]) W := fun W hW => look_acct (h.accts.only (hob.drew.trans hW fun _ _ h => h) not_false) e1 e2 true
        clear hwb r0 r1 r2
        generalize acctOr S.A (e1, e2) = r at hlk
        generalize hth : (aget S.A (e1, e2)).isSome = there at hlk
        have hT := Lib.hid hth
        clear hth
        obtain ⟨rf, rb, rh⟩ := r
        simp only at hlk
        refine wp_region_ord (.read 0 (.read 1 (.read 2 (.read 3 (.read 4 (.read 5 (.read 6 (.read 7 (.read 8 (.read 9 (.read 10 (.read 11 (.read 12 (.turn 13 (.turn 14 (.read 15 .stop)))))))))))))))) (Only (fun _ => False) _) (by kernel_rfl) (by kernel_rfl) (by kernel_rfl) (by first | exact Only.refl _ _ | assumption) ?_
        refine wpOrd_reads (v := ?_) rfl rfl (fun _ _ _ h => h) ?_ ?_
        rotate_left
        · intro W hW; go_simp; try with_reducible rfl
        go_frame
        refine wpOrd_reads (v := ?_) rfl rfl (fun _ _ _ h => h) ?_ ?_
        rotate_left
        · intro W hW; go_simp; try with_reducible rfl
        go_frame
        refine wpOrd_reads (v := ?_) rfl rfl (fun _ _ _ h => h) ?_ ?_
        rotate_left
        · intro W hW; go_simp; try with_reducible rfl
        go_frame
        refine wpOrd_reads (v := ?_) rfl rfl (fun _ _ _ h => h) ?_ ?_
        rotate_left
        · intro W hW; go_simp; try with_reducible rfl
        go_frame
        refine wpOrd_reads (v := ?_) rfl rfl (fun _ _ _ h => h) ?_ ?_
        rotate_left
        · intro W hW; go_simp; try with_reducible rfl
        go_frame
        refine wpOrd_reads (v := ?_) rfl rfl (fun _ _ _ h => h) ?_ ?_
        rotate_left
        · intro W hW; go_simp; try with_reducible rfl
        go_frame
        refine wpOrd_reads (v := ?_) rfl rfl (fun _ _ _ h => h) ?_ ?_
        rotate_left
        · intro W hW; go_simp; try with_reducible rfl
        go_frame
        refine wpOrd_reads (v := ?_) rfl rfl (fun _ _ _ h => h) ?_ ?_
        rotate_left
        · intro W hW; go_simp; try with_reducible rfl
        go_frame
        refine wpOrd_reads (v := ?_) rfl rfl (fun _ _ _ h => h) ?_ ?_
        rotate_left
        · intro W hW; go_simp; try with_reducible rfl
        go_frame
        refine wpOrd_reads (v := ?_) rfl rfl (fun _ _ _ h => h) ?_ ?_
        rotate_left
        · intro W hW; go_simp; try with_reducible rfl
        go_frame
        refine wpOrd_reads (v := ?_) rfl rfl (fun _ _ _ h => h) ?_ ?_
        rotate_left
        · intro W hW; go_simp; try with_reducible rfl
        go_frame
        refine wpOrd_reads (v := ?_) rfl rfl (fun _ _ _ h => h) ?_ ?_
        rotate_left
        · intro W hW; go_simp; try with_reducible rfl
        go_frame
        refine wpOrd_reads (v := ?_) rfl rfl (fun _ _ _ h => h) ?_ ?_
        rotate_left
        · intro W hW; go_simp; try with_reducible rfl
        go_frame
        refine wpOrd_turns rfl ?_
        go_wp2
        refine ⟨(Only.refl _ _).alloc _, ?_⟩
        refine wpOrd_turns rfl ?_
        go_wp2
        refine ⟨(Only.refl _ _).alloc _, ?_⟩
        refine wpOrd_reads (v := ?_) rfl rfl (fun _ _ _ h => h) ?_ ?_
        rotate_left
        · intro W hW; go_simp; try with_reducible rfl
        go_frame
        refine wpOrd_nil ?_
        have hoc := hob.drew.alloc (.cells #[.int .i64 rf, .int .i64 rb, .int .i64 rh] 70)
        go_wp2
        · go_ret
          exact WrongPost.of hoc (by
            unfold wrongM
            rw [if_neg (by omega), if_neg (by omega), if_pos (List.any_eq_true.2 ⟨_, List.mem_of_getElem? he, by show (!(aget S.A (e1, e2)).isSome) = true; rw [hT.out]; assumption⟩)])
        · go_roundg (xs.length - (i + 1))
          case measure => omega
          case rel =>
            refine ⟨i + 1, by simp, by omega, hoc, Lib.hid ?_⟩
            rw [take_snoc he]
            intro e' he'
            rcases List.mem_append.1 he' with h1 | h1
            · exact hok.out e' h1
            · simp at h1; subst h1; show (aget S.A (e1, e2)).isSome = true; rw [hT.out]; simp_all
      · have hie : i = xs.length := by omega
        subst hie
        rw [List.take_length] at hok
        clear hi hg
        have hob := ho.alloc (.map #[] 0)
        have hm0 : MapAt eStr eInt (wr.alloc (.map #[] 0)) wr.heap.size ([] : List (ByteArray × Int)) := MapAt.made wr
        have hge : w.heap.size ≤ wr.heap.size := ho.size
        have hmiss : ¬ (xs.any (fun e => !(aget S.A e.key).isSome)) = true := fun hh => by
          obtain ⟨e, he, h2⟩ := List.any_eq_true.1 hh
          have := hok.out e he
          rw [this] at h2
          cases h2
        have hMi := Lib.hid hmiss
        clear hmiss
        go_wp2
        generalize hmb : wr.heap.size = mb at *
        generalize hwm : World.alloc wr _ = wm at *
        clear hwm ho hok hx1 ht4
        go_loopg [60] (xs.length) (fun g v60 wr => ∃ i : Nat, v60 = .int .i64 (i : Int) ∧ i + g = xs.length ∧ Only (fun _ => False) w wr ∧ MapAt eStr eInt wr mb (sumM (xs.take i)) ∧ Hid (∀ e ∈ xs.take i, -1099511627776 ≤ e.amt ∧ e.amt ≤ 1099511627776))
        case atStart => exact ⟨0, rfl, by omega, hob, hm0, Lib.hid (by simp)⟩
        case round =>
          clear hm0
          obtain ⟨i, rfl, hg, ho, hmi, hbs⟩ := hrel
          by_cases hi : i < xs.length
          · obtain ⟨e, he⟩ : ∃ e, xs[i]? = some e := ⟨xs[i], List.getElem?_eq_getElem hi⟩
            obtain ⟨A', c', hA, hr⟩ := (hX.out.only ho fun _ _ => id).cells
            injection hA with hA1 hA2 hA3
            subst hA1 hA3
            obtain ⟨b, off, rfl, r0, r1, r2⟩ := hr i e he
            clear hr hA2
            have hsb := sumM_bound hbs.out e.cur
            have hti : (xs.take i).length = i := by simp; omega
            rw [hti] at hsb
            have hsn : sumM (xs.take (i + 1)) = aput (sumM (xs.take i)) e.cur ((aget (sumM (xs.take i)) e.cur).getD 0 + e.amt) := by rw [take_snoc he, sumM_snoc]
            have hSn := Lib.hid hsn
            clear hsn hti
            obtain ⟨e1, e2, e3⟩ := e
            simp only at r0 r1 r2 hsb hSn
            have hlk : ∀ W, Only (fun _ => False) wr W → (Instr.lookup 119 (.map (some mb)) (.string e2) false).run Try.prog W = .ok (.int .i64 ((aget (sumM (xs.take i)) e2).getD 0)) W := fun W hW => look_sum (hmi.only hW not_false) e2
            have hma : ∀ W, Only (fun _ => False) wr W → MapAt eStr eInt W mb (sumM (xs.take i)) := fun W hW => hmi.only hW not_false
            have hMa := Lib.hid hma
            clear hma hmi
            generalize hz : (aget (sumM (xs.take i)) e2).getD 0 = z at hlk hsb hSn
            clear hz
            have hob := ho.alloc (.cells #[.string e1, .string e2, .int .i64 e3] 44)
            have ho1 : Only (fun _ => False) wr (wr.alloc (.cells #[.string e1, .string e2, .int .i64 e3] 44)) := (Only.refl _ wr).alloc _
            have hlk1 := hlk _ ho1
            clear hlk
            go_wp2_with (at_mapUpdate; refine wpList_store_map rfl _ _ _ 119 2 rfl sOps Try.underlying119 mb _ (hMa.out _ ho1) rfl e2 (z + e3) rfl rfl ?_; intro w7 hM7 ho7 hs7)
            · go_ret
              exact WrongPost.of hob (by
                unfold wrongM maxA
                rw [if_neg (by omega), if_neg (by omega), if_neg hMi.out, if_pos (List.any_eq_true.2 ⟨_, List.mem_of_getElem? he, decide_eq_true (by show e3 < -1099511627776 ∨ e3 > 1099511627776; omega)⟩)])
            · go_roundg (xs.length - (i + 1))
              case measure => omega
              case rel =>
                refine ⟨i + 1, by simp, by omega, hob.new ho7 hge, ?_, Lib.hid ?_⟩
                · rw [hSn.out]; exact hM7
                · rw [take_snoc he]
                  intro e' he'
                  rcases List.mem_append.1 he' with h1 | h1
                  · exact hbs.out e' h1
                  · simp at h1; subst h1; show -1099511627776 ≤ e3 ∧ e3 ≤ 1099511627776; omega
            · go_ret
              exact WrongPost.of hob (by
                unfold wrongM maxA
                rw [if_neg (by omega), if_neg (by omega), if_neg hMi.out, if_pos (List.any_eq_true.2 ⟨_, List.mem_of_getElem? he, decide_eq_true (by show e3 < -1099511627776 ∨ e3 > 1099511627776; omega)⟩)])
          · have hie : i = xs.length := by omega
            subst hie
            rw [List.take_length] at hmi hbs
            clear hi hg
            have hbad : ¬ (xs.any (fun e => decide (e.amt < -1099511627776 ∨ e.amt > 1099511627776))) = true := fun hh => by
              obtain ⟨e, he, h2⟩ := List.any_eq_true.1 hh
              have := hbs.out e he
              have := of_decide_eq_true h2
              omega
            have hBad := Lib.hid hbad
            clear hbad
            go_wp2_with (first | (at_range; refine wpList_range_map rfl _ 119 2 rfl Try.underlying119 mb _ hmi rfl ?_; intro w0 hIt0 ho0 hs0))
            have hor := ho.andQuiet ho0
            have hger : w.heap.size ≤ wr.heap.size := ho.size
            generalize hrb : wr.heap.size = rb at *
            clear ho0 hs0 ho hbs
            go_frame
            go_loopg [15] ((sumM xs).length) (fun g _ wr => ∃ done, IterAt eStr eInt wr mb rb (sumM xs) done ∧ done.length + g = (sumM xs).length ∧ Only (fun _ => False) w wr ∧ Hid (∀ p ∈ done, p.2 = 0))
            case atStart => exact ⟨[], hIt0, by simp, hor, Lib.hid (by simp)⟩
            case round =>
              clear hIt0 hor
              obtain ⟨done, hIt, hg, ho, hz⟩ := hrel
              have hgd := Lib.hid hg
              clear hg
              go_wp2_with (first | (at_next; refine wpList_next_map rfl _ rfl sOps mb rb _ done hIt rfl ?_ ?_))
              · intro hperm
                go_wp2
                go_ret
                exact WrongPost.of ho (by
                  unfold wrongM maxA
                  rw [if_neg (by omega), if_neg (by omega), if_neg hMi.out, if_neg hBad.out, if_neg (fun hh => by
                    obtain ⟨p, hp, h2⟩ := List.any_eq_true.1 hh
                    exact of_decide_eq_true h2 (hz.out p (hperm.mem_iff.2 hp)))])
              · intro k n w1 hin hnot hIt1 ho1 hs1 hen
                have how := ho.new ho1 hger
                have hle := hIt1.length_le
                simp only [eStr, eInt] at hen ⊢
                go_wp2
                · go_ret
                  exact WrongPost.of how (by
                    unfold wrongM maxA
                    rw [if_neg (by omega), if_neg (by omega), if_neg hMi.out, if_neg hBad.out, if_pos (List.any_eq_true.2 ⟨_, hin, decide_eq_true (by show n ≠ 0; simp_all)⟩)])
                · go_roundg ((sumM xs).length - (done.length + 1))
                  case measure => have := hgd.out; simp only [List.length_append, List.length_cons, List.length_nil] at hle; omega
                  case rel =>
                    refine ⟨done ++ [(k, n)], hIt1, by simp only [List.length_append, List.length_cons, List.length_nil] at hle ⊢; omega, how, Lib.hid ?_⟩
                    intro p hp
                    rcases List.mem_append.1 hp with h1 | h1
                    · exact hz.out p h1
                    · simp at h1; subst h1; show n = 0; simp_all
  · go_ret; exact WrongPost.of (Only.refl _ _) (by unfold wrongM; rw [if_pos (by omega)])
  · go_ret; exact WrongPost.of (Only.refl _ _) (by unfold wrongM; rw [if_pos (by omega)])
end
end Go.Proofs.Ytoeokakcdfdjkaa
