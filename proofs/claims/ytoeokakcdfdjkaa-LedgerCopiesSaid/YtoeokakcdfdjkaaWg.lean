/- WALKS: Take. -/
import Derived.Test.YtoeokakcdfdjkaaWf
import Derived.Test.YtoeokakcdfdjkaaOps
namespace Go.Proofs.Ytoeokakcdfdjkaa
open Go.RowKit Go.Shelf

theorem acctOr_keepL (A : List (Key × Acct)) (k : Key) (m : Int) (j : Key) : acctOr (keepL A k m) j = if j = k then { acctOr A k with held := (acctOr A k).held + m } else acctOr A j := by
  unfold keepL
  conv => lhs; unfold acctOr
  rw [aget_put]
  split
  · rfl
  · rfl
theorem bal_keepL (A : List (Key × Acct)) (k : Key) (m : Int) (j : Key) : (acctOr (keepL A k m) j).bal = (acctOr A j).bal := by
  rw [acctOr_keepL]; split
  · rename_i e; rw [e]
  · rfl
theorem mem_keepL {A : List (Key × Acct)} {k : Key} {m : Int} {j : Key} (h : j ∈ akeys A) : j ∈ akeys (keepL A k m) := mem_keys_put.2 (.inr h)
theorem isSome_mem {K V : Type} [DecidableEq K] {A : List (K × V)} {k : K} (h : (aget A k).isSome = true) : k ∈ akeys A := by
  by_cases hk : k ∈ akeys A
  · exact hk
  · rw [aget_none.2 hk] at h; cases h

theorem str_eq {a b : ByteArray} (h : (a.toList == b.toList) = true) : a = b := by
  rw [← beq_toListBytes, ba_beq] at h; exact of_decide_eq_true h
theorem str_ne {a b : ByteArray} (h : (a.toList == b.toList) = false) : a ≠ b := by
  rw [← beq_toListBytes, ba_beq] at h; exact of_decide_eq_false h
theorem addAll_congr {A : List (Key × Acct)} {D D' : List (Key × Int)} (h : ∀ j, aget D j = aget D' j) : addAll A D = addAll A D' := by
  unfold addAll; simp only [h]
theorem bookM_congr {S : Led} {t : ByteArray} {x : List Ent} {D D' : List (Key × Int)} (h : ∀ j, aget D j = aget D' j) : bookM S t x D = bookM S t x D' := by
  unfold bookM; rw [addAll_congr h]
theorem two_aget {k j : Key} {a b : Int} (h : j ≠ k) : ∀ i, aget (aput (aput [] k a) j b) i = aget [(k, a), (j, b)] i := by
  intro i; simp [aput, h.symm]
theorem two_aget' {k j : Key} {a b : Int} (h : j ≠ k) : ∀ i, aget (aput (aput [] j b) k a) i = aget [(k, a), (j, b)] i := by
  intro i
  simp only [aput, if_neg h, aget]
  by_cases h1 : k = i
  · subst h1; simp [h]
  · simp [h1]
theorem two_mem {k j : Key} {a b : Int} (h : j ≠ k) : ∀ p ∈ aput (aput [] k a) j b, p = (k, a) ∨ p = (j, b) := by
  intro p hp; simpa [aput, h.symm] using hp
theorem two_mem' {k j : Key} {a b : Int} (h : j ≠ k) : ∀ p ∈ aput (aput [] j b) k a, p = (k, a) ∨ p = (j, b) := by
  intro p hp; simp [aput, h] at hp; exact hp.symm
theorem heap_drew (w : World) : w.drew.heap = w.heap := rfl

/-- What an act leaves that may make a post: its results, and the ledger, whose posts may lie elsewhere. -/
def LPostV (l : Loc) (w : World) (S' : Led) (v : Value) (e : Ending) (w' : World) : Prop :=
  ∃ pv', e = .returned v ∧ LAt w' { l with pv := pv' } S' ∧ Only l.F w w' ∧ (pv'.ownBlock = l.pv.ownBlock ∨ ∀ b, pv'.ownBlock = some b → w.heap.size ≤ b)
theorem LPostV.same {l : Loc} {w w' : World} {S S' : Led} {v : Value} {F : Nat → Prop} (hS : S = S') (hL : LAt w' l S') (ho : Only F w w') (hF : ∀ i, F i → l.F i) : LPostV l w S v (.returned v) w' :=
  ⟨l.pv, rfl, hS ▸ hL, ho.mono fun i _ hi => hF i hi, .inl rfl⟩
theorem LPostV.at1 {l : Loc} {w w' : World} {r : Led × Int} {S' : Led} {n : Int} {F : Nat → Prop} (hr : r = (S', n)) (hL : LAt w' l S') (ho : Only F w w') (hF : ∀ i, F i → l.F i) : LPostV l w r.1 (.int .i64 r.2) (.returned (.int .i64 n)) w' := by
  subst hr; exact LPostV.same rfl hL ho hF
section
variable {w : World} {l : Loc} {S : Led}

set_option maxHeartbeats 4000000 in
set_option maxRecDepth 100000 in
theorem take_any (h : LAt w l S) (G : Good S) (nm to : ByteArray) (n : Int) (hnm : nm.size ≤ 1000000) :
    Calls Try.prog 16 #[.pointer (some ⟨l.lb, 0, none⟩), .string nm, .string to, .int .i64 n] w (LPostV l w (takeM S nm to n).1 (.int .i64 (takeM S nm to n).2)) := by
  have hM : maxA = 1099511627776 := rfl
  have hbT := G.bounds (to, (holdOr S.H nm).cur)
  have hbH := G.bounds ((holdOr S.H nm).acct, (holdOr S.H nm).cur)
  rw [hM] at hbT hbH
  have hqk : (aget S.H nm).isSome = true → 1 ≤ (holdOr S.H nm).amt ∧ (holdOr S.H nm).amt ≤ 1099511627776 ∧ ((holdOr S.H nm).acct, (holdOr S.H nm).cur) ∈ akeys S.A := by
    intro hs
    cases hk : aget S.H nm with
    | none => rw [hk] at hs; cases hs
    | some hd => rw [holdOr_of hk]; have := (G.hold _ (aget_mem hk)).2; rw [hM] at this; exact this
  have hnod := Lib.hid G.nodA
  have hlk : ∀ W, Only (fun _ => False) w W → (Instr.lookup 72 (.map (some l.ab)) (.agg #[.string to, .string (holdOr S.H nm).cur]) true).run Try.prog W = .ok (.tuple #[.agg #[.int .i64 (acctOr S.A (to, (holdOr S.H nm).cur)).floor, .int .i64 (acctOr S.A (to, (holdOr S.H nm).cur)).bal, .int .i64 (acctOr S.A (to, (holdOr S.H nm).cur)).held], .bool (aget S.A (to, (holdOr S.H nm).cur)).isSome]) W := fun W hW => look_acct (h.accts.only hW not_false) to (holdOr S.H nm).cur true
  have hlh : (Instr.lookup 73 (.map (some l.hb)) (.string nm) true).run Try.prog w = .ok (.tuple #[.agg #[.string (holdOr S.H nm).id, .string (holdOr S.H nm).acct, .string (holdOr S.H nm).cur, .int .i64 (holdOr S.H nm).amt], .bool (aget S.H nm).isSome]) w := look_hold h.holds nm true
  obtain ⟨c0, c1, c2, c3⟩ := h.c
  have hab := h.accts.lt
  have hhb := h.holds.lt
  have hlen : ∀ W, (Builtin.len_ #[40] 3 #[l.pv]).run Try.prog W = .ok (.int .i64 S.P.length) W := by
    intro W
    obtain ⟨evs, _, h2, _⟩ := h.posts
    obtain ⟨A, c, hA⟩ := own_sl h2
    rw [hA]
    simp [Builtin.len_, run_underlying Try.underlying40, Result.andThen, goInt]
  clear hM G
  have hq := Lib.hid (rfl : holdOr S.H nm = holdOr S.H nm)
  generalize hqe : holdOr S.H nm = q at hlk hlh hbT hbH hqk
  have hQ := Lib.hid hqe
  clear hqe hq
  generalize hr : acctOr S.A (to, q.cur) = r at hlk hbT
  have hR := Lib.hid hr
  clear hr
  generalize hth : (aget S.A (to, q.cur)).isSome = there at hlk
  have hT := Lib.hid hth
  clear hth
  generalize hkn : (aget S.H nm).isSome = known at hlh hqk
  have hN := Lib.hid hkn
  clear hkn
  obtain ⟨rf, rb, rh⟩ := r
  obtain ⟨q1, q2, q3, q4⟩ := q
  simp only at hlk hlh hbT hbH hqk
  unfold Acct.free at hbT hbH
  simp only at hbT hbH
  generalize hbq : acctOr S.A (q2, q3) = qa at hbH
  have hBQ := Lib.hid hbq
  clear hbq
  obtain ⟨qf, qb, qh⟩ := qa
  simp only at hbH
  have hHH := Lib.hid hbH
  have hTT := Lib.hid hbT
  have hKK := Lib.hid hqk
  clear hbH hbT hqk
  go_enter Try.func16, Try.ntmps16
  go_wp2
  have ho0 := ((Only.refl (fun _ => False) w).alloc (.cells #[.string q1, .string q2, .string q3, .int .i64 q4] 66)).drew
  have hc1 : ∀ W, Only (fun _ => False) (w.alloc (.cells #[.string q1, .string q2, .string q3, .int .i64 q4] 66)).drew W → W.cell? ⟨l.lb, 1, none⟩ = some (.map (some l.ab)) := fun W hW => hW.keeps (ho0.keeps c1 not_false) not_false
  have hc4 : ∀ W, Only (fun _ => False) (w.alloc (.cells #[.string q1, .string q2, .string q3, .int .i64 q4] 66)).drew W → W.cell? ⟨w.heap.size, 2, none⟩ = some (.string q3) := fun W hW => hW.keeps (by go_simp) not_false
  have hlk' : ∀ W, Only (fun _ => False) (w.alloc (.cells #[.string q1, .string q2, .string q3, .int .i64 q4] 66)).drew W → (Instr.lookup 72 (.map (some l.ab)) (.agg #[.string to, .string q3]) true).run Try.prog W = .ok (.tuple #[.agg #[.int .i64 rf, .int .i64 rb, .int .i64 rh], .bool there]) W := fun W hW => hlk W (ho0.trans hW fun _ _ h => h)
  clear hlk
  refine wp_region_ord (.read 0 (.read 1 (.read 2 (.read 3 (.read 4 (.read 5 (.read 6 (.read 7 (.read 8 (.read 9 (.read 10 (.read 11 (.turn 12 (.turn 13 (.read 14 .stop))))))))))))))) (Only (fun _ => False) _) (by kernel_rfl) (by kernel_rfl) (by kernel_rfl) (by first | exact Only.refl _ _ | assumption) ?_
  refine wpOrd_reads (v := ?_) rfl rfl (fun _ _ _ h => h) ?_ ?_
  rotate_left
  · intro W hW; go_simp; try with_reducible rfl
  go_frame
  refine wpOrd_reads (v := ?_) rfl rfl (fun _ _ _ h => h) ?_ ?_
  rotate_left
  · intro W hW; go_simp; try with_reducible rfl
  go_frame
  refine wpOrd_reads (v := ?_) rfl rfl (fun _ _ _ h => h) ?_ ?_
  rotate_left
  · intro W hW; go_simp; try with_reducible rfl
  go_frame
  refine wpOrd_reads (v := ?_) rfl rfl (fun _ _ _ h => h) ?_ ?_
  rotate_left
  · intro W hW; go_simp; try with_reducible rfl
  go_frame
  refine wpOrd_reads (v := ?_) rfl rfl (fun _ _ _ h => h) ?_ ?_
  rotate_left
  · intro W hW; go_simp; try with_reducible rfl
  go_frame
  refine wpOrd_reads (v := ?_) rfl rfl (fun _ _ _ h => h) ?_ ?_
  rotate_left
  · intro W hW; go_simp; try with_reducible rfl
  go_frame
  refine wpOrd_reads (v := ?_) rfl rfl (fun _ _ _ h => h) ?_ ?_
  rotate_left
  · intro W hW; go_simp; try with_reducible rfl
  go_frame
  refine wpOrd_reads (v := ?_) rfl rfl (fun _ _ _ h => h) ?_ ?_
  rotate_left
  · intro W hW; go_simp; try with_reducible rfl
  go_frame
  refine wpOrd_reads (v := ?_) rfl rfl (fun _ _ _ h => h) ?_ ?_
  rotate_left
  · intro W hW; go_simp; try with_reducible rfl
  go_frame
  refine wpOrd_reads (v := ?_) rfl rfl (fun _ _ _ h => h) ?_ ?_
  rotate_left
  · intro W hW; go_simp; try with_reducible rfl
  go_frame
  refine wpOrd_reads (v := ?_) rfl rfl (fun _ _ _ h => h) ?_ ?_
  rotate_left
  · intro W hW; go_simp; try with_reducible rfl
  go_frame
  refine wpOrd_reads (v := ?_) rfl rfl (fun _ _ _ h => h) ?_ ?_
  rotate_left
  · intro W hW; go_simp; try with_reducible rfl
  go_frame
  refine wpOrd_turns rfl ?_
  go_wp2
  refine ⟨(Only.refl _ _).alloc _, ?_⟩
  refine wpOrd_turns rfl ?_
  go_wp2
  refine ⟨(Only.refl _ _).alloc _, ?_⟩
  refine wpOrd_reads (v := ?_) rfl rfl (fun _ _ _ h => h) ?_ ?_
  rotate_left
  · intro W hW; go_simp; try with_reducible rfl
  go_frame
  refine wpOrd_nil ?_
  generalize hw2 : World.drew (World.alloc (World.alloc w _) _) = w2
  have hoE : Only (fun _ => False) w w2 := hw2 ▸ (((Only.refl (fun _ => False) w).alloc _).alloc _).drew
  have hd0 : w2.cell? ⟨l.lb, 2, none⟩ = some l.pv := hoE.keeps c2 not_false
  have ha0 : w2.cell? ⟨w.heap.size, 0, none⟩ = some (.string q1) := by subst hw2; go_simp
  have ha1 : w2.cell? ⟨w.heap.size, 1, none⟩ = some (.string q2) := by subst hw2; go_simp
  have ha2 : w2.cell? ⟨w.heap.size, 2, none⟩ = some (.string q3) := by subst hw2; go_simp
  have ha3 : w2.cell? ⟨w.heap.size, 3, none⟩ = some (.int .i64 q4) := by subst hw2; go_simp
  have hr1 : w2.cell? ⟨w.heap.size + 1, 1, none⟩ = some (.int .i64 rb) := by subst hw2; go_simp
  have hsz : w.heap.size + 2 ≤ w2.heap.size := by subst hw2; simp
  have hL2 := h.quiet hoE
  have hLs := Lib.hid (fun hb hn => less_any hL2 q1 q2 q3 q4 n hb hn)
  clear hw2 hc1 hc4 hlk' hlh
  have hab2 : l.ab < w2.heap.size := by omega
  go_wp2_with (first
    | (go_at_call 36; refine (hLs.out ?_ ?_).mono ?_; (rw [hBQ.out]; have := hHH.out; have := hKK.out (by assumption); simp only; omega); (have := hKK.out (by assumption); omega); rintro e w3 ⟨rfl, hL3, ho3⟩; have hz3 := ho3.size; have hb1 : w3.cell? ⟨w.heap.size, 1, none⟩ = some (.string q2) := ho3.keeps ha1 (fun e => by simp only at e; omega); have hb2 : w3.cell? ⟨w.heap.size, 2, none⟩ = some (.string q3) := ho3.keeps ha2 (fun e => by simp only at e; omega)))
  · go_ret; exact LPostV.at1 (by unfold takeM; simp only; rw [if_pos (by rw [hQ.out]; simp only; rw [hT.out, hN.out]; simp_all)]) hL2 hoE (fun _ h => h.elim)
  · go_ret; exact LPostV.at1 (by unfold takeM; simp only; rw [if_neg (by rw [hQ.out]; simp only; rw [hT.out, hN.out]; simp_all), if_pos (by rw [hQ.out]; exact str_eq (by assumption))]) hL2 hoE (fun _ h => h.elim)
  · go_ret; exact LPostV.at1 (by unfold takeM maxA; simp only; rw [if_neg (by rw [hQ.out]; simp only; rw [hT.out, hN.out]; simp_all), if_neg (by rw [hQ.out]; exact str_ne (by assumption)), if_pos (by rw [hQ.out]; simp only; omega)]) hL2 hoE (fun _ h => h.elim)
  · go_ret; exact LPostV.at1 (by unfold takeM maxA; simp only; rw [if_neg (by rw [hQ.out]; simp only; rw [hT.out, hN.out]; simp_all), if_neg (by rw [hQ.out]; exact str_ne (by assumption)), if_neg (by rw [hQ.out]; simp only; omega), if_pos (by omega)]) hL2 hoE (fun _ h => h.elim)
  · have hnb := (hKK.out (by assumption)).2.1
    have htb := hTT.out
    rename_i hov
    rw [IntWalk.wrap64_in _ (by omega)] at hov
    go_ret; exact LPostV.at1 (by unfold takeM maxA; simp only; rw [if_neg (by rw [hQ.out]; simp only; rw [hT.out, hN.out]; simp_all), if_neg (by rw [hQ.out]; exact str_ne (by assumption)), if_neg (by rw [hQ.out]; simp only; omega), if_neg (by omega), if_pos (by rw [hQ.out]; simp only; rw [hR.out]; simp only; omega)]) hL2 hoE (fun _ h => h.elim)
  · have hnb := (hKK.out (by assumption)).2.1
    have hqm := (hKK.out (by assumption)).2.2
    have htb := hTT.out
    have hhb' := hHH.out
    have hov : wrap64 (rb + n) ≤ 1099511627776 := by assumption
    rw [IntWalk.wrap64_in _ (by omega)] at hov
    have hne : to ≠ q2 := str_ne (by assumption)
    have htm : (to, q3) ∈ akeys S.A := isSome_mem (by rw [hT.out]; simp_all)
    have hmod : takeM S nm to n = (bookM (lessM S ⟨q1, q2, q3, q4⟩ n) (takeText nm) [⟨q2, q3, -n⟩, ⟨to, q3, n⟩] [((q2, q3), -n), ((to, q3), n)], 0) := by
      unfold takeM maxA; simp only; rw [if_neg (by rw [hQ.out]; simp only; rw [hT.out, hN.out]; simp_all), if_neg (by rw [hQ.out]; exact hne), if_neg (by rw [hQ.out]; simp only; omega), if_neg (by omega), if_neg (by rw [hQ.out]; simp only; rw [hR.out]; simp only; omega), hQ.out]
    have hMo := Lib.hid hmod
    simp only [IntWalk.wrap64_in (-n) (by omega)]
    generalize hw4 : World.alloc w3 _ = w4
    have ho4 : Only (fun _ => False) w3 w4 := hw4 ▸ (Only.refl _ _).alloc _
    have hs4 : w4.heap.size = w3.heap.size + 1 := by subst hw4; simp
    have hx : ∀ W, Only (fun _ => False) w4.drew W → ReadsEnts W (.slice (some ⟨w3.heap.size, 0, none⟩) 2 2) [⟨q2, q3, -n⟩, ⟨to, q3, n⟩] := fun W hW => by
      refine ⟨_, _, rfl, fun _ => ⟨_, _, rfl, fun j u hj => hW.keeps ?_ not_false⟩⟩
      subst hw4
      simp only [entCells] at hj
      simpa using hj
    have hb1' : ∀ W, Only (fun _ => False) w4.drew W → W.cell? ⟨w.heap.size, 1, none⟩ = some (.string q2) := fun W hW => hW.keeps (ho4.keeps hb1 not_false) not_false
    have hb2' : ∀ W, Only (fun _ => False) w4.drew W → W.cell? ⟨w.heap.size, 2, none⟩ = some (.string q3) := fun W hW => hW.keeps (ho4.keeps hb2 not_false) not_false
    have hL4 : LAt w4.drew l (lessM S ⟨q1, q2, q3, q4⟩ n) := hL3.quiet ho4.drew
    have hBk : ∀ W D, Only (fun _ => False) w4.drew W → MapAt ePair eInt W w4.drew.heap.size D → (∀ j, aget D j = aget [((q2, q3), -n), ((to, q3), n)] j) → (∀ p ∈ D, p = ((q2, q3), -n) ∨ p = ((to, q3), n)) →
        Calls Try.prog 37 #[.pointer (some ⟨l.lb, 0, none⟩), .string (⟨#[116, 97, 107, 101, 32]⟩ ++ nm), .slice (some ⟨w3.heap.size, 0, none⟩) 2 2, .map (some w4.drew.heap.size)] W (fun e w' => ∃ pv', e = .returned (.int .i64 ((S.P.length : Int) + 1)) ∧ LAt w' { l with pv := pv' } (bookM (lessM S ⟨q1, q2, q3, q4⟩ n) (takeText nm) [⟨q2, q3, -n⟩, ⟨to, q3, n⟩] [((q2, q3), -n), ((to, q3), n)]) ∧ Only l.F W w' ∧ (pv'.ownBlock = l.pv.ownBlock ∨ ∀ b, pv'.ownBlock = some b → W.heap.size ≤ b)) := by
      intro W D hW hm hD hD2
      have hab4 : l.ab < w3.heap.size := by omega
      refine (book_any (hL4.quiet hW) (nodup_put hnod.out _ _) (takeText nm) (hx W hW) (by simp) (by simp) (by simp only [lessM]; omega) hm (by simp only [heap_drew]; omega) (fun b hb e => by simp [Value.ownBlock] at hb; omega) (fun p hp => ?_) (fun p hp => ?_)).mono ?_
      · rcases hD2 p hp with rfl | rfl
        · exact mem_keepL hqm
        · exact mem_keepL htm
      · simp only [lessM, bal_keepL]
        rcases hD2 p hp with rfl | rfl
        · simp only [hBQ.out]; omega
        · simp only [hR.out]; omega
      · rintro e w' ⟨pv', rfl, h1, h2, h3⟩
        exact ⟨pv', rfl, bookM_congr hD ▸ h1, h2, h3⟩
    have hBH := Lib.hid hBk
    have hoW : Only l.F w w4.drew := (((hoE.mono (G := l.F) fun _ _ h => h.elim).trans ho3 fun i _ hi => hi.elim (fun h => .inr (.inl h)) (fun h => .inr (.inr (.inl h)))).andQuiet ho4.drew)
    have hzW : w.heap.size ≤ w4.drew.heap.size := by simp; omega
    have hHL := Lib.hid hL4
    have hne1 : (to, q3) ≠ (q2, q3) := fun e => hne (congrArg Prod.fst e)
    clear hLs hw4 hb1 hb2 hBk hx hL3 hL4 hmod hL2 hs4 ho4 hz3
    refine wp_region_ord (.read 0 (.read 1 (.read 2 (.read 3 (.read 5 (.read 6 (.read 7 (.read 8 (.read 9 (.read 10 (.read 11 (.read 13 (.read 14 (.read 15 (.read 16 (.read 17 (.turn 4 (.fork 12 18 (.turn 18 (.read 19 (.last 20))) (.turn 12 (.read 19 (.last 20))))))))))))))))))))) (Only (fun _ => False) _) (by kernel_rfl) (by kernel_rfl) (by kernel_rfl) (by first | exact Only.refl _ _ | assumption) ?_
    refine wpOrd_reads (v := ?_) rfl rfl (fun _ _ _ h => h) ?_ ?_
    rotate_left
    · intro W hW; go_simp; try with_reducible rfl
    go_frame
    refine wpOrd_reads (v := ?_) rfl rfl (fun _ _ _ h => h) ?_ ?_
    rotate_left
    · intro W hW; go_simp; try with_reducible rfl
    go_frame
    refine wpOrd_reads (v := ?_) rfl rfl (fun _ _ _ h => h) ?_ ?_
    rotate_left
    · intro W hW; go_simp; rw [if_neg (by omega)]; try with_reducible rfl
    go_frame
    refine wpOrd_reads (v := ?_) rfl rfl (fun _ _ _ h => h) ?_ ?_
    rotate_left
    · intro W hW; go_simp; try with_reducible rfl
    go_frame
    refine wpOrd_reads (v := ?_) rfl rfl (fun _ _ _ h => h) ?_ ?_
    rotate_left
    · intro W hW; go_simp; try with_reducible rfl
    go_frame
    refine wpOrd_reads (v := ?_) rfl rfl (fun _ _ _ h => h) ?_ ?_
    rotate_left
    · intro W hW; go_simp; try with_reducible rfl
    go_frame
    refine wpOrd_reads (v := ?_) rfl rfl (fun _ _ _ h => h) ?_ ?_
    rotate_left
    · intro W hW; go_simp; try with_reducible rfl
    go_frame
    refine wpOrd_reads (v := ?_) rfl rfl (fun _ _ _ h => h) ?_ ?_
    rotate_left
    · intro W hW; go_simp; try with_reducible rfl
    go_frame
    refine wpOrd_reads (v := ?_) rfl rfl (fun _ _ _ h => h) ?_ ?_
    rotate_left
    · intro W hW; go_simp; try with_reducible rfl
    go_frame
    refine wpOrd_reads (v := ?_) rfl rfl (fun _ _ _ h => h) ?_ ?_
    rotate_left
    · intro W hW; go_simp; try with_reducible rfl
    go_frame
    refine wpOrd_reads (v := ?_) rfl rfl (fun _ _ _ h => h) ?_ ?_
    rotate_left
    · intro W hW; go_simp; try with_reducible rfl
    go_frame
    refine wpOrd_reads (v := ?_) rfl rfl (fun _ _ _ h => h) ?_ ?_
    rotate_left
    · intro W hW; go_simp; try with_reducible rfl
    go_frame
    refine wpOrd_reads (v := ?_) rfl rfl (fun _ _ _ h => h) ?_ ?_
    rotate_left
    · intro W hW; go_simp; try with_reducible rfl
    go_frame
    refine wpOrd_reads (v := ?_) rfl rfl (fun _ _ _ h => h) ?_ ?_
    rotate_left
    · intro W hW; go_simp; try with_reducible rfl
    go_frame
    refine wpOrd_reads (v := ?_) rfl rfl (fun _ _ _ h => h) ?_ ?_
    rotate_left
    · intro W hW; go_simp; try with_reducible rfl
    go_frame
    refine wpOrd_reads (v := ?_) rfl rfl (fun _ _ _ h => h) ?_ ?_
    rotate_left
    · intro W hW; go_simp; try with_reducible rfl
    go_frame
    refine wpOrd_turns rfl ?_
    refine wpList_made_map (K := Key) (V := Int) (ek := ePair) (ev := eInt) rfl 82 rfl ?_
    intro hm
    have hoI : Only (fun _ => False) w4.drew (w4.drew.alloc (.map #[] 0)) := (Only.refl _ w4.drew).alloc (.map #[] 0)
    refine wpList_nil ⟨hoI, ?_⟩
    refine wpOrd_forks ?_ ?_
    · refine wpOrd_turns rfl ?_
      refine wpList_insert_map rfl _ _ _ 82 2 rfl kOps Try.underlying82 _ _ hm rfl (q2, q3) (-n) rfl (by first | exact congrArg (Value.int .i64) (IntWalk.wrap64_in (-n) (by omega)) | exact congrArg (Value.int .i64) (IntWalk.i64_in (-n) (by omega)) | rfl) ?_
      clear hm
      intro wn hm ho' hs'
      have hoI := hoI.new ho' (Nat.le_refl _)
      clear ho' hs'
      refine wpList_nil ⟨hoI, ?_⟩
      refine wpOrd_turns rfl ?_
      refine wpList_insert_map rfl _ _ _ 82 2 rfl kOps Try.underlying82 _ _ hm rfl (to, q3) n rfl rfl ?_
      clear hm
      intro wn hm ho' hs'
      have hoI := hoI.new ho' (Nat.le_refl _)
      clear ho' hs'
      refine wpList_nil ⟨hoI, ?_⟩
      refine wpOrd_reads (v := ?_) rfl rfl (fun _ _ _ h => h) ?_ ?_
      rotate_left
      · intro W hW; go_simp; try with_reducible rfl
      go_frame
      refine wpOrd_lasts rfl ?_
      go_wp2_with (go_at_call 37; refine (hBH.out _ _ hoI hm ?_ ?_).mono ?_; (first | exact two_aget hne1 | exact two_aget' hne1); (first | exact two_mem hne1 | exact two_mem' hne1); rintro e w9 ⟨pv', rfl, hL9, ho9, hpv9⟩)
      refine ⟨trivial, ?_⟩
      go_wp2
      go_ret
      rw [hMo.out]
      exact ⟨pv', rfl, hL9, (hoW.andQuiet hoI).trans ho9 fun _ _ h => h, hpv9.imp (fun h => h) fun h b hb => Nat.le_trans (Nat.le_trans hzW hoI.size) (h b hb)⟩
    · refine wpOrd_turns rfl ?_
      refine wpList_insert_map rfl _ _ _ 82 2 rfl kOps Try.underlying82 _ _ hm rfl (to, q3) n rfl rfl ?_
      clear hm
      intro wn hm ho' hs'
      have hoI := hoI.new ho' (Nat.le_refl _)
      clear ho' hs'
      refine wpList_nil ⟨hoI, ?_⟩
      refine wpOrd_turns rfl ?_
      refine wpList_insert_map rfl _ _ _ 82 2 rfl kOps Try.underlying82 _ _ hm rfl (q2, q3) (-n) rfl (by first | exact congrArg (Value.int .i64) (IntWalk.wrap64_in (-n) (by omega)) | exact congrArg (Value.int .i64) (IntWalk.i64_in (-n) (by omega)) | rfl) ?_
      clear hm
      intro wn hm ho' hs'
      have hoI := hoI.new ho' (Nat.le_refl _)
      clear ho' hs'
      refine wpList_nil ⟨hoI, ?_⟩
      refine wpOrd_reads (v := ?_) rfl rfl (fun _ _ _ h => h) ?_ ?_
      rotate_left
      · intro W hW; go_simp; try with_reducible rfl
      go_frame
      refine wpOrd_lasts rfl ?_
      go_wp2_with (go_at_call 37; refine (hBH.out _ _ hoI hm ?_ ?_).mono ?_; (first | exact two_aget hne1 | exact two_aget' hne1); (first | exact two_mem hne1 | exact two_mem' hne1); rintro e w9 ⟨pv', rfl, hL9, ho9, hpv9⟩)
      refine ⟨trivial, ?_⟩
      go_wp2
      go_ret
      rw [hMo.out]
      exact ⟨pv', rfl, hL9, (hoW.andQuiet hoI).trans ho9 fun _ _ h => h, hpv9.imp (fun h => h) fun h b hb => Nat.le_trans (Nat.le_trans hzW hoI.size) (h b hb)⟩
  · go_ret; exact LPostV.at1 (by unfold takeM maxA; simp only; rw [if_neg (by rw [hQ.out]; simp only; rw [hT.out, hN.out]; simp_all), if_neg (by rw [hQ.out]; exact str_ne (by assumption)), if_pos (by omega)]) hL2 hoE (fun _ h => h.elim)
  · go_ret; exact LPostV.at1 (by unfold takeM; simp only; rw [if_pos (by rw [hQ.out]; simp only; rw [hT.out, hN.out]; simp_all)]) hL2 hoE (fun _ h => h.elim)
end
end Go.Proofs.Ytoeokakcdfdjkaa
