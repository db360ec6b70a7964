/- WALKS: As. -/
import Derived.Test.YtoeokakcdfdjkaaWx
import Derived.Test.YtoeokakcdfdjkaaAs
namespace Go.Proofs.Ytoeokakcdfdjkaa
open Go.RowKit Go.Shelf
theorem postCells_take {P : List PostM} {vs : List Value} (h : vs.length = P.length) (n : Nat) : (postCells P vs).take (n * 3) = postCells (P.take n) (vs.take n) := by
  induction P generalizing vs n with
  | nil => cases vs <;> simp [postCells]
  | cons q r ih =>
    cases vs with
    | nil => simp at h
    | cons u us =>
      simp only [List.length_cons, Nat.add_right_cancel_iff] at h
      cases n with
      | zero => simp [postCells]
      | succ n =>
        have e1 : (n + 1) * 3 = n * 3 + 3 := by omega
        rw [e1]
        simp [postCells, ih h]
/-- The first posts of a row of posts. -/
theorem PostsAt.prefix_ {w : World} {A : Option Addr} {c : Nat} {P : List PostM} (h : PostsAt w (.slice A P.length c) P) {n : Nat} (hn : n ≤ P.length) : PostsAt w (.slice A n c) (P.take n) := by
  obtain ⟨evs, h1, h2, h3⟩ := h
  have hl : (P.take n).length = n := by rw [List.length_take]; omega
  refine ⟨evs.take n, by simp [h1], ?_, fun j p v hj hv => ?_⟩
  · rw [hl]
    refine ⟨by rw [postCells_length (by simp [h1]), hl], ?_⟩
    rcases h2.2 with ⟨he, h0⟩ | ⟨g, cap, cur, he, hb, hh, k1, k2, k3, k4⟩
    · injection he with he1 he2 he3
      subst he1 he3
      have : n = 0 := by omega
      subst this
      exact .inl ⟨rfl, rfl⟩
    · injection he with he1 he2 he3
      subst he1 he3
      refine .inr ⟨g, c, cur, rfl, hb, hh, by omega, k2, k3, ?_⟩
      rw [← postCells_take h1, ← k4, List.take_take]
      congr 1
      omega
  · rw [List.getElem?_take] at hj hv
    split at hj
    · rename_i hlt
      rw [if_pos hlt] at hv
      exact h3 j p v hj hv
    · cases hj
/-- A row of posts: where each lies. -/
theorem PostsAt.row {w : World} {A : Option Addr} {c : Nat} {P : List PostM} (h : PostsAt w (.slice A P.length c) P) {i : Nat} {p : PostM} (hp : P[i]? = some p) : ∃ b v, A = some ⟨b, 0, none⟩ ∧
    w.cell? ⟨b, i * 3, none⟩ = some (.int .i64 p.num) ∧ w.cell? ⟨b, i * 3 + 1, none⟩ = some (.string p.text) ∧ w.cell? ⟨b, i * 3 + 2, none⟩ = some v ∧ w.ownsRow 0 44 3 v p.ents.length (entCells p.ents) := by
  obtain ⟨evs, hel, hrow, hents⟩ := h
  have hlt : i < P.length := (List.getElem?_eq_some_iff.1 hp).1
  obtain ⟨u, hu⟩ : ∃ u, evs[i]? = some u := ⟨evs[i]'(by omega), List.getElem?_eq_getElem (by omega)⟩
  obtain ⟨B, hB⟩ : ∃ B, P.length = B + 1 := ⟨P.length - 1, by omega⟩
  have hrow' := hrow
  rw [hB] at hrow'
  obtain ⟨g, c', he, hcell⟩ := own_first hrow'
  rw [← hB] at he
  injection he with he1 _ he2
  subst he1
  obtain ⟨k0, k1, k2⟩ := postCells_at3 hel hp hu
  have e1 : i * 3 = 3 * i := by omega
  rw [e1]
  exact ⟨g, u, rfl, hcell _ _ k0, hcell _ _ k1, hcell _ _ k2, hents i p u hp hu⟩
theorem own_cap {w : World} {base n c : Nat} {e : TypeId} {size : Nat} {A : Option Addr} {xs : List Value} (h : w.ownsRow base e size (.slice A n c) n xs) : n ≤ c := by
  rcases h.2 with ⟨he, h0⟩ | ⟨g, cap, cur, he, hb, hh, k1, k2, k3, k4⟩
  · omega
  · injection he with _ _ he3
    omega
section
variable {w : World} {l : Loc} {S : Led}
/-- A ledger of its own, of the first posts, made since w. -/
def AsPost (S : Led) (n : Int) (w : World) (e : Ending) (w' : World) : Prop := ∃ l' A0, e = .returned (.pointer (some ⟨l'.lb, 0, none⟩)) ∧ A0.Perm S.A ∧ Lives w w' l' (asM A0 (S.P.take (within n S.P.length)))
set_option maxHeartbeats 8000000 in
set_option maxRecDepth 100000 in
theorem as_any (h : LAt w l S) (G : Good S) (B : Books S) (hl : S.P.length ≤ 1000) (n : Int) : Calls Try.prog 26 #[.pointer (some ⟨l.lb, 0, none⟩), .int .i64 n] w (AsPost S n w) := by
  obtain ⟨c0, c1, c2, c3⟩ := h.c
  have hN := Lib.hid (fun s W => new_any s W)
  go_enter Try.func26, Try.ntmps26
  go_wp2_with (first
    | (go_at_call 28; refine (hN.out _ _).mono ?_; rintro e w1 ⟨rfl, hL1, ho1⟩; have c1' : w1.cell? ⟨l.lb, 1, none⟩ = some (.map (some l.ab)) := ho1.keeps c1 not_false)
    | (at_range; refine wpList_range_map rfl _ 72 70 rfl Try.underlying72 l.ab S.A (h.accts.only ho1 not_false) rfl ?_; intro w2 hIt0 ho2 hs2))
  have hlv : Lives w w2 ⟨w.heap.size + 2, w.heap.size, w.heap.size + 1, l.own, .slice none 0 0⟩ ⟨[], [], []⟩ := Lives.quiet ⟨hL1, ho1, fun i hi => by rcases hi with rfl | rfl | rfl | hi <;> first | (simp; done) | cases hi⟩ ho2
  have hFl : ∀ i, Loc.F ⟨w.heap.size + 2, w.heap.size, w.heap.size + 1, l.own, .slice none 0 0⟩ i → i < w1.heap.size := fun i hi => hL1.F_lt hi
  have hnew : ∀ i, Loc.F ⟨w.heap.size + 2, w.heap.size, w.heap.size + 1, l.own, .slice none 0 0⟩ i → w.heap.size ≤ i := hlv.new
  have hlx : Hid ((⟨w.heap.size + 2, w.heap.size, w.heap.size + 1, l.own, .slice none 0 0⟩ : Loc).pv = .slice none 0 0) := Lib.hid rfl
  generalize hLo : (⟨w.heap.size + 2, w.heap.size, w.heap.size + 1, l.own, .slice none 0 0⟩ : Loc) = lo at hlv hFl hnew hlx
  have hlb : w.heap.size + 2 = lo.lb := by rw [← hLo]
  simp only [hlb]
  clear hLo hlb hs2 hL1
  have habl := h.accts.lt
  go_frame
  go_loopg [6, 7] (S.A.length) (fun g v6 v7 wr => ∃ done, IterAt ePair eAcct wr l.ab w1.heap.size S.A done ∧ done.length + g = S.A.length ∧ Lives w wr lo ⟨atM done (fun _ => 0), [], []⟩)
  case atStart => exact ⟨[], hIt0, by simp, hlv⟩
  case round =>
    clear hIt0 hlv ho2
    obtain ⟨done, hIt, hg, hlv⟩ := hrel
    have hgd := Lib.hid hg
    clear hg
    go_wp2_with (first | (at_next; refine wpList_next_map rfl _ rfl kOps l.ab w1.heap.size S.A done hIt rfl ?_ ?_))
    · intro hperm
      have hPm := Lib.hid hperm
      clear hperm hIt hgd
      obtain ⟨d0, d1, d2, d3⟩ := hlv.at_.c
      have e2 : wr.cell? ⟨l.lb, 2, none⟩ = some l.pv := hlv.only.keeps c2 not_false
      obtain ⟨pA, pc, hpv⟩ : ∃ A c, l.pv = .slice A S.P.length c := by obtain ⟨_, _, h2, _⟩ := h.posts; exact own_sl h2
      have hpc : S.P.length ≤ pc := by obtain ⟨_, _, h2, _⟩ := h.posts; rw [hpv] at h2; exact own_cap h2
      rw [hpv] at e2
      have hPA := h.posts
      rw [hpv] at hPA
      have od := (Only.refl (fun _ => False) wr).drew
      have q2 : ∀ V, Only (fun _ => False) wr.drew V → V.cell? ⟨l.lb, 2, none⟩ = some (.slice pA S.P.length pc) := fun V hV => (od.andThen hV).keeps e2 not_false
      have hkP := within_le n S.P.length
      have hO := Lib.hid (fun W (hW : Only (fun _ => False) w W) => own_any ((show PostsAt w _ _ from hPA.prefix_ (n := within n S.P.length) hkP).only hW (fun _ _ => id) (fun _ _ _ h => h.elim)) (by rw [List.length_take]; omega) (fun p hp => by have := B.len p (List.mem_of_mem_take hp); omega))
      have hmm : min (max n 0) (S.P.length : Int) = ((within n S.P.length : Nat) : Int) := by unfold within; omega
      have hkc : within n S.P.length ≤ pc := Nat.le_trans hkP hpc
      have hK : Hid (within n S.P.length ≤ S.P.length) := Lib.hid hkP
      generalize hkk : within n S.P.length = k at *
      have hKK := Lib.hid hkk
      clear hPA hpv hkk
      go_wp2
      refine wp_region_ord (.read 0 (.read 1 (.read 2 (.read 3 (.read 4 (.read 5 (.read 6 (.read 7 (.read 8 (.read 9 (.read 10 (.read 11 (.read 12 (.read 13 (.turn 14 (.read 15 (.read 16 (.last 17)))))))))))))))))) (Only (fun _ => False) _) (by kernel_rfl) (by kernel_rfl) (by kernel_rfl) (by first | exact Only.refl _ _ | assumption) ?_
      refine wpOrd_reads (v := ?_) rfl rfl (fun _ _ _ h => h) ?_ ?_
      rotate_left
      · intro W hW; go_simp; try with_reducible rfl
      go_frame
      refine wpOrd_reads (v := ?_) rfl rfl (fun _ _ _ h => h) ?_ ?_
      rotate_left
      · intro W hW; go_simp; try with_reducible rfl
      go_frame
      refine wpOrd_reads (v := ?_) rfl rfl (fun _ _ _ h => h) ?_ ?_
      rotate_left
      · intro W hW; go_simp; try with_reducible rfl
      go_frame
      refine wpOrd_reads (v := ?_) rfl rfl (fun _ _ _ h => h) ?_ ?_
      rotate_left
      · intro W hW; go_simp; try with_reducible rfl
      go_frame
      refine wpOrd_reads (v := ?_) rfl rfl (fun _ _ _ h => h) ?_ ?_
      rotate_left
      · intro W hW; go_simp; try with_reducible rfl
      go_frame
      refine wpOrd_reads (v := ?_) rfl rfl (fun _ _ _ h => h) ?_ ?_
      rotate_left
      · intro W hW; go_simp; try with_reducible rfl
      go_frame
      refine wpOrd_reads (v := ?_) rfl rfl (fun _ _ _ h => h) ?_ ?_
      rotate_left
      · intro W hW; go_simp; try with_reducible rfl
      go_frame
      refine wpOrd_reads (v := ?_) rfl rfl (fun _ _ _ h => h) ?_ ?_
      rotate_left
      · intro W hW; go_simp; try with_reducible rfl
      go_frame
      refine wpOrd_reads (v := ?_) rfl rfl (fun _ _ _ h => h) ?_ ?_
      rotate_left
      · intro W hW; go_simp; try with_reducible rfl
      go_frame
      refine wpOrd_reads (v := ?_) rfl rfl (fun _ _ _ h => h) ?_ ?_
      rotate_left
      · intro W hW; go_simp; try with_reducible rfl
      go_frame
      refine wpOrd_reads (v := ?_) rfl rfl (fun _ _ _ h => h) ?_ ?_
      rotate_left
      · intro W hW; go_simp; try with_reducible rfl
      go_frame
      refine wpOrd_reads (v := ?_) rfl rfl (fun _ _ _ h => h) ?_ ?_
      rotate_left
      · intro W hW; go_simp; try with_reducible rfl
      go_frame
      refine wpOrd_reads (v := ?_) rfl rfl (fun _ _ _ h => h) ?_ ?_
      rotate_left
      · intro W hW; go_simp; try with_reducible rfl
      go_frame
      refine wpOrd_reads (v := ?_) rfl rfl (fun _ _ _ h => h) ?_ ?_
      rotate_left
      · intro W hW; go_simp; try with_reducible rfl
      go_frame
      refine wpOrd_turns rfl ?_
      go_wp2_with (go_at_call 38; have hc := hO.out wr.drew (hlv.only.drew); refine hc.mono ?_; clear hc; rintro e w4 ⟨pv, rfl, hn4, ho4⟩; obtain ⟨vA, vc, rfl⟩ : ∃ A c, pv = .slice A (S.P.take k).length c := by obtain ⟨_, _, h2, _⟩ := hn4; exact own_sl h2)
      refine ⟨ho4, ?_⟩
      refine wpOrd_reads (v := ?_) rfl rfl (fun _ _ _ h => h) ?_ ?_
      rotate_left
      · intro W hW; go_simp; try with_reducible rfl
      go_frame
      refine wpOrd_reads (v := ?_) rfl rfl (fun _ _ _ h => h) ?_ ?_
      rotate_left
      · intro W hW; go_simp; try with_reducible rfl
      go_frame
      refine wpOrd_lasts rfl ?_
      have hlv4 := (hlv.quiet od).quiet ho4
      have f2 : w4.cell? ⟨lo.lb, 2, none⟩ = some lo.pv := hlv4.at_.c.2.2.1
      have fr2 : w4.frozen? ⟨lo.lb, 2, none⟩ = false := by simp [World.frozen?, hlv4.at_.cell]
      go_wp2
      refine ⟨trivial, ?_⟩
      have hlv3 := hlv.quiet od
      have hlb : w.heap.size ≤ lo.lb := hnew _ (.inl rfl)
      have hlv5 : Lives w (w4.setCell ⟨lo.lb, 2, none⟩ (.slice vA (S.P.take k).length vc)) { lo with pv := .slice vA (S.P.take k).length vc } ⟨atM done (fun _ => 0), S.P.take k, []⟩ := by
        have hge : ∀ b, (Value.slice vA (S.P.take k).length vc).ownBlock = some b → wr.drew.heap.size ≤ b := fun b hb => by
          obtain ⟨_, _, hr, _⟩ := hn4
          obtain ⟨_, _, hge⟩ := ownsRow_block hr hb
          exact hge
        refine ⟨hlv3.at_.putP (ho4.mono fun _ _ h => h.elim) hn4.at_ (.inr hge), (hlv3.only.andThen ho4).setCell (fun h => by simp only at h; omega) _, fun i hi => ?_⟩
        rcases hi with rfl | rfl | rfl | hi
        · exact hlb
        · exact hnew _ (.inr (.inl rfl))
        · exact hnew _ (.inr (.inr (.inl rfl)))
        · exact Nat.le_trans hlv3.only.size (hge i hi)
      have hBk : Hid (∀ p ∈ S.P.take k, (p.ents.length ≤ 64 ∧ ∀ e ∈ p.ents, -1099511627776 ≤ e.amt ∧ e.amt ≤ 1099511627776) ∧ ∀ e ∈ p.ents, e.key ∈ akeys done) := Lib.hid fun p hp => by
        have hp' := List.mem_of_mem_take hp
        exact ⟨⟨B.len p hp', fun e he => (B.keys p hp' e he).2⟩, fun e he => (hPm.out.map _).mem_iff.2 (B.keys p hp' e he).1⟩
      have hND : Hid ((akeys done).Nodup) := Lib.hid ((hPm.out.map _).nodup_iff.2 G.nodA)
      have hlk : (S.P.take k).length = k := by rw [List.length_take]; have := hK.out; omega
      have hLK := Lib.hid hlk
      have hkl : k ≤ 1000 := by have := hK.out; omega
      rw [hlk] at hlv5
      have h00 : Hid (atM done (fun _ => 0) = atM done (postSum ((S.P.take k).take 0))) := Lib.hid (congrArg (atM done) (funext fun _ => by simp [postSum]))
      rw [h00.out] at hlv5
      generalize hTk0 : S.P.take k = P' at *
      have hTk := Lib.hid hTk0
      clear hTk0
      generalize hw5 : w4.setCell ⟨lo.lb, 2, none⟩ (.slice vA k vc) = w5 at hlv5
      have e52 : w5.cell? ⟨lo.lb, 2, none⟩ = some (.slice vA k vc) := hlv5.at_.c.2.2.1
      clear hlv hlv3 hlv4 f2 fr2 hn4 hlk d0 d1 d2 d3 ho4 hO
      go_wp2
      clear hw5 e52
      go_loopg [56] (k) (fun g v56 wr => ∃ j : Nat, v56 = .int .i64 (j : Int) ∧ j + g = k ∧ Lives w wr { lo with pv := .slice vA k vc } ⟨atM done (postSum (P'.take j)), P', []⟩)
      case atStart => exact ⟨0, rfl, by omega, hlv5⟩
      case round =>
        clear hlv5
        obtain ⟨j, rfl, hg, hlv⟩ := hrel
        by_cases hj : j < k
        · obtain ⟨p, hp⟩ : ∃ p, P'[j]? = some p := ⟨P'[j]'(by rw [hLK.out]; exact hj), List.getElem?_eq_getElem _⟩
          have hpo := hlv.at_.posts
          simp only at hpo
          rw [← hLK.out] at hpo
          obtain ⟨pb, ev, rfl, g0, g1, g2, hrow⟩ := hpo.row hp
          have hb0 := hBk.out p (List.mem_of_getElem? hp)
          have hpl := hb0.1.1
          have hsn := Lib.hid (take_snoc hp)
          obtain ⟨pn, pt, pe⟩ := p
          simp only at g0 g1 g2 hrow hpl hb0
          have hB0 := Lib.hid hb0
          have hRow := Lib.hid hrow
          obtain ⟨eA, ec, rfl⟩ := own_sl hrow
          clear hpo hp hb0 hrow
          go_wp2
          generalize hw6 : wr.alloc _ = w6
          have ho6 : Only (fun _ => False) wr w6 := hw6 ▸ (Only.refl _ wr).alloc _
          have hlv6 := hlv.quiet ho6
          have hRow6 := Lib.hid (ownsRow_only hRow.out ho6 fun _ _ => id)
          have hf0 : Hid (atM done (postSum (P'.take j)) = atM done (fun q => postSum (P'.take j) q + entSum (pe.take 0) q)) := Lib.hid (congrArg (atM done) (funext fun _ => by simp [entSum]))
          rw [hf0.out] at hlv6
          clear hw6 ho6 hRow hlv
          go_loopg [63] (pe.length) (fun g v63 wr => ∃ m : Nat, v63 = .int .i64 (m : Int) ∧ m + g = pe.length ∧ wr.ownsRow 0 44 3 (.slice eA pe.length ec) pe.length (entCells pe) ∧ Lives w wr { lo with pv := .slice (some ⟨pb, 0, none⟩) k vc } ⟨atM done (fun q => postSum (P'.take j) q + entSum (pe.take m) q), P', []⟩)
          case atStart => exact ⟨0, rfl, by omega, hRow6.out, hlv6⟩
          case round =>
            clear hlv6 hRow6 g0 g1 g2
            obtain ⟨m, rfl, hg3, hrow, hlv⟩ := hrel
            by_cases hm : m < pe.length
            · obtain ⟨e, he⟩ : ∃ e, pe[m]? = some e := ⟨pe[m], List.getElem?_eq_getElem hm⟩
              obtain ⟨A', c', hA', hr⟩ := (ReadsEnts.of_own hrow).cells
              injection hA' with hA1 hA2 hA3
              subst hA1 hA3
              obtain ⟨eb, eo, rfl, f0, f1, f2⟩ := hr m e he
              have hkA := hB0.out.2 e (List.mem_of_getElem? he)
              have hea := hB0.out.1.2 e (List.mem_of_getElem? he)
              have hpb := postSum_bound (P := P'.take j) (fun p hp => (hBk.out p (List.mem_of_mem_take hp)).1) e.key
              have hjl : (P'.take j).length ≤ 1000 := by rw [List.length_take]; omega
              have heb := entSum_bound (x := pe.take m) (fun q hq => hB0.out.1.2 q (List.mem_of_mem_take hq)) e.key
              have hml : (pe.take m).length ≤ 64 := by rw [List.length_take]; omega
              have hstep := Lib.hid (atM_put hND.out (f := fun q => postSum (P'.take j) q + entSum (pe.take m) q) hkA (postSum (P'.take j) e.key + entSum (pe.take m) e.key + e.amt))
              have hfun : Hid ((fun q => if e.key = q then postSum (P'.take j) e.key + entSum (pe.take m) e.key + e.amt else postSum (P'.take j) q + entSum (pe.take m) q) = fun q => postSum (P'.take j) q + entSum (pe.take (m + 1)) q) := Lib.hid (funext fun q => by
                rw [take_snoc he, entSum_snoc]
                by_cases hq : e.key = q
                · subst hq; simp; omega
                · rw [if_neg hq, if_neg hq]; omega)
              have hac := acct_at (f := fun q => postSum (P'.take j) q + entSum (pe.take m) q) hkA
              have hlk : ∀ W, Only (fun _ => False) wr W → (Instr.lookup 72 (.map (some lo.ab)) (.agg #[.string e.acct, .string e.cur]) false).run Try.prog W = .ok (eAcct (acctOr (atM done fun q => postSum (P'.take j) q + entSum (pe.take m) q) e.key)) W := fun W hW => by
                have := look_acct (hlv.at_.accts.only hW not_false) e.acct e.cur false
                exact this
              have hMA := Lib.hid hlv.at_.accts
              generalize acctOr (atM done fun q => postSum (P'.take j) q + entSum (pe.take m) q) e.key = r at hac hlk hstep
              obtain ⟨rf, rb, rh⟩ := r
              simp only at hac hstep
              obtain ⟨hrb, rfl⟩ := hac
              have hrb1 : -5000000000000000000 ≤ rb := by omega
              have hrb2 : rb ≤ 5000000000000000000 := by omega
              have hRB := Lib.hid hrb
              clear hrb hpb heb hjl hml
              obtain ⟨ea, ec', en⟩ := e
              simp only at f0 f1 f2 hea hlk
              obtain ⟨hea1, hea2⟩ := hea
              have hHe := Lib.hid he
              have hROW := Lib.hid hrow
              have hLV := Lib.hid hlv
              obtain ⟨d0, d1, d2, d3⟩ := hlv.at_.c
              simp only at d0 d1 d2 d3
              simp only [eAcct] at hlk
              have hlbw : lo.lb < wr.heap.size := hlv.at_.lt
              have habw : lo.ab < wr.heap.size := hlv.at_.accts.lt
              have hnab : lo.lb ≠ lo.ab := hlv.at_.ne_ab
              clear hr he hA2 hrow hlv hkA
              go_wp2
              generalize hw7 : (wr.alloc (Obj.cells #[Value.string ea, Value.string ec', Value.int IntKind.i64 en] 44)).alloc (Obj.cells #[Value.string ea, Value.string ec'] 68) = w7
              have ho7 : Only (fun _ => False) wr w7 := hw7 ▸ ((Only.refl _ wr).alloc _).alloc _
              have od7 := ho7.drew
              have p0 : ∀ V, Only (fun _ => False) w7.drew V → V.cell? ⟨lo.lb, 1, none⟩ = some (.map (some lo.ab)) := fun V hV => (od7.andThen hV).keeps d1 not_false
              have p1 : ∀ V, Only (fun _ => False) w7.drew V → V.cell? ⟨wr.heap.size + 1, 0, none⟩ = some (.string ea) := fun V hV => hV.keeps (by subst hw7; go_simp) not_false
              have p2 : ∀ V, Only (fun _ => False) w7.drew V → V.cell? ⟨wr.heap.size + 1, 1, none⟩ = some (.string ec') := fun V hV => hV.keeps (by subst hw7; go_simp) not_false
              have p3 : w7.cell? ⟨wr.heap.size, 2, none⟩ = some (.int .i64 en) := by subst hw7; go_simp
              have hz7 : w7.heap.size = wr.heap.size + 2 := by subst hw7; simp
              have hlk7 : ∀ V, Only (fun _ => False) w7.drew V → (Instr.lookup 72 (.map (some lo.ab)) (.agg #[.string ea, .string ec']) false).run Try.prog V = .ok (.agg #[.int .i64 rf, .int .i64 rb, .int .i64 0]) V := fun V hV => hlk V (od7.andThen hV)
              have hZ7 := Lib.hid hz7
              have hz7' : wr.heap.size + 1 < w7.heap.size := by omega
              have hz7'' : wr.heap.size < w7.heap.size := by omega
              clear hw7 hlk hz7
              refine wp_region_ord (.read 0 (.read 1 (.read 2 (.read 3 (.read 4 (.read 5 (.turn 6 (.turn 7 .stop)))))))) (Only (fun _ => False) _) (by kernel_rfl) (by kernel_rfl) (by kernel_rfl) (by first | exact Only.refl _ _ | assumption) ?_
              refine wpOrd_reads (v := ?_) rfl rfl (fun _ _ _ h => h) ?_ ?_
              rotate_left
              · intro W hW; go_simp; try with_reducible rfl
              go_frame
              refine wpOrd_reads (v := ?_) rfl rfl (fun _ _ _ h => h) ?_ ?_
              rotate_left
              · intro W hW; go_simp; try with_reducible rfl
              go_frame
              refine wpOrd_reads (v := ?_) rfl rfl (fun _ _ _ h => h) ?_ ?_
              rotate_left
              · intro W hW; go_simp; try with_reducible rfl
              go_frame
              refine wpOrd_reads (v := ?_) rfl rfl (fun _ _ _ h => h) ?_ ?_
              rotate_left
              · intro W hW; go_simp; try with_reducible rfl
              go_frame
              refine wpOrd_reads (v := ?_) rfl rfl (fun _ _ _ h => h) ?_ ?_
              rotate_left
              · intro W hW; go_simp; try with_reducible rfl
              go_frame
              refine wpOrd_reads (v := ?_) rfl rfl (fun _ _ _ h => h) ?_ ?_
              rotate_left
              · intro W hW; go_simp; try with_reducible rfl
              go_frame
              refine wpOrd_turns rfl ?_
              go_wp2
              refine ⟨(Only.refl _ _).alloc _, ?_⟩
              refine wpOrd_turns rfl ?_
              go_wp2
              refine ⟨(Only.refl _ _).alloc _, ?_⟩
              refine wpOrd_nil ?_
              go_wp2
              generalize hw8 : (w7.alloc (Obj.cells #[Value.int IntKind.i64 rf, Value.int IntKind.i64 (rb + en), Value.int IntKind.i64 0] 70)).drew = w8
              have ho8 : Only (fun _ => False) w7 w8 := hw8 ▸ ((Only.refl (fun _ => False) w7).alloc _).drew
              have k0 : w8.cell? ⟨lo.lb, 1, none⟩ = some (.map (some lo.ab)) := ho8.keeps (ho7.keeps d1 not_false) not_false
              have k1 : w8.cell? ⟨wr.heap.size + 1, 0, none⟩ = some (.string ea) := by have := p1 _ (Only.refl _ _); exact ho8.keeps (show w7.cell? _ = _ from this) not_false
              have k2 : w8.cell? ⟨wr.heap.size + 1, 1, none⟩ = some (.string ec') := by have := p2 _ (Only.refl _ _); exact ho8.keeps (show w7.cell? _ = _ from this) not_false
              have k3 : w8.cell? ⟨w7.heap.size, 0, none⟩ = some (.int .i64 rf) := by subst hw8; go_simp
              have k4 : w8.cell? ⟨w7.heap.size, 1, none⟩ = some (.int .i64 (rb + en)) := by subst hw8; go_simp
              have k5 : w8.cell? ⟨w7.heap.size, 2, none⟩ = some (.int .i64 0) := by subst hw8; go_simp
              have hlv8 := (hLV.out.quiet ho7).quiet ho8
              clear hw8 p0 p1 p2 p3 hlk7 d0 d1 d2 d3
              have q0 : ∀ V, Only (fun i => i = lo.ab) w8.drew V → V.cell? ⟨lo.lb, 1, none⟩ = some (.map (some lo.ab)) := fun V hV => hV.keeps k0 hnab
              have q1 : ∀ V, Only (fun i => i = lo.ab) w8.drew V → V.cell? ⟨wr.heap.size + 1, 0, none⟩ = some (.string ea) := fun V hV => hV.keeps k1 (fun e => by simp only at e; omega)
              have q2 : ∀ V, Only (fun i => i = lo.ab) w8.drew V → V.cell? ⟨wr.heap.size + 1, 1, none⟩ = some (.string ec') := fun V hV => hV.keeps k2 (fun e => by simp only at e; omega)
              have q3 : ∀ V, Only (fun i => i = lo.ab) w8.drew V → V.cell? ⟨w7.heap.size, 0, none⟩ = some (.int .i64 rf) := fun V hV => hV.keeps k3 (fun e => by simp only at e; omega)
              have q4 : ∀ V, Only (fun i => i = lo.ab) w8.drew V → V.cell? ⟨w7.heap.size, 1, none⟩ = some (.int .i64 (rb + en)) := fun V hV => hV.keeps k4 (fun e => by simp only at e; omega)
              have q5 : ∀ V, Only (fun i => i = lo.ab) w8.drew V → V.cell? ⟨w7.heap.size, 2, none⟩ = some (.int .i64 0) := fun V hV => hV.keeps k5 (fun e => by simp only at e; omega)
              clear k0 k1 k2 k3 k4 k5
              refine wp_region_ord (.read 0 (.read 1 (.read 2 (.read 3 (.read 4 (.read 5 (.turn 6 .stop))))))) (Only (fun i => i = lo.ab) _) (by kernel_rfl) (by kernel_rfl) (by kernel_rfl) (by first | exact Only.refl _ _ | assumption) ?_
              refine wpOrd_reads (v := ?_) rfl rfl (fun _ _ _ h => h) ?_ ?_
              rotate_left
              · intro W hW; go_simp; try with_reducible rfl
              go_frame
              refine wpOrd_reads (v := ?_) rfl rfl (fun _ _ _ h => h) ?_ ?_
              rotate_left
              · intro W hW; go_simp; try with_reducible rfl
              go_frame
              refine wpOrd_reads (v := ?_) rfl rfl (fun _ _ _ h => h) ?_ ?_
              rotate_left
              · intro W hW; go_simp; try with_reducible rfl
              go_frame
              refine wpOrd_reads (v := ?_) rfl rfl (fun _ _ _ h => h) ?_ ?_
              rotate_left
              · intro W hW; go_simp; try with_reducible rfl
              go_frame
              refine wpOrd_reads (v := ?_) rfl rfl (fun _ _ _ h => h) ?_ ?_
              rotate_left
              · intro W hW; go_simp; try with_reducible rfl
              go_frame
              refine wpOrd_reads (v := ?_) rfl rfl (fun _ _ _ h => h) ?_ ?_
              rotate_left
              · intro W hW; go_simp; try with_reducible rfl
              go_frame
              refine wpOrd_turns rfl ?_
              refine wpList_store_map rfl _ _ _ 72 70 rfl kOps Try.underlying72 lo.ab (atM done fun q => postSum (P'.take j) q + entSum (pe.take m) q) ((hlv8.quiet (Only.refl _ _).drew).at_.accts) rfl (ea, ec') ⟨rf, rb + en, 0⟩ rfl rfl ?_
              intro w9 hM9 ho9 hs9
              refine wpList_nil ⟨ho9, ?_⟩
              refine wpOrd_nil ?_
              clear hs9
              go_wp2
              go_roundg (pe.length - (m + 1))
              case measure => omega
              case rel =>
                refine ⟨m + 1, by simp, by omega, ?_, ?_⟩
                · refine ownsRow_only (ownsRow_only hROW.out (ho7.andThen ho8).drew fun _ _ => id) ho9 fun b hb e => ?_
                  obtain ⟨cc, hcc, _⟩ := ownsRow_block (ownsRow_only hROW.out (ho7.andThen ho8).drew fun _ _ => id) hb
                  obtain ⟨es, clock, hmm', _⟩ := (hlv8.quiet (Only.refl _ _).drew).at_.accts
                  subst e
                  simp only at hmm'
                  rw [hcc] at hmm'
                  cases hmm'
                · have h9 := (hlv8.quiet (Only.refl _ _).drew).at_.putA ho9 hM9
                  have hq : aput (atM done fun q => postSum (P'.take j) q + entSum (pe.take m) q) (ea, ec') ⟨rf, rb + en, 0⟩ = atM done fun q => postSum (P'.take j) q + entSum (pe.take (m + 1)) q := by
                    rw [← hfun.out, ← hstep.out, hRB.out]
                    rfl
                  simp only [hq] at h9
                  exact (hlv8.quiet (Only.refl _ _).drew).step h9 ho9 fun i hi => .inr (.inl hi)
            · have hme : m = pe.length := by omega
              subst hme
              have hfe : (fun q => postSum (P'.take j) q + entSum (pe.take pe.length) q) = postSum (P'.take (j + 1)) := funext fun q => by
                rw [hsn.out, postSum_app, postSum_one, List.take_length]
              rw [hfe] at hlv
              clear hfe hm
              go_wp2
              go_roundg (k - (j + 1))
              case measure => omega
              case rel => exact ⟨j + 1, by simp, by omega, hlv⟩
        · have hje : j = k := by omega
          subst hje
          have htk : P'.take j = P' := List.take_of_length_le (by rw [hLK.out]; exact Nat.le_refl _)
          rw [htk] at hlv
          clear htk hj
          go_wp2
          go_ret
          refine ⟨{ lo with pv := .slice vA j vc }, done, rfl, hPm.out, ?_⟩
          rw [hKK.out, hTk.out]
          exact hlv
    · intro k1 k2 a w3 hin hnot hIt1 ho3 hs3 hen
      have hle := hIt1.length_le
      obtain ⟨af, ab, ah⟩ := a
      simp only [ePair, eAcct] at hen ⊢
      have hlv3 : Lives w w3 lo ⟨atM done (fun _ => 0), [], []⟩ := ⟨hlv.at_.only ho3 (fun i hi e => by have := hFl i hi; omega) (fun b c fr hb hc => by subst hb; obtain ⟨m, s, c', d, hr⟩ := hIt.iter; rw [hr] at hc; cases hc), hlv.only.trans ho3 fun i hi e => by have := ho1.size; omega, hlv.new⟩
      have hput : Hid (aput (atM done (fun _ => 0)) (k1, k2) ⟨af, 0, 0⟩ = atM (done ++ [((k1, k2), ⟨af, ab, ah⟩)]) (fun _ => 0)) := Lib.hid (by
        rw [atM_snoc, aput_new (aget_none.2 (by rw [akeys_at]; exact hnot))])
      have hC := Lib.hid (fun W (hW : Only (fun _ => False) w3 W) => put_any (hlv3.quiet hW).at_ k1 k2 af)
      clear hin hnot hs3 hlv hIt
      go_wp2_with (go_at_call 35; have hq := ((Only.refl (fun _ => False) w3).alloc (.cells #[.string k1, .string k2] 68)).alloc (.cells #[.int .i64 af, .int .i64 ab, .int .i64 ah] 70); have hc := hC.out _ hq; refine hc.mono ?_; clear hc; rintro e w4 ⟨rfl, hL4, ho4⟩)
      go_roundg (S.A.length - (done.length + 1))
      case measure => have := hgd.out; simp only [List.length_append, List.length_cons, List.length_nil] at hle; omega
      case rel =>
        refine ⟨done ++ [((k1, k2), ⟨af, ab, ah⟩)], (hIt1.only hq not_false not_false).only ho4 (fun e => by have := hnew lo.ab (.inr (.inl rfl)); omega) (fun e => by have := hFl lo.ab (.inr (.inl rfl)); omega), by simp only [List.length_append, List.length_cons, List.length_nil] at hle ⊢; omega, ?_⟩
        have := (hlv3.quiet hq).step hL4 ho4 fun i hi => .inr (.inl hi)
        simp only [hput.out] at this
        exact this
end
end Go.Proofs.Ytoeokakcdfdjkaa
