/- WALKS: LedgerSums. -/
import Derived.Test.YtoeokakcdfdjkaaWp
import Derived.Test.YtoeokakcdfdjkaaBk
namespace Go.Proofs.Ytoeokakcdfdjkaa
open Go.RowKit Go.Shelf
theorem postCells_at3 {P : List PostM} {vs : List Value} (h : vs.length = P.length) {i : Nat} {p : PostM} {v : Value} (hp : P[i]? = some p) (hv : vs[i]? = some v) : (postCells P vs)[3 * i]? = some (.int .i64 p.num) ∧ (postCells P vs)[3 * i + 1]? = some (.string p.text) ∧ (postCells P vs)[3 * i + 2]? = some v := by
  induction P generalizing vs i with
  | nil => simp at hp
  | cons q r ih =>
    cases vs with
    | nil => simp at h
    | cons u us =>
      simp only [List.length_cons, Nat.add_right_cancel_iff] at h
      cases i with
      | zero => simp at hp hv; subst hp; subst hv; simp [postCells]
      | succ i =>
        have := ih h (i := i) (by simpa using hp) (by simpa using hv)
        have e1 : 3 * (i + 1) = 3 * i + 3 := by omega
        rw [e1]
        simpa [postCells] using this
theorem PostsNew.quiet {w w' : World} {base : Nat} {pv : Value} {P : List PostM} (h : PostsNew w base pv P) (ho : Only (fun _ => False) w w') : PostsNew w' base pv P := by
  obtain ⟨evs, h1, h2, h3⟩ := h
  exact ⟨evs, h1, ownsRow_only h2 ho fun _ _ => id, fun j p v hj hv => ownsRow_only (h3 j p v hj hv) ho fun _ _ => id⟩
/-- The posts that a slice reads as: where each lies. -/
theorem PostsNew.cells {w : World} {base : Nat} {pv : Value} {P : List PostM} (h : PostsNew w base pv P) : ∃ A c, pv = .slice A P.length c ∧ ∀ i p, P[i]? = some p → ∃ b v, A = some ⟨b, 0, none⟩ ∧
    w.cell? ⟨b, i * 3, none⟩ = some (.int .i64 p.num) ∧ w.cell? ⟨b, i * 3 + 1, none⟩ = some (.string p.text) ∧ w.cell? ⟨b, i * 3 + 2, none⟩ = some v ∧ ReadsEnts w v p.ents := by
  obtain ⟨evs, hel, hrow, hents⟩ := h
  obtain ⟨A, c, rfl⟩ := own_sl hrow
  refine ⟨A, c, rfl, fun i p hp => ?_⟩
  have hlt : i < P.length := (List.getElem?_eq_some_iff.1 hp).1
  obtain ⟨u, hu⟩ : ∃ u, evs[i]? = some u := ⟨evs[i]'(by omega), List.getElem?_eq_getElem (by omega)⟩
  obtain ⟨B, hB⟩ : ∃ B, P.length = B + 1 := ⟨P.length - 1, by omega⟩
  have hrow' := hrow
  rw [hB] at hrow'
  obtain ⟨g, c', he, hcell⟩ := own_first hrow'
  rw [← hB] at he
  injection he with he1 _ he2
  subst he1
  obtain ⟨k0, k1, k2⟩ := postCells_at3 hel hp hu
  have e1 : i * 3 = 3 * i := by omega
  rw [e1]
  exact ⟨g, u, rfl, hcell _ _ k0, hcell _ _ k1, hcell _ _ k2, ReadsEnts.of_own (hents i p u hp hu)⟩
theorem doM_A {S : Led} (x : ActM) : (doM S x).1.A.length ≤ S.A.length + 1 := by
  have hk : ∀ (A : List (Key × Acct)) k m, (keepL A k m).length ≤ A.length + 1 := fun A k m => length_put_le _ _ _
  have ha : ∀ (A : List (Key × Acct)) D, (addAll A D).length = A.length := fun A D => by simp [addAll]
  unfold doM
  split
  · unfold openM
    split
    · simp
    · split
      · simp
      · split
        · simp
        · split
          · simp
          · exact length_put_le _ _ _
  · split
    · unfold postM
      split
      · simp
      · split
        · simp
        · split
          · simp
          · show (addAll S.A _).length ≤ _
            rw [ha]; omega
    · split
      · unfold holdM
        split
        · simp
        · split
          · simp
          · split
            · simp
            · split
              · simp
              · split
                · simp
                · split
                  · simp
                  · exact hk _ _ _
      · split
        · unfold takeM
          simp only
          split
          · simp
          · split
            · simp
            · split
              · simp
              · split
                · simp
                · split
                  · simp
                  · show (addAll (keepL S.A _ _) _).length ≤ _
                    rw [ha]; exact hk _ _ _
        · unfold letM
          split
          · exact hk _ _ _
          · simp
theorem playM_A (xs : List ActM) : (playM xs).A.length ≤ xs.length := by
  unfold playM
  suffices H : ∀ (xs : List ActM) (S : Led), (xs.foldl (fun S x => (doM S x).1) S).A.length ≤ S.A.length + xs.length by
    have := H xs ⟨[], [], []⟩
    simpa using this
  intro xs
  induction xs with
  | nil => simp
  | cons x r ih =>
    intro S
    have h1 := ih (doM S x).1
    have h2 := doM_A (S := S) x
    simp only [List.foldl_cons, List.length_cons]
    omega
theorem entSum_bound {x : List Ent} (h : ∀ e ∈ x, -1099511627776 ≤ e.amt ∧ e.amt ≤ 1099511627776) (k : Key) : -((x.length : Int) * 1099511627776) ≤ entSum x k ∧ entSum x k ≤ (x.length : Int) * 1099511627776 := by
  induction x with
  | nil => simp [entSum]
  | cons e r ih =>
    have h1 := ih fun e' h' => h e' (by simp [h'])
    have h2 := h e (by simp)
    rw [entSum_cons]
    simp only [List.length_cons]
    split <;> omega
theorem postSum_bound {P : List PostM} (h : ∀ p ∈ P, p.ents.length ≤ 64 ∧ ∀ e ∈ p.ents, -1099511627776 ≤ e.amt ∧ e.amt ≤ 1099511627776) (k : Key) : -((P.length : Int) * 70368744177664) ≤ postSum P k ∧ postSum P k ≤ (P.length : Int) * 70368744177664 := by
  induction P with
  | nil => simp [postSum]
  | cons p r ih =>
    have h1 := ih fun p' h' => h p' (by simp [h'])
    obtain ⟨h2, h3⟩ := h p (by simp)
    have h4 := entSum_bound h3 k
    rw [postSum_cons]
    simp only [List.length_cons]
    omega
theorem entSum_snoc (x : List Ent) (e : Ent) (k : Key) : entSum (x ++ [e]) k = entSum x k + if e.key = k then e.amt else 0 := by
  rw [entSum_app, entSum_cons]; simp [entSum]
theorem entSum_yes {x : List Ent} {e : Ent} {k1 k2 : ByteArray} (h1 : e.acct = k1) (h2 : e.cur = k2) : entSum (x ++ [e]) (k1, k2) = entSum x (k1, k2) + e.amt := by
  subst h1 h2
  rw [entSum_snoc, if_pos (show e.key = (e.acct, e.cur) from rfl)]
theorem entSum_no {x : List Ent} {e : Ent} {k1 k2 : ByteArray} (h : ¬ (e.acct = k1 ∧ e.cur = k2)) : entSum (x ++ [e]) (k1, k2) = entSum x (k1, k2) := by
  rw [entSum_snoc, if_neg (fun e' => h (by unfold Ent.key at e'; injection e' with e1 e2; exact ⟨e1, e2⟩))]; simp
def tN : ByteArray := ⟨#[110, 111, 110, 101]⟩
theorem bal_lim {S : Led} (G : Good S) (k : Key) : -1099511627776 ≤ (acctOr S.A k).bal ∧ (acctOr S.A k).bal ≤ 1099511627776 := by
  have := G.bounds k
  rw [maxA_eq] at this
  omega
theorem acct_lo {S : Led} (G : Good S) : ∀ p ∈ S.A, -1099511627776 ≤ p.2.bal ∧ p.2.bal ≤ 1099511627776 := fun p hp => by
  have := bal_lim G p.1
  rwa [acctOr_mem G hp] at this
theorem Lives.since {w0 w W : World} {l : Loc} {S : Led} (h : Lives w W l S) (ho : Only (fun _ => False) w0 w) : Lives w0 W l S := ⟨h.at_, ho.trans h.only fun _ _ h => h, fun i hi => Nat.le_trans ho.size (h.new i hi)⟩
section
variable {w : World}
set_option maxHeartbeats 8000000 in
set_option maxRecDepth 100000 in
theorem sums_law {v : Value} {xs : List ActM} (h : ReadsActs w w.heap.size v xs) (hl : xs.length ≤ 9223372036854775807) : Calls Try.prog 5 #[v] w (LawPost w) := by
  have hX := Lib.hid h
  obtain ⟨A, c, rfl, _⟩ := h
  have hA := Lib.hid (fun W => awake_any W)
  have hF := Lib.hid (fun W (ho : Only (fun _ => False) w W) => few_any (hX.out.later ho) hl)
  have hP := Lib.hid (fun W (ho : Only (fun _ => False) w W) (hf : fewB xs = true) => played_any (hX.out.later ho) hf)
  have G := Lib.hid (playM_good xs)
  have B := Lib.hid (playM_books xs)
  have hPl := Lib.hid (playM_P xs)
  have hAl := Lib.hid (playM_A xs)
  generalize hS0 : playM xs = S at *
  have hS := Lib.hid hS0
  clear hS0
  have hPo := Lib.hid (fun (W0 W : World) (l : Loc) (h : Lives W0 W l S) (hf : fewB xs = true) => posts_any h.at_ (by have := few_len hf; have := hPl.out; omega) (fun p hp => by have := B.out.len p hp; omega))
  have hAc := Lib.hid (fun (W0 W : World) (l : Loc) (h : Lives W0 W l S) (hf : fewB xs = true) => accounts_any h.at_ (by have := few_len hf; have := hAl.out; omega))
  have hFr := Lib.hid (fun (W0 W : World) (l : Loc) (h : Lives W0 W l S) k1 k2 => freeOf_any h.at_ G.out k1 k2)
  have hTo := Lib.hid (fun (W0 W : World) (l : Loc) (h : Lives W0 W l S) (hf : fewB xs = true) => total_any h.at_ (acct_lo G.out) (by have := few_len hf; have := hAl.out; omega))
  have hTZ := Lib.hid (fun c => totM_zero G.out B.out c)
  go_enter Try.func5, Try.ntmps5
  go_wp2_with (first
    | (go_at_call 9; refine (hA.out _).mono ?_; rintro e w1 ⟨rfl, ho1⟩)
    | (go_at_call 10; refine (hF.out _ ho1).mono ?_; rintro e w2 ⟨rfl, ho2⟩; have ho3 := ho1.trans ho2 fun _ _ h => h; clear ho1 ho2; have ho1 := ho3; clear ho3)
    | (go_at_call 11; refine (hP.out _ ho1 (by first | assumption | simp_all)).mono ?_; rintro e w3 ⟨l, rfl, hlv0⟩; rw [hS.out] at hlv0; have hlv := hlv0.since ho1; clear hlv0)
    | (go_at_call 19; have hc := hPo.out _ _ _ hlv (by first | assumption | simp_all); refine hc.mono ?_; clear hc; rintro e w4 ⟨pv, rfl, hpn, ho4⟩; have hlv4 := hlv.quiet ho4; clear hlv; have hlv := hlv4; clear hlv4)
    | (go_at_call 20; have hc := hAc.out _ _ _ hlv (by first | assumption | simp_all); refine hc.mono ?_; clear hc; rintro e w5 ⟨av, ys, rfl, hyp, hyr, hrow, ho5⟩; have hRE := ReadsEnts.of_own hrow; obtain ⟨yA, yc, rfl⟩ := own_sl hrow; have hpn5 := hpn.quiet ho5; clear hpn; have hpn := hpn5; clear hpn5; have hlv4 := hlv.quiet ho5; clear hlv; have hlv := hlv4; clear hlv4))
  · go_ret
    exact ⟨rfl, Only.trans (F := fun _ => False) (G := fun _ => False) (by assumption) ho1 fun _ _ h => h⟩
  · have hfb : fewB xs = true := by first | assumption | simp_all
    have hPn := Lib.hid hpn
    have hRe := Lib.hid hRE
    have hYp := Lib.hid hyp
    have hpl : S.P.length ≤ 40 := by have := hPl.out; have := few_len hfb; omega
    have hal : S.A.length ≤ 40 := by have := hAl.out; have := few_len hfb; omega
    have hyl : ys.length ≤ 40 := by have := hyp.length_eq; simp [entsOf] at this; omega
    have hFB := Lib.hid hfb
    clear hpn hRE hyp hyr hrow ho5 ho4 hfb hPo hAc hP hF hA
    have hE : Hid (∀ e ∈ ys, e.amt = postSum S.P e.key ∧ (aget S.A e.key).isSome = true ∧ 0 ≤ (acctOr S.A e.key).free) := Lib.hid fun e he => by
      obtain ⟨p, hp, rfl⟩ := List.mem_map.1 (hYp.out.mem_iff.1 he)
      have hg := aget_of_mem G.out.nodA (x := p.1) (v := p.2) hp
      exact ⟨B.out.bal p hp, by show (aget S.A p.1).isSome = true; rw [hg]; rfl, (G.out.bounds p.1).2.2.2.2.2.2⟩
    have hPB : Hid (∀ p ∈ S.P, p.ents.length ≤ 64 ∧ ∀ e ∈ p.ents, -1099511627776 ≤ e.amt ∧ e.amt ≤ 1099511627776) := Lib.hid fun p hp => ⟨B.out.len p hp, fun e he => (B.out.keys p hp e he).2⟩
    go_loopg [29] (ys.length) (fun g v29 wr => ∃ i : Nat, v29 = .int .i64 (i : Int) ∧ i + g = ys.length ∧ Only (fun _ => False) w5 wr)
    case atStart => exact ⟨0, rfl, by omega, Only.refl _ _⟩
    case round =>
      obtain ⟨i, rfl, hg, ho⟩ := hrel
      by_cases hi : i < ys.length
      · obtain ⟨y, hy⟩ : ∃ y, ys[i]? = some y := ⟨ys[i], List.getElem?_eq_getElem hi⟩
        obtain ⟨A', c', hA, hr⟩ := (hRe.out.only ho fun _ _ => id).cells
        injection hA with hA1 hA2 hA3
        subst hA1 hA3
        obtain ⟨b, off, rfl, c0, c1, c2⟩ := hr i y hy
        obtain ⟨hy1, hy2, hy3⟩ := hE.out y (List.mem_of_getElem? hy)
        have hsz := ho.size
        obtain ⟨y1, y2, y3⟩ := y
        simp only [Ent.key] at c0 c1 c2 hy1 hy2 hy3
        have hY1 := Lib.hid hy1
        have hY2 := Lib.hid hy2
        clear hr hy hA2 hy1 hy2
        obtain ⟨pA, pc, rfl, _⟩ := hPn.out.cells
        go_wp2
        generalize hW6 : wr.alloc (Obj.cells #[Value.string y1, Value.string y2, Value.int IntKind.i64 y3] 44) = w6
        have ho6 : Only (fun _ => False) w5 w6 := hW6 ▸ ho.alloc _
        have g0 : w6.cell? ⟨wr.heap.size, 0, none⟩ = some (.string y1) := by subst hW6; go_simp
        have g1 : w6.cell? ⟨wr.heap.size, 1, none⟩ = some (.string y2) := by subst hW6; go_simp
        have g2 : w6.cell? ⟨wr.heap.size, 2, none⟩ = some (.int .i64 y3) := by subst hW6; go_simp
        have hbx6 : wr.heap.size < w6.heap.size := by subst hW6; simp
        generalize hB : wr.heap.size = bx at *
        clear hW6 hB hsz
        go_loopg [35, 7] (S.P.length) (fun g v35 v7 wr => ∃ (j : Nat) (n : Int), v35 = .int .i64 (j : Int) ∧ v7 = .int .i64 n ∧ j + g = S.P.length ∧ Hid (n = postSum (S.P.take j) (y1, y2)) ∧ Only (fun _ => False) w6 wr)
        case atStart => exact ⟨0, 0, rfl, rfl, by omega, Lib.hid (by simp [postSum]), Only.refl _ _⟩
        case round =>
          clear ho
          obtain ⟨j, n, rfl, rfl, hg2, hn, ho⟩ := hrel
          have hnb := postSum_bound (P := S.P.take j) (fun p hp => hPB.out p (List.mem_of_mem_take hp)) (y1, y2)
          rw [← hn.out] at hnb
          have hjl : (S.P.take j).length ≤ 40 := by rw [List.length_take]; omega
          generalize (S.P.take j).length = jl at hnb hjl
          by_cases hj : j < S.P.length
          · obtain ⟨p, hp⟩ : ∃ p, S.P[j]? = some p := ⟨S.P[j], List.getElem?_eq_getElem hj⟩
            obtain ⟨A', c', hA, hr⟩ := ((hPn.out.quiet ho6).quiet ho).cells
            injection hA with hA1 hA2 hA3
            subst hA1 hA3
            obtain ⟨pb, ev, rfl, d0, d1, d2, hre⟩ := hr j p hp
            have hpb := hPB.out p (List.mem_of_getElem? hp)
            have hpbl := hpb.1
            have hsnoc : postSum (S.P.take (j + 1)) (y1, y2) = postSum (S.P.take j) (y1, y2) + entSum p.ents (y1, y2) := by rw [take_snoc hp, postSum_app, postSum_one]
            have hSN := Lib.hid hsnoc
            have hPE := Lib.hid hpb.2
            have hRE2 := Lib.hid hre
            obtain ⟨eA, ec, rfl, _⟩ := hre
            obtain ⟨pnum, ptext, pents⟩ := p
            simp only at d0 d1 d2 hpbl hSN hPE hRE2
            clear hr hp hA2 hpb hsnoc
            go_wp2
            generalize hW7 : wr.alloc _ = w7
            have ho7 : Only (fun _ => False) wr w7 := hW7 ▸ (Only.refl _ wr).alloc _
            clear hW7
            have ho7' := ho7
            have ho8 : Only (fun _ => False) w6 w7 := ho.trans ho7 fun _ _ h => h
            go_loopg [42, 7] (pents.length) (fun g v42 v7 wr => ∃ (k : Nat) (m : Int), v42 = .int .i64 (k : Int) ∧ v7 = .int .i64 m ∧ k + g = pents.length ∧ Hid (m = n + entSum (pents.take k) (y1, y2)) ∧ Only (fun _ => False) w7 wr)
            case atStart => exact ⟨0, n, rfl, rfl, by omega, Lib.hid (by simp [entSum]), Only.refl _ _⟩
            case round =>
              clear ho7 ho
              obtain ⟨k, m, rfl, rfl, hg3, hm, ho⟩ := hrel
              have hmb := entSum_bound (x := pents.take k) (fun e he => hPE.out e (List.mem_of_mem_take he)) (y1, y2)
              have hkl : (pents.take k).length ≤ 64 := by rw [List.length_take]; omega
              have hmn := hm.out
              have hmlo : -5000000000000000000 ≤ m := by omega
              have hmhi : m ≤ 5000000000000000000 := by omega
              clear hmb hmn hkl
              by_cases hk : k < pents.length
              · obtain ⟨e, he⟩ : ∃ e, pents[k]? = some e := ⟨pents[k], List.getElem?_eq_getElem hk⟩
                have hou : Only (fun _ => False) w6 wr := ho8.trans ho fun _ _ h => h
                obtain ⟨A', c', hA, hr⟩ := (hRE2.out.only (ho7'.trans ho fun _ _ h => h) fun _ _ => id).cells
                injection hA with hA1 hA2 hA3
                subst hA1 hA3
                obtain ⟨eb, eo, rfl, f0, f1, f2⟩ := hr k e he
                have hea := hPE.out e (List.mem_of_getElem? he)
                have hSN2 := Lib.hid (take_snoc he)
                obtain ⟨ea, ec', en⟩ := e
                simp only at f0 f1 f2 hea
                obtain ⟨hea1, hea2⟩ := hea
                have hbx : bx < wr.heap.size := Nat.lt_of_lt_of_le hbx6 hou.size
                have t0 : wr.cell? ⟨bx, 0, none⟩ = some (.string y1) := hou.keeps g0 not_false
                have t1 : wr.cell? ⟨bx, 1, none⟩ = some (.string y2) := hou.keeps g1 not_false
                clear hr he hA2
                by_cases q1 : (ea.toList == y1.toList) = true
                · by_cases q2 : (ec'.toList == y2.toList) = true
                  · have hE1 := Lib.hid (str_eq q1)
                    have hE2 := Lib.hid (str_eq q2)
                    go_wp2
                    go_roundg (pents.length - (k + 1))
                    case measure => omega
                    case rel => exact ⟨k + 1, m + en, by simp, rfl, by omega, Lib.hid (by rw [hSN2.out, entSum_yes hE1.out hE2.out, hm.out]; simp only; omega), ho.alloc _⟩
                  · have q2' : (ec'.toList == y2.toList) = false := by simpa using q2
                    have hE2 := Lib.hid (str_ne q2')
                    clear q2
                    go_wp2
                    go_roundg (pents.length - (k + 1))
                    case measure => omega
                    case rel => exact ⟨k + 1, m, by simp, rfl, by omega, Lib.hid (by rw [hSN2.out, entSum_no (fun e => hE2.out e.2), hm.out]), ho.alloc _⟩
                · have q1' : (ea.toList == y1.toList) = false := by simpa using q1
                  have hE1 := Lib.hid (str_ne q1')
                  clear q1
                  go_wp2
                  go_roundg (pents.length - (k + 1))
                  case measure => omega
                  case rel => exact ⟨k + 1, m, by simp, rfl, by omega, Lib.hid (by rw [hSN2.out, entSum_no (fun e => hE1.out e.1), hm.out]), ho.alloc _⟩
              · have hke : k = pents.length := by omega
                subst hke
                have hmf := hm.out
                rw [List.take_length] at hmf
                have hMF := Lib.hid hmf
                clear hmf
                go_wp2
                go_roundg (S.P.length - (j + 1))
                case measure => omega
                case rel => exact ⟨j + 1, m, by simp, rfl, by omega, Lib.hid (by rw [hSN.out, hMF.out, hn.out]), ho8.trans ho fun _ _ h => h⟩
          · have hje : j = S.P.length := by omega
            subst hje
            have hnf := hn.out
            rw [List.take_length, ← hY1.out] at hnf
            subst hnf
            have hlvr := hlv.quiet (ho6.trans ho fun _ _ h => h)
            have hou := (Only.trans (F := fun _ => False) ho6 ho fun _ _ h => h)
            have hbx : bx < wr.heap.size := Nat.lt_of_lt_of_le hbx6 ho.size
            have t0 : wr.cell? ⟨bx, 0, none⟩ = some (.string y1) := ho.keeps g0 not_false
            have t1 : wr.cell? ⟨bx, 1, none⟩ = some (.string y2) := ho.keeps g1 not_false
            have t2 : wr.cell? ⟨bx, 2, none⟩ = some (.int .i64 n) := ho.keeps g2 not_false
            generalize hfr : (acctOr S.A (y1, y2)).free = fr at hy3
            have hFR := Lib.hid hfr
            clear hfr hn hj hg2 ho hnb
            go_wp2_with (first
              | (go_at_call 18; have hc := hFr.out _ _ _ hlvr y1 y2; refine hc.mono ?_; clear hc; rintro e wf ⟨rfl, hof⟩; rw [hY2.out, hFR.out]; have hlvf := hlvr.quiet hof; have hbf : bx < wf.heap.size := Nat.lt_of_lt_of_le hbx hof.size; have t0f := hof.keeps t0 not_false; have t1f := hof.keeps t1 not_false; have t2f := hof.keeps t2 not_false)
              | (go_at_call 21; have hc := hTo.out _ _ _ hlvf hFB.out y2; refine hc.mono ?_; clear hc; rintro e wt ⟨rfl, hot⟩; rw [hTZ.out]))
            go_roundg (ys.length - (i + 1))
            case measure => omega
            case rel => exact ⟨i + 1, by simp, by omega, (hou.andQuiet hof).andQuiet hot⟩
      · have hlvr := hlv.quiet ho
        go_wp2_with (go_at_call 21; have hc := hTo.out _ _ _ hlvr hFB.out tN; refine hc.mono ?_; clear hc; rintro e wt ⟨rfl, hot⟩; rw [hTZ.out])
        go_ret
        exact ⟨rfl, (hlvr.only).andQuiet hot⟩
end
end Go.Proofs.Ytoeokakcdfdjkaa
