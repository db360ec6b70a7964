/- WALKS: LedgerCopies. -/
import Derived.Test.YtoeokakcdfdjkaaWy
import Derived.Test.YtoeokakcdfdjkaaAp
namespace Go.Proofs.Ytoeokakcdfdjkaa
open Go.RowKit Go.Shelf
/-- Two ledgers that share nothing. -/
def Dis (l k : Loc) : Prop := ∀ i, l.F i → ¬ k.F i
theorem Dis.symm {l k : Loc} (h : Dis l k) : Dis k l := fun i hi hk => h i hk hi
theorem Dis.new {W : World} {l k : Loc} {S : Led} (h : LAt W l S) (hk : ∀ i, k.F i → W.heap.size ≤ i) : Dis l k := fun i hi hf => by have := h.F_lt hi; have := hk i hf; omega
theorem Dis.post {W : World} {l k : Loc} {S : Led} {pv' : Value} (h : Dis k l) (hk : LAt W k S) (hp : pv'.ownBlock = l.pv.ownBlock ∨ ∀ b, pv'.ownBlock = some b → W.heap.size ≤ b) : Dis k { l with pv := pv' } := fun i hi hf => by
  rcases hf with rfl | rfl | rfl | hf
  · exact h _ hi (.inl rfl)
  · exact h _ hi (.inr (.inl rfl))
  · exact h _ hi (.inr (.inr (.inl rfl)))
  · rcases hp with hp | hp
    · exact h i hi (.inr (.inr (.inr (hp ▸ hf))))
    · have := hp i hf; have := hk.F_lt hi; omega
theorem Lives.other {w0 w w' : World} {l k : Loc} {S T : Led} (h : Lives w0 w k T) (hl : Lives w0 w l S) (ho : Only l.F w w') (hd : Dis k l) : Lives w0 w' k T :=
  ⟨h.at_.other hl.at_ ho hd, h.only.trans ho fun i hi hf => by have := hl.new i hf; omega, h.new⟩
theorem Lives.turn {w0 w w' : World} {l : Loc} {S S' : Led} {pv' : Value} (h : Lives w0 w l S) (hL : LAt w' { l with pv := pv' } S') (ho : Only l.F w w') (hp : pv'.ownBlock = l.pv.ownBlock ∨ ∀ b, pv'.ownBlock = some b → w.heap.size ≤ b) : Lives w0 w' { l with pv := pv' } S' := by
  refine ⟨hL, h.only.trans ho fun i hi hf => by have := h.new i hf; omega, fun i hi => ?_⟩
  rcases hi with rfl | rfl | rfl | hi
  · exact h.new _ (.inl rfl)
  · exact h.new _ (.inr (.inl rfl))
  · exact h.new _ (.inr (.inr (.inl rfl)))
  · rcases hp with hp | hp
    · exact h.new i (.inr (.inr (.inr (by rw [← hp]; exact hi))))
    · exact Nat.le_trans h.only.size (hp i hi)
theorem own_none (w : World) : (w.alloc (.cells #[] 31)).ownsRow w.heap.size 31 6 (.slice (some ⟨w.heap.size, 0, none⟩) 0 0) (([] : List (ActM × Value)).length) ([].flatMap actCells) :=
  ⟨rfl, .inr ⟨w.heap.size, 0, #[], rfl, Nat.le_refl _, heap_alloc_new _ _, Nat.le_refl _, Nat.zero_le _, rfl, rfl⟩⟩
theorem ActPairs.only {F : Nat → Prop} {w w' : World} {B : Nat} {ps : List (ActM × Value)} (h : ActPairs w B ps) (ho : Only F w w') (hF : ∀ i, F i → B ≤ i) : ActPairs w' B ps := fun p hp => by
  obtain ⟨h0, h1, h2, h3⟩ := h p hp
  exact ⟨h0, h1, h2.only' ho fun hl b hb hf => by have := h3 hl b hb; have := hF b hf; omega, h3⟩
theorem ActPairs.up {w : World} {B B' : Nat} {ps : List (ActM × Value)} (h : ActPairs w B ps) (hB : B ≤ B') : ActPairs w B' ps := fun p hp => by
  obtain ⟨h0, h1, h2, h3⟩ := h p hp
  exact ⟨h0, h1, h2, fun hl b hb => Nat.lt_of_lt_of_le (h3 hl b hb) hB⟩
theorem few_app {xs ys : List ActM} (hx : fewB xs = true) (hy : fewB ys = true) (hl : (xs ++ ys).length ≤ 40) : fewB (xs ++ ys) = true := by
  unfold fewB at *
  simp only [Bool.and_eq_true, decide_eq_true_eq, List.all_append] at *
  exact ⟨⟨hx.1, hy.1⟩, hl⟩
section
variable {w : World}
set_option maxHeartbeats 16000000 in
set_option maxRecDepth 100000 in
theorem copies_law {v v' : Value} {xs ys : List ActM} (h : ReadsActs w w.heap.size v xs) (hl : xs.length ≤ 9223372036854775807) (h' : ReadsActs w w.heap.size v' ys) (hl' : ys.length ≤ 9223372036854775807) (n : Int) : Calls Try.prog 8 #[v, v', .int .i64 n] w (LawPost w) := by
  have hX := Lib.hid h
  have hY := Lib.hid h'
  obtain ⟨A, c, rfl, _⟩ := h
  obtain ⟨A2, c2, rfl, _⟩ := h'
  have hA := Lib.hid (fun W => awake_any W)
  have hF1 := Lib.hid (fun W (ho : Only (fun _ => False) w W) => few_any (hX.out.later ho) hl)
  have hF2 := Lib.hid (fun W (ho : Only (fun _ => False) w W) => few_any (hY.out.later ho) hl')
  have hP := Lib.hid (fun W (ho : Only (fun _ => False) w W) (hf : fewB xs = true) => played_any (hX.out.later ho) hf)
  have G := Lib.hid (playM_good xs)
  have B := Lib.hid (playM_books xs)
  have hSm := Lib.hid (playM_small xs)
  have hCo := Lib.hid (fun (W0 W : World) (l : Loc) (h : Lives W0 W l (playM xs)) (hf : fewB xs = true) => copy_any h.at_ (by have := few_len hf; have := hSm.out.p; omega) (fun p hp => by have := B.out.len p hp; omega))
  have hAs := Lib.hid (fun (W0 W : World) (l : Loc) (h : Lives W0 W l (playM xs)) (hf : fewB xs = true) => as_any h.at_ G.out B.out (by have := few_len hf; have := hSm.out.p; omega) n)
  have hAl := Lib.hid (fun (zs : List ActM) (W : World) (la lb : Loc) (ha : LAt W la (playM zs)) (hb : LAt W lb (playM zs)) (hf : zs.length ≤ 1000) =>
    alike_any ha hb (playM_good zs) (by have := (playM_small zs).a; omega) (by have := (playM_small zs).p; omega) (by have := (playM_small zs).h; omega) (fun p hp => by have := (playM_books zs).len p hp; omega) (fun k hk => by have := (playM_small zs).k k hk; omega))
  have ho := Only.refl (fun _ => False) w
  go_enter Try.func8, Try.ntmps8
  go_wp2_with (first
    | (go_at_call 9; refine (hA.out _).mono ?_; rintro e w1 ⟨rfl, ho1⟩; have ho' := ho.andThen ho1; clear ho ho1; have ho := ho'; clear ho')
    | (go_at_call 10; have hc := hF1.out _ ho; clear hF1; refine hc.mono ?_; clear hc; rintro e w2 ⟨rfl, ho2⟩; have ho' := ho.andThen ho2; clear ho ho2; have ho := ho'; clear ho')
    | (go_at_call 10; have hc := hF2.out _ ho; clear hF2; refine hc.mono ?_; clear hc; rintro e w2 ⟨rfl, ho2⟩; have ho' := ho.andThen ho2; clear ho ho2; have ho := ho'; clear ho')
    | (go_at_call 11; have hc := hP.out _ ho (by first | assumption | simp_all); refine hc.mono ?_; clear hc; rintro e w4 ⟨l, rfl, hlv0⟩; have hlv := hlv0.since ho; have ho4 := ho.andThen hlv0.only; clear hlv0 ho)
    | (go_at_call 22; have hc := hCo.out _ _ _ hlv (by first | assumption | simp_all); refine hc.mono ?_; clear hc; rintro e w5 ⟨lc, rfl, hlc0⟩; have hdc := Dis.new hlv.at_ hlc0.new; have hlc := hlc0.since ho4; have hlv5 := hlv.quiet hlc0.only; have ho5 := ho4.andThen hlc0.only; clear hlv hlc0 ho4)
    | (go_at_call 26; have hc := hAs.out _ _ _ hlv5 (by first | assumption | simp_all); refine hc.mono ?_; clear hc; rintro e w6 ⟨la, A0, rfl, hperm, hla0⟩; have hda := Dis.new hlv5.at_ hla0.new; have hdac := Dis.new hlc.at_ hla0.new; have hla := hla0.since ho5; have hlv6 := hlv5.quiet hla0.only; have hlc6 := hlc.quiet hla0.only; have ho6 := ho5.andThen hla0.only; clear hlv5 hlc hla0 ho5)
    | (go_at_call 11; have hc := hP.out _ ho6 (by first | assumption | simp_all); refine hc.mono ?_; clear hc; rintro e w7 ⟨lt, rfl, hlt0⟩; have hdl := Dis.new hlv6.at_ hlt0.new; have hdlc := Dis.new hlc6.at_ hlt0.new; have hdla := Dis.new hla.at_ hlt0.new; have hlt := hlt0.since ho6; have hlv := hlv6.quiet hlt0.only; have hlc := hlc6.quiet hlt0.only; have hla7 := hla.quiet hlt0.only; have ho7 := ho6.andThen hlt0.only; clear hlv6 hlc6 hla hlt0 ho6))
  · go_ret
    exact ⟨rfl, ho⟩
  · have hfx : fewB xs = true := by first | assumption | simp_all
    have hfy : fewB ys = true := by first | assumption | (have h : (!fewB ys) = false := by assumption
                                                          simpa using h)
    have hFY := Lib.hid hfy
    have hFX := Lib.hid hfx
    have hxl := few_len hfx
    have hyl := few_len hfy
    have hgA := Lib.hid (asM_good G.out B.out hperm (within n (playM xs).P.length))
    generalize asM A0 ((playM xs).P.take (within n (playM xs).P.length)) = Sa at *
    simp only [hfy]
    clear hfx hfy hperm hCo hAs
    have hS0 : Hid (playM xs = playM (xs ++ ys.take 0)) := Lib.hid (by simp)
    have hlc0 : Lives w w7 lc (playM (xs ++ ys.take 0)) := hS0.out ▸ hlc
    clear hlc
    go_loopg [38] (ys.length) (fun g v38 wr => ∃ i : Nat, v38 = .int .i64 (i : Int) ∧ i + g = ys.length ∧ ∃ pc pa Sa, Lives w wr l (playM xs) ∧ Lives w wr lt (playM xs) ∧ Lives w wr { lc with pv := pc } (playM (xs ++ ys.take i)) ∧ Lives w wr { la with pv := pa } Sa ∧ Good Sa ∧
      Dis l { lc with pv := pc } ∧ Dis lt { lc with pv := pc } ∧ Dis { la with pv := pa } { lc with pv := pc } ∧ Dis l { la with pv := pa } ∧ Dis lt { la with pv := pa })
    case atStart => exact ⟨0, rfl, by omega, lc.pv, la.pv, Sa, hlv, hlt, hlc0, hla7, hgA.out, hdc, hdlc.symm, hdac.symm, hda, hdla.symm⟩
    case round =>
      clear hlv hlt hlc0 hla7 hgA hdc hdlc hdac hda hdla hdl
      obtain ⟨i, rfl, hg, pc, pa, Sa, hlv, hlt, hlc, hla, hgA, x1, x2, x3, x4, x5⟩ := hrel
      by_cases hi : i < ys.length
      · obtain ⟨x, hx⟩ : ∃ x, ys[i]? = some x := ⟨ys[i], List.getElem?_eq_getElem hi⟩
        obtain ⟨A', c', hA', hr⟩ := (hY.out.only hlv.only fun _ h => h.elim)
        injection hA' with hA1 hA2 hA3
        subst hA1 hA3
        obtain ⟨b, off, rfl, hb, h0, h1, c0, c1, c2, c3, c4, lv, c5, he, hlb⟩ := hr i x hx
        have hfx := few_at hFY.out hx
        have hms : playM (xs ++ ys.take (i + 1)) = (doM (playM (xs ++ ys.take i)) x).1 := by rw [take_snoc hx, ← List.append_assoc, playM_snoc]
        have hMS := Lib.hid hms
        have hR := Lib.hid hgA
        have hLV := Lib.hid hlv
        have hLT := Lib.hid hlt
        have hLC := Lib.hid hlc
        have hLA := Lib.hid hla
        have hD1 := Lib.hid (fun W (ho : Only (fun _ => False) wr W) => do_any (hlc.quiet ho).at_ (playM_good _) x.kind ⟨h0, h1⟩ x.a x.b x.c x.n (he.only ho fun _ _ => id) (by omega) (by omega) (fun h0' b' hb' hf => by have := hlb h0' b' hb'; have := hlc.new b' hf; omega) (by obtain ⟨_, _, rfl, _⟩ := he; rfl))
        have hD2 := Lib.hid (fun W (hoW : Only (fun b' => w.heap.size ≤ b') wr W) (hl : Lives w W { la with pv := pa } Sa) => do_any hl.at_ hR.out x.kind ⟨h0, h1⟩ x.a x.b x.c x.n (he.only' hoW fun h0' b' hb' hf => by have := hlb h0' b' hb'; omega) (by omega) (by omega) (fun h0' b' hb' hf => by have := hlb h0' b' hb'; have := hl.new b' hf; omega) (by obtain ⟨_, _, rfl, _⟩ := he; rfl))
        obtain ⟨eA, ec, rfl, _⟩ := he
        obtain ⟨xk, xa, xb, xc, xn, xl⟩ := x
        simp only at h0 h1 c0 c1 c2 c3 c4 c5 hD1 hD2 hMS
        clear hr hx hlb hfx hA2 hms hlv hlt hlc hla hgA
        go_wp2_with (first
          | (go_at_call 13; have hq := (Only.refl (fun _ => False) wr).alloc (.cells #[.int .u8 xk, .string xa, .string xb, .string xc, .int .i64 xn, .slice eA xl.length ec] 31); have hc := hD1.out _ hq; clear hD1; refine hc.mono ?_; clear hc; intro e w8 hp; obtain ⟨pc', rfl, hL8, ho8, hpc8⟩ := hp; have hlaq := hLA.out.quiet hq; have hlcq := hLC.out.quiet hq; have hlvq := hLV.out.quiet hq; have hltq := hLT.out.quiet hq; obtain ⟨b0, b1, b2, b3, b4, b5⟩ := ActBlk.cells (show ActBlk w8 wr.heap.size ⟨xk, xa, xb, xc, xn, xl⟩ (.slice eA xl.length ec) from ho8.heap (ActBlk.new wr ⟨xk, xa, xb, xc, xn, xl⟩ (.slice eA xl.length ec)) (fun hf => by have := hLC.out.at_.F_lt hf; omega)))
          | (go_at_call 13; have hla8 := hlaq.other hlcq ho8 x3; have how : Only (fun b' => w.heap.size ≤ b') wr w8 := (hq.mono fun _ _ h => h.elim).trans ho8 fun i _ hf => hlcq.new i hf; have hc := hD2.out _ how hla8; clear hD2; refine hc.mono ?_; clear hc; intro e w9 hp; obtain ⟨pa', rfl, hL9, ho9, hpa9⟩ := hp))
        have hlc8 := hlcq.turn hL8 ho8 hpc8
        simp only [← hMS.out] at hlc8
        have hlv8 := hlvq.other hlcq ho8 x1
        have hlt8 := hltq.other hlcq ho8 x2
        have x3' : Dis { la with pv := pa } { lc with pv := pc' } := Dis.post (l := { lc with pv := pc }) x3 hlaq.at_ hpc8
        go_roundg (ys.length - (i + 1))
        case measure => omega
        case rel =>
          exact ⟨i + 1, by simp, by omega, pc', pa', _, hlv8.other hla8 ho9 x4, hlt8.other hla8 ho9 x5, hlc8.other hla8 ho9 x3'.symm, hla8.turn hL9 ho9 hpa9, hR.out.do _, Dis.post (l := { lc with pv := pc }) x1 hlvq.at_ hpc8, Dis.post (l := { lc with pv := pc }) x2 hltq.at_ hpc8, (Dis.post (l := { la with pv := pa }) x3'.symm hlc8.at_ hpa9).symm, Dis.post (l := { la with pv := pa }) x4 hlv8.at_ hpa9, Dis.post (l := { la with pv := pa }) x5 hlt8.at_ hpa9⟩
      · have hie : i = ys.length := by omega
        subst hie
        rw [List.take_length] at hlc
        clear hi hg
        have hwz := hlv.only.size
        have hP2 := Lib.hid (fun W v (h : ReadsActs W W.heap.size v (xs ++ ys)) (hf : (xs ++ ys).length ≤ 40) => played_any h (few_app hFX.out hFY.out hf))
        have hoq := (Only.refl (fun _ => False) wr).alloc (.cells #[] 31)
        have hXq := Lib.hid (hX.out.only (hlv.only.andThen hoq) fun _ h => h.elim)
        go_wp2_with (first
          | (at_builtin
             refine wpList_append_acts rfl (.tmp 49) (.tmp 50) rfl (ps := []) (ys := xs) rfl (own_none wr) rfl hXq.out (by simp; omega) (by simp) ?_
             intro v1 w8 qs1 hq1 hp1 hr1 hg1 hat1
             have hg1' : (wr.alloc (.cells #[] 31)).grownBy w8 (some wr.heap.size) := hg1
             have hr1' : w8.ownsRow wr.heap.size 31 6 v1 qs1.length (qs1.flatMap actCells) := hr1
             have ho8 : Only (fun _ => False) wr w8 := hoq.grown hg1' fun k hk hlt => by injection hk with hk; omega
             have hp1' := hp1.only (Only.of_grown (F := fun i => w.heap.size ≤ i) hg1' fun k hk => by injection hk with hk; omega) fun i hi => hi
             have hYq := Lib.hid (hY.out.only (hlv.only.andThen ho8) fun _ h => h.elim)
             have hl1 : qs1.length = xs.length := by rw [← hq1, List.length_map]
             have hz8 := ho8.size
             have hR1 := Lib.hid hr1'
             have hQ1 := Lib.hid hq1
             have hP1 := Lib.hid hp1'
             have hL1 := Lib.hid hl1
             obtain ⟨vA, vc, rfl⟩ := own_sl hr1'
             clear hg1 hr1 hat1 hp1 hg1' hq1 hr1' hp1' hl1)
          | (at_builtin
             refine wpList_append_acts rfl (.tmp 51) (.tmp 52) rfl (ps := qs1) (ys := ys) rfl hR1.out rfl hYq.out (by rw [hL1.out]; omega) hz8 ?_
             intro v2 w9 qs2 hq2 hp2 hr2 hg2 hat2
             have ho9 : Only (fun _ => False) wr w9 := ho8.grown hg2 fun k hk hlt => by obtain ⟨_, _, hge⟩ := ownsRow_block hR1.out hk; omega
             have hof : Only (fun i => w.heap.size ≤ i) w8 w9 := Only.of_grown hg2 fun k hk => by obtain ⟨_, _, hge⟩ := ownsRow_block hR1.out hk; omega
             have hra : ReadsActs w9 w9.heap.size v2 (xs ++ ys) := by
               have := ReadsActs.of_row hr2 (((hP1.out.append hp2).only hof fun i hi => hi).up (Nat.le_trans (Nat.le_trans hwz hz8) hof.size)) fun b hb => by
                 obtain ⟨cc, hcc, _⟩ := ownsRow_block hr2 hb
                 exact (Array.getElem?_eq_some_iff.1 hcc).1
               rw [List.map_append, hQ1.out, hq2] at this
               exact this
             have hl2 : (qs1 ++ qs2).length = xs.length + ys.length := by rw [List.length_append, hL1.out, ← hq2, List.length_map]
             obtain ⟨uA, uc, rfl⟩ := own_sl hr2
             rw [hl2] at hra ⊢
             have hRA := Lib.hid hra
             clear hq2 hp2 hr2 hg2 hat2 hof hra hl2))
        have hlv9 := hlv.quiet ho9
        have hlt9 := hlt.quiet ho9
        have hlc9 := hlc.quiet ho9
        clear hlv hlt hlc hla hgA x1 x2 x3 x4 x5 ho8 hz8
        by_cases h40 : xs.length + ys.length ≤ 40
        · go_wp2_with (first
            | (go_at_call 23; have hc := hAl.out xs _ _ _ hlv9.at_ hlt9.at_ (by omega); clear hlt9; refine hc.mono ?_; clear hc; rintro e w10 ⟨rfl, ho10⟩)
            | (go_at_call 11; have hc := hP2.out w10 _ (hRA.out.later ho10) (by rw [List.length_append]; exact h40); refine hc.mono ?_; clear hc; rintro e w11 ⟨l2, rfl, hl20⟩)
            | (go_at_call 23; have hc := hAl.out (xs ++ ys) _ _ _ ((hlc9.quiet ho10).quiet hl20.only).at_ hl20.at_ (by rw [List.length_append]; omega); refine hc.mono ?_; clear hc; rintro e w12 ⟨rfl, ho12⟩))
          go_ret
          exact ⟨rfl, ((hlv9.only.andThen ho10).andThen hl20.only).andThen ho12⟩
        · go_wp2_with (first
            | (go_at_call 23; have hc := hAl.out xs _ _ _ hlv9.at_ hlt9.at_ (by omega); clear hlt9; refine hc.mono ?_; clear hc; rintro e w10 ⟨rfl, ho10⟩))
          go_ret
          exact ⟨rfl, hlv9.only.andThen ho10⟩
  · go_ret
    exact ⟨rfl, ho⟩
end
end Go.Proofs.Ytoeokakcdfdjkaa
