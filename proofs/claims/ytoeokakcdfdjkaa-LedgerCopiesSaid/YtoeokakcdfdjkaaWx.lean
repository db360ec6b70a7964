/- WALKS: LedgerRefuses. -/
import Derived.Test.YtoeokakcdfdjkaaWv
namespace Go.Proofs.Ytoeokakcdfdjkaa
open Go.RowKit Go.Shelf
/-- A ledger behind few acts is small. -/
structure Small (S : Led) (n : Nat) : Prop where
  a : S.A.length ≤ n
  p : S.P.length ≤ n
  h : S.H.length ≤ n
  k : ∀ k ∈ akeys S.H, k.size ≤ 32
theorem Small.empty : Small ⟨[], [], []⟩ 0 := ⟨by simp, by simp, by simp, by simp [akeys]⟩
theorem Small.mono {S : Led} {n m : Nat} (h : Small S n) (hm : n ≤ m) : Small S m := ⟨Nat.le_trans h.a hm, Nat.le_trans h.p hm, Nat.le_trans h.h hm, h.k⟩
theorem name_size {i : ByteArray} (h : nameB i = true) : i.size ≤ 32 := by
  unfold nameB at h
  simp only [Bool.and_eq_true, decide_eq_true_eq] at h
  omega
theorem less_H {S : Led} (G : Good S) {i : ByteArray} {hd : HoldD} {n : Int} {m : Nat} (hh : aget S.H i = some hd) (h : Small S m) : (lessM S hd n).H.length ≤ m ∧ ∀ k ∈ akeys (lessM S hd n).H, k.size ≤ 32 := by
  have hid : hd.id = i := (G.hold _ (aget_mem hh)).1
  have hi : i ∈ akeys S.H := List.mem_map.2 ⟨_, aget_mem hh, rfl⟩
  unfold lessM
  simp only
  rw [hid]
  split
  · refine ⟨Nat.le_trans (length_del_le _ _) h.h, fun k hk => ?_⟩
    obtain ⟨p, hp, rfl⟩ := List.mem_map.1 hk
    exact h.k _ (List.mem_map.2 ⟨p, (mem_del G.nodH hp).2, rfl⟩)
  · have hkk : akeys (aput S.H i { hd with amt := hd.amt - n }) = akeys S.H := by rw [akeys_put, if_pos hi]
    rw [hid] at hkk
    refine ⟨?_, fun k hk => h.k k (by rw [hkk] at hk; exact hk)⟩
    have := congrArg List.length hkk
    simp only [akeys, List.length_map] at this
    rw [this]; exact h.h
theorem Small.do {S : Led} (G : Good S) {n : Nat} (h : Small S n) (x : ActM) : Small (doM S x).1 (n + 1) := by
  have ha := doM_A (S := S) x
  have hp := doM_P (S := S) x
  have H : (doM S x).1.H.length ≤ n + 1 ∧ ∀ k ∈ akeys (doM S x).1.H, k.size ≤ 32 := by
    have h0 : S.H.length ≤ n + 1 ∧ ∀ k ∈ akeys S.H, k.size ≤ 32 := ⟨by have := h.h; omega, h.k⟩
    unfold doM
    split
    · rw [(openM_H _ _ _).1]; exact h0
    · split
      · rw [(postM_H _ _).1]; exact h0
      · split
        · unfold holdM
          split
          · exact h0
          · split
            · exact h0
            · split
              · exact h0
              · split
                · exact h0
                · split
                  · exact h0
                  · split
                    · exact h0
                    · rename_i h1 _ _ _ _ _
                      refine ⟨Nat.le_trans (length_put_le _ _ _) (by have := h.h; omega), fun k hk => ?_⟩
                      rcases mem_keys_put.1 hk with rfl | hk
                      · exact name_size (by simpa using h1)
                      · exact h.k k hk
        · split
          · unfold takeM
            simp only
            split
            · exact h0
            · rename_i h1
              split
              · exact h0
              · split
                · exact h0
                · split
                  · exact h0
                  · split
                    · exact h0
                    · have hs : (aget S.H x.a).isSome = true := by
                        cases hx : (aget S.H x.a).isSome <;> simp [hx] at h1 ⊢
                      obtain ⟨hd, hh⟩ := Option.isSome_iff_exists.1 hs
                      rw [holdOr_of hh]
                      have := less_H (n := x.n) G hh h
                      exact ⟨Nat.le_trans this.1 (Nat.le_succ _), this.2⟩
          · unfold letM
            split
            · rename_i hs
              obtain ⟨hd, hh⟩ := Option.isSome_iff_exists.1 hs
              rw [holdOr_of hh]
              have := less_H (n := hd.amt) G hh h
              exact ⟨Nat.le_trans this.1 (Nat.le_succ _), this.2⟩
            · exact h0
  exact ⟨by have := h.a; omega, by have := h.p; omega, H.1, H.2⟩
theorem playM_small (xs : List ActM) : Small (playM xs) xs.length := by
  unfold playM
  suffices H : ∀ (xs : List ActM) (S : Led) (n : Nat), Good S → Small S n → Small (xs.foldl (fun S x => (doM S x).1) S) (n + xs.length) by
    have := H xs ⟨[], [], []⟩ 0 Good.empty Small.empty
    simpa using this
  intro xs
  induction xs with
  | nil => exact fun S n _ h => h
  | cons x r ih =>
    intro S n G h
    have := ih _ _ (G.do x) (h.do G x)
    rw [List.length_cons, show n + (r.length + 1) = n + 1 + r.length by omega]
    exact this
/-- What has an error changes nothing. -/
theorem doM_err {S : Led} {x : ActM} (h : (doM S x).2.2 ≠ 0) : (doM S x).1 = S := by
  unfold doM at h ⊢
  split
  · rename_i h0
    rw [if_pos h0] at h
    unfold openM at h ⊢
    split
    · rfl
    · split
      · rfl
      · split
        · rfl
        · split
          · rfl
          · simp_all
  · rename_i h0
    rw [if_neg h0] at h
    split
    · rename_i h1
      rw [if_pos h1] at h
      unfold postM at h ⊢
      split
      · rfl
      · rename_i a1
        split
        · rfl
        · rename_i a2
          split
          · rfl
          · rename_i a3
            rw [if_neg a1, if_neg a2, if_neg a3] at h
            exact absurd rfl h
    · rename_i h1
      rw [if_neg h1] at h
      split
      · rename_i h2
        rw [if_pos h2] at h
        unfold holdM at h ⊢
        split
        · rfl
        · split
          · rfl
          · split
            · rfl
            · split
              · rfl
              · split
                · rfl
                · split
                  · rfl
                  · simp_all
      · rename_i h2
        rw [if_neg h2] at h
        split
        · rename_i h3
          rw [if_pos h3] at h
          unfold takeM at h ⊢
          simp only at h ⊢
          split
          · rfl
          · split
            · rfl
            · split
              · rfl
              · split
                · rfl
                · split
                  · rfl
                  · simp_all
        · rename_i h3
          rw [if_neg h3] at h
          unfold letM at h ⊢
          split
          · simp_all
          · rfl
theorem LAt.other {w w' : World} {l l' : Loc} {S S' : Led} (h' : LAt w l' S') (h : LAt w l S) (ho : Only l.F w w') (hd : ∀ i, l'.F i → ¬ l.F i) : LAt w' l' S' := h'.only ho hd h.noEnts
theorem ReadsActs.one {w : World} {g : Nat} {x : ActM} {lv : Value} (hk : 0 ≤ x.kind ∧ x.kind ≤ 255) (hx : ReadsEnts w lv x.l) (hl : 0 < x.l.length → ∀ b, lv.ownBlock = some b → b < w.heap.size) (hg : w.heap[g]? = some (.cells #[.int .u8 x.kind, .string x.a, .string x.b, .string x.c, .int .i64 x.n, lv] 31 (0, 0))) :
    ReadsActs w w.heap.size (.slice (some ⟨g, 0, none⟩) 1 1) [x] := by
  refine ⟨_, _, rfl, fun i y hy => ?_⟩
  have hi : i = 0 := by have := (List.getElem?_eq_some_iff.1 hy).1; simp at this; exact this
  subst hi
  simp at hy
  subst hy
  exact ⟨g, 0, rfl, (Array.getElem?_eq_some_iff.1 hg).1, hk.1, hk.2, by simp [World.cell?, hg], by simp [World.cell?, hg], by simp [World.cell?, hg], by simp [World.cell?, hg], by simp [World.cell?, hg], lv, by simp [World.cell?, hg], hx, hl⟩
/-- An act in a block of its own. -/
def ActBlk (W : World) (g : Nat) (x : ActM) (lv : Value) : Prop := W.heap[g]? = some (.cells #[.int .u8 x.kind, .string x.a, .string x.b, .string x.c, .int .i64 x.n, lv] 31 (0, 0))
theorem ActBlk.cells {W : World} {g : Nat} {x : ActM} {lv : Value} (h : ActBlk W g x lv) : W.cell? ⟨g, 0, none⟩ = some (.int .u8 x.kind) ∧ W.cell? ⟨g, 1, none⟩ = some (.string x.a) ∧ W.cell? ⟨g, 2, none⟩ = some (.string x.b) ∧ W.cell? ⟨g, 3, none⟩ = some (.string x.c) ∧ W.cell? ⟨g, 4, none⟩ = some (.int .i64 x.n) ∧ W.cell? ⟨g, 5, none⟩ = some lv := by
  unfold ActBlk at h
  simp [World.cell?, h]
theorem ActBlk.quiet {W W' : World} {g : Nat} {x : ActM} {lv : Value} (h : ActBlk W g x lv) (ho : Only (fun _ => False) W W') : ActBlk W' g x lv := ho.heap h not_false
theorem ActBlk.new (W : World) (x : ActM) (lv : Value) : ActBlk (W.alloc (.cells #[.int .u8 x.kind, .string x.a, .string x.b, .string x.c, .int .i64 x.n, lv] 31)) W.heap.size x lv := heap_alloc_new _ _
section
variable {w : World}
set_option maxHeartbeats 8000000 in
set_option maxRecDepth 100000 in
theorem refuses_law {v lv : Value} {xs : List ActM} (h : ReadsActs w w.heap.size v xs) (hl : xs.length ≤ 9223372036854775807) (x : ActM) (hk : 0 ≤ x.kind ∧ x.kind ≤ 255) (hx : ReadsEnts w lv x.l) (hxl : 0 < x.l.length → ∀ b, lv.ownBlock = some b → b < w.heap.size) :
    Calls Try.prog 6 #[v, .agg #[.int .u8 x.kind, .string x.a, .string x.b, .string x.c, .int .i64 x.n, lv]] w (LawPost w) := by
  have hX := Lib.hid h
  obtain ⟨A, c, rfl, _⟩ := h
  have hA := Lib.hid (fun W => awake_any W)
  have hF := Lib.hid (fun W (ho : Only (fun _ => False) w W) => few_any (hX.out.later ho) hl)
  have hF2 := Lib.hid (fun (W : World) (g : Nat) (ho : Only (fun _ => False) w W) (hg : W.heap[g]? = some (.cells #[.int .u8 x.kind, .string x.a, .string x.b, .string x.c, .int .i64 x.n, lv] 31 (0, 0))) =>
    few_any (ReadsActs.one hk (hx.only ho fun _ _ => id) (fun hp b hb => Nat.lt_of_lt_of_le (hxl hp b hb) ho.size) hg) (by simp))
  have hP := Lib.hid (fun W (ho : Only (fun _ => False) w W) (hf : fewB xs = true) => played_any (hX.out.later ho) hf)
  have G := Lib.hid (playM_good xs)
  have B := Lib.hid (playM_books xs)
  have hSm := Lib.hid (playM_small xs)
  generalize hS0 : playM xs = S at *
  have hS := Lib.hid hS0
  clear hS0
  have hCo := Lib.hid (fun (W0 W : World) (l : Loc) (h : Lives W0 W l S) (hf : fewB xs = true) => copy_any h.at_ (by have := few_len hf; have := hSm.out.p; omega) (fun p hp => by have := B.out.len p hp; omega))
  obtain ⟨S2, n2, e2, hr⟩ : ∃ a b c, doM S x = (a, b, c) := ⟨_, _, _, rfl⟩
  have hDo := Lib.hid (fun (W : World) (l : Loc) (h : LAt W l S) (ho : Only (fun _ => False) w W) (hf : fewB [x] = true) (hd : ∀ i, l.F i → w.heap.size ≤ i) =>
    have hfx := few_at (i := 0) hf rfl
    (do_any h G.out x.kind hk x.a x.b x.c x.n (hx.only ho fun _ _ => id) (by omega) (by omega) (fun hp b hb hf => by have := hxl hp b hb; have := hd b hf; omega) (by obtain ⟨_, _, rfl, _⟩ := hx; rfl)).mono
      (R' := LPostV l W S2 (.tuple #[.int .i64 n2, .int .i64 e2])) fun e w' hp => by
        have hr' : doM S ⟨x.kind, x.a, x.b, x.c, x.n, x.l⟩ = (S2, n2, e2) := hr
        rw [hr'] at hp
        exact hp)
  have hE : Hid (e2 ≠ 0 → S2 = S) := Lib.hid fun he => by
    have := doM_err (S := S) (x := x) (by rw [hr]; exact he)
    rw [hr] at this
    exact this
  have hAl := Lib.hid (fun (W : World) (la lb : Loc) (ha : LAt W la S) (hb : LAt W lb S) (hf : fewB xs = true) =>
    have hfl := few_len hf
    alike_any ha hb G.out (by have := hSm.out.a; omega) (by have := hSm.out.p; omega) (by have := hSm.out.h; omega) (fun p hp => by have := B.out.len p hp; omega) (fun k hk => by have := hSm.out.k k hk; omega))
  clear hr
  obtain ⟨eA, ec, rfl, _⟩ := hx
  obtain ⟨xk, xa, xb, xc, xn, xl⟩ := x
  simp only at *
  go_enter Try.func6, Try.ntmps6
  go_wp2_with (first
    | (go_at_call 9; refine (hA.out _).mono ?_; rintro e w1 ⟨rfl, ho1⟩; have ho := ((Only.refl (fun _ => False) w).alloc _).andThen ho1; have hb := Lib.hid ((ActBlk.new w ⟨xk, xa, xb, xc, xn, xl⟩ (.slice eA xl.length ec)).quiet ho1); clear ho1; obtain ⟨b0, b1, b2, b3, b4, b5⟩ := hb.out.cells)
    | (go_at_call 10; have hc := hF.out _ ho; clear hF; refine hc.mono ?_; clear hc; rintro e w2 ⟨rfl, ho2⟩; have hb' := Lib.hid (hb.out.quiet ho2); clear hb b0 b1 b2 b3 b4 b5; have hb := hb'; clear hb'; have ho' := ho.andThen ho2; clear ho ho2; have ho := ho'; clear ho'; obtain ⟨b0, b1, b2, b3, b4, b5⟩ := hb.out.cells)
    | (go_at_call 9; refine (hA.out _).mono ?_; rintro e w9 ⟨rfl, ho9⟩)
    | (go_at_call 10; have hq := (Only.refl (fun _ => False) w2).alloc (.cells #[.int .u8 xk, .string xa, .string xb, .string xc, .int .i64 xn, .slice eA xl.length ec] 31); have hc := hF2.out _ w2.heap.size (ho.andThen hq) (ActBlk.new w2 ⟨xk, xa, xb, xc, xn, xl⟩ (.slice eA xl.length ec)); clear hF2; refine hc.mono ?_; clear hc; rintro e w3 ⟨rfl, ho3⟩; have hb' := Lib.hid ((hb.out.quiet hq).quiet ho3); clear hb b0 b1 b2 b3 b4 b5; have hb := hb'; clear hb'; have ho' := (ho.andThen hq).andThen ho3; clear ho ho3 hq; have ho := ho'; clear ho'; obtain ⟨b0, b1, b2, b3, b4, b5⟩ := hb.out.cells)
    | (go_at_call 11; have hc := hP.out _ ho (by first | assumption | simp_all); refine hc.mono ?_; clear hc; rintro e w4 ⟨l, rfl, hlv0⟩; rw [hS.out] at hlv0; have hlv := hlv0.since ho; clear b0 b1 b2 b3 b4 b5; have hb' := Lib.hid (hb.out.quiet hlv0.only); clear hb hlv0; have hb := hb'; clear hb'; obtain ⟨b0, b1, b2, b3, b4, b5⟩ := hb.out.cells)
    | (go_at_call 22; have hc := hCo.out _ _ _ hlv (by first | assumption | simp_all); refine hc.mono ?_; clear hc; rintro e w5 ⟨l', rfl, hlc⟩; clear b0 b1 b2 b3 b4 b5; have hb' := Lib.hid (hb.out.quiet hlc.only); clear hb; have hb := hb'; clear hb'; obtain ⟨b0, b1, b2, b3, b4, b5⟩ := hb.out.cells; have hlv' := hlv.quiet hlc.only)
    | (go_at_call 13; have hc := hDo.out _ _ hlv'.at_ hlv'.only (by first | assumption | simp_all) hlv'.new; refine hc.mono ?_; clear hc; intro e w6 hp; obtain ⟨pv', rfl, hL6, ho6, hpv6⟩ := hp)
    | (go_at_call 23; have hc := hAl.out _ _ _ (show LAt w6 { l with pv := pv' } S from (hE.out (by simp_all)) ▸ hL6) (hlc.at_.other hlv'.at_ ho6 (fun i hi hf => by have := hlc.new i hi; have := hlv.at_.F_lt hf; omega)) (by first | assumption | simp_all); refine hc.mono ?_; clear hc; rintro e w7 ⟨rfl, ho7⟩))
  all_goals
    go_ret
    first
      | exact ⟨rfl, ho.andThen ho9⟩
      | exact ⟨rfl, ((hlv'.only).trans ho6 fun i hi hf => by have := hlv'.new i hf; omega).andThen ho7⟩
      | exact ⟨rfl, (hlv'.only).trans ho6 fun i hi hf => by have := hlv'.new i hf; omega⟩
end
end Go.Proofs.Ytoeokakcdfdjkaa
