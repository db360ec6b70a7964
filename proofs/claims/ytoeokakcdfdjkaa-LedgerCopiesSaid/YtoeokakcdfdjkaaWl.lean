/- WALKS: few, played. -/
import Derived.Test.YtoeokakcdfdjkaaGo
namespace Go.Proofs.Ytoeokakcdfdjkaa
open Go.RowKit Go.Shelf

/-- One act at block b, offset off; its blocks lie below B. -/
def ActAt (w : World) (B : Nat) (b off : Nat) (x : ActM) : Prop :=
  0 ≤ x.kind ∧ x.kind ≤ 255 ∧ w.cell? ⟨b, off, none⟩ = some (.int .u8 x.kind) ∧ w.cell? ⟨b, off + 1, none⟩ = some (.string x.a) ∧ w.cell? ⟨b, off + 2, none⟩ = some (.string x.b) ∧ w.cell? ⟨b, off + 3, none⟩ = some (.string x.c) ∧ w.cell? ⟨b, off + 4, none⟩ = some (.int .i64 x.n) ∧
    ∃ lv, w.cell? ⟨b, off + 5, none⟩ = some lv ∧ ReadsEnts w lv x.l ∧ (0 < x.l.length → ∀ b', lv.ownBlock = some b' → b' < B)
def ReadsActs (w : World) (B : Nat) (v : Value) (xs : List ActM) : Prop :=
  ∃ A c, v = .slice A xs.length c ∧ ∀ i x, xs[i]? = some x → ∃ b off, A = some ⟨b, off, none⟩ ∧ b < B ∧ ActAt w B b (off + i * 6) x
theorem ReadsActs.only {F : Nat → Prop} {w w' : World} {B : Nat} {v : Value} {xs : List ActM} (h : ReadsActs w B v xs) (ho : Only F w w') (hF : ∀ i, F i → B ≤ i) : ReadsActs w' B v xs := by
  obtain ⟨A, c, rfl, hr⟩ := h
  refine ⟨A, c, rfl, fun i x hx => ?_⟩
  obtain ⟨b, off, rfl, hb, h0, h1, c0, c1, c2, c3, c4, lv, c5, he, hl⟩ := hr i x hx
  have hn : ¬ F b := fun hf => by have := hF b hf; omega
  exact ⟨b, off, rfl, hb, h0, h1, ho.keeps c0 hn, ho.keeps c1 hn, ho.keeps c2 hn, ho.keeps c3 hn, ho.keeps c4 hn, lv, ho.keeps c5 hn, he.only' ho (fun h0' b' hb' hf => by have := hl h0' b' hb'; have := hF b' hf; omega), hl⟩
def fewX (x : ActM) : Bool := decide (x.a.size ≤ 60) && decide (x.l.length ≤ 70)
def fewB (xs : List ActM) : Bool := xs.all fewX && decide (xs.length ≤ 40)
def FewPost (xs : List ActM) (w : World) (e : Ending) (w' : World) : Prop := e = .returned (.bool (fewB xs)) ∧ Only (fun _ => False) w w'
theorem FewPost.of {xs : List ActM} {w w' : World} {b : Bool} (h : Only (fun _ => False) w w') (hb : fewB xs = b) : FewPost xs w (.returned (.bool b)) w' := ⟨by rw [hb], h⟩
theorem few_no {xs : List ActM} {i : Nat} {x : ActM} (hx : xs[i]? = some x) (h : fewX x = false) : fewB xs = false := by
  unfold fewB
  rw [Bool.and_eq_false_iff]
  left
  rw [List.all_eq_false]
  exact ⟨x, List.mem_of_getElem? hx, by simp [h]⟩
section
variable {w : World} {l : Loc} {S : Led}
set_option maxHeartbeats 4000000 in
set_option maxRecDepth 100000 in
theorem few_any {B : Nat} {v : Value} {xs : List ActM} (h : ReadsActs w B v xs) (hl : xs.length ≤ 9223372036854775807) : Calls Try.prog 10 #[v] w (FewPost xs w) := by
  have hX := Lib.hid h
  obtain ⟨A, c, rfl, _⟩ := h
  go_enter Try.func10, Try.ntmps10
  go_wp2
  go_loopg [3] (xs.length) (fun g v3 wr => ∃ i : Nat, v3 = .int .i64 (i : Int) ∧ i + g = xs.length ∧ Only (fun _ => False) w wr ∧ Hid ((xs.take i).all fewX = true))
  case atStart => exact ⟨0, rfl, by omega, Only.refl _ _, Lib.hid (by simp)⟩
  case round =>
    obtain ⟨i, rfl, hg, ho, hok⟩ := hrel
    by_cases hi : i < xs.length
    · obtain ⟨x, hx⟩ : ∃ x, xs[i]? = some x := ⟨xs[i], List.getElem?_eq_getElem hi⟩
      obtain ⟨A', c', hA, hr⟩ := (hX.out.only ho fun _ h => h.elim)
      injection hA with hA1 hA2 hA3
      subst hA1 hA3
      obtain ⟨b, off, rfl, hb, h0, h1, c0, c1, c2, c3, c4, lv, c5, he, hlb⟩ := hr i x hx
      obtain ⟨eA, ec, rfl, _⟩ := he
      have hxh := Lib.hid hx
      have hfx : fewX x = (decide (x.a.size ≤ 60) && decide (x.l.length ≤ 70)) := rfl
      have hFX := Lib.hid hfx
      obtain ⟨xk, xa, xb, xc, xn, xl⟩ := x
      simp only at h0 h1 c0 c1 c2 c3 c4 c5 hFX
      clear hr hx hlb hfx hA2
      go_wp2
      · go_ret
        exact FewPost.of ho (few_no hxh.out (by rw [hFX.out]; simp; omega))
      · go_roundg (xs.length - (i + 1))
        case measure => omega
        case rel =>
          refine ⟨i + 1, by simp, by omega, ho, Lib.hid ?_⟩
          rw [take_snoc hxh.out, List.all_append, hok.out]
          simp [hFX.out]
          omega
      · go_ret
        exact FewPost.of ho (few_no hxh.out (by rw [hFX.out]; simp; omega))
    · have hie : i = xs.length := by omega
      subst hie
      rw [List.take_length] at hok
      go_wp2
      go_ret
      exact FewPost.of ho (by unfold fewB; rw [hok.out, Bool.true_and, Bool.eq_iff_iff]; simp; omega)
/-- A ledger that has been made since w0, and that reads as S. -/
structure Lives (w0 w : World) (l : Loc) (S : Led) : Prop where
  at_ : LAt w l S
  only : Only (fun _ => False) w0 w
  new : ∀ i, l.F i → w0.heap.size ≤ i
theorem Lives.quiet {w0 w w' : World} (h : Lives w0 w l S) (ho : Only (fun _ => False) w w') : Lives w0 w' l S := ⟨h.at_.quiet ho, h.only.andQuiet ho, h.new⟩
theorem Lives.step {w0 w w' : World} (h : Lives w0 w l S) {F : Nat → Prop} {S' : Led} (hL : LAt w' l S') (ho : Only F w w') (hF : ∀ i, F i → l.F i) : Lives w0 w' l S' :=
  ⟨hL, h.only.trans ho fun i hi hf => by have := h.new i (hF i hf); omega, h.new⟩
theorem Lives.post {w0 w : World} (h : Lives w0 w l S) {S' : Led} {v : Value} {e : Ending} {w' : World} (hp : LPostV l w S' v e w') : e = .returned v ∧ ∃ pv', Lives w0 w' { l with pv := pv' } S' := by
  obtain ⟨pv', rfl, hL, ho, hpv⟩ := hp
  refine ⟨rfl, pv', hL, h.only.trans ho fun i hi hf => by have := h.new i hf; omega, fun i hi => ?_⟩
  rcases hi with rfl | rfl | rfl | hi
  · exact h.new _ (.inl rfl)
  · exact h.new _ (.inr (.inl rfl))
  · exact h.new _ (.inr (.inr (.inl rfl)))
  · rcases hpv with hpv | hpv
    · exact h.new i (.inr (.inr (.inr (by rw [← hpv]; exact hi))))
    · exact Nat.le_trans h.only.size (hpv i hi)
def playM (xs : List ActM) : Led := xs.foldl (fun S x => (doM S x).1) ⟨[], [], []⟩
theorem playM_snoc (xs : List ActM) (x : ActM) : playM (xs ++ [x]) = (doM (playM xs) x).1 := by unfold playM; rw [List.foldl_append]; rfl
theorem playM_good (xs : List ActM) : Good (playM xs) := by
  unfold playM
  suffices H : ∀ (xs : List ActM) S, Good S → Good (xs.foldl (fun S x => (doM S x).1) S) from H xs _ Good.empty
  intro xs
  induction xs with
  | nil => exact fun S G => G
  | cons x r ih => exact fun S G => ih _ (G.do x)
def PlayPost (xs : List ActM) (w : World) (e : Ending) (w' : World) : Prop := ∃ l, e = .returned (.pointer (some ⟨l.lb, 0, none⟩)) ∧ Lives w w' l (playM xs)
theorem few_at {xs : List ActM} (h : fewB xs = true) {i : Nat} {x : ActM} (hx : xs[i]? = some x) : x.a.size ≤ 60 ∧ x.l.length ≤ 70 := by
  unfold fewB at h
  simp only [Bool.and_eq_true, List.all_eq_true] at h
  have := h.1 x (List.mem_of_getElem? hx)
  simpa [fewX] using this
theorem few_len {xs : List ActM} (h : fewB xs = true) : xs.length ≤ 40 := by
  unfold fewB at h
  simp only [Bool.and_eq_true] at h
  simpa using h.2
set_option maxHeartbeats 4000000 in
set_option maxRecDepth 100000 in
theorem played_any {v : Value} {xs : List ActM} (h : ReadsActs w w.heap.size v xs) (hf : fewB xs = true) : Calls Try.prog 11 #[v] w (PlayPost xs w) := by
  have hX := Lib.hid h
  have hF := Lib.hid hf
  have hlen := few_len hf
  obtain ⟨A, c, rfl, _⟩ := h
  clear hf
  have hN := Lib.hid (fun W => new_any ⟨#[107]⟩ W)
  go_enter Try.func11, Try.ntmps11
  go_wp2_with (go_at_call 28; refine (hN.out _).mono ?_; rintro e w1 ⟨rfl, hL1, ho1⟩)
  have hlv : Lives w w1 ⟨w.heap.size + 2, w.heap.size, w.heap.size + 1, ⟨#[107]⟩, .slice none 0 0⟩ ⟨[], [], []⟩ := ⟨hL1, ho1, fun i hi => by rcases hi with rfl | rfl | rfl | hi <;> first | (simp; done) | cases hi⟩
  clear hL1 ho1
  go_loopg [4] (xs.length) (fun g v4 wr => ∃ i : Nat, v4 = .int .i64 (i : Int) ∧ i + g = xs.length ∧ ∃ pv, Lives w wr ⟨w.heap.size + 2, w.heap.size, w.heap.size + 1, ⟨#[107]⟩, pv⟩ (playM (xs.take i)))
  case atStart => exact ⟨0, rfl, by omega, _, hlv⟩
  case round =>
    clear hlv
    obtain ⟨i, rfl, hg, pv, hlv⟩ := hrel
    by_cases hi : i < xs.length
    · obtain ⟨x, hx⟩ : ∃ x, xs[i]? = some x := ⟨xs[i], List.getElem?_eq_getElem hi⟩
      obtain ⟨A', c', hA, hr⟩ := (hX.out.only hlv.only fun _ h => h.elim)
      injection hA with hA1 hA2 hA3
      subst hA1 hA3
      obtain ⟨b, off, rfl, hb, h0, h1, c0, c1, c2, c3, c4, lv, c5, he, hlb⟩ := hr i x hx
      have hfx := few_at hF.out hx
      have hps : playM (xs.take (i + 1)) = (doM (playM (xs.take i)) x).1 := by rw [take_snoc hx, playM_snoc]
      have hPS := Lib.hid hps
      have hLV := Lib.hid hlv
      have hD := Lib.hid (do_any hlv.at_ (playM_good _) x.kind ⟨h0, h1⟩ x.a x.b x.c x.n he (by omega) (by omega) (fun h0' b' hb' hf => by have := hlb h0' b' hb'; have := hlv.new b' hf; omega) (by obtain ⟨_, _, rfl, _⟩ := he; rfl))
      obtain ⟨eA, ec, rfl, _⟩ := he
      obtain ⟨xk, xa, xb, xc, xn, xl⟩ := x
      simp only at h0 h1 c0 c1 c2 c3 c4 c5 hD
      clear hr hx hlb hfx hA2 hps hlv
      go_wp2_with (go_at_call 13; refine (hD.out).mono ?_; intro e w7 hp; obtain ⟨rfl, pv', hlv'⟩ := hLV.out.post hp; clear hp)
      go_roundg (xs.length - (i + 1))
      case measure => omega
      case rel => exact ⟨i + 1, by simp, by omega, pv', hPS.out ▸ hlv'⟩
    · have hie : i = xs.length := by omega
      subst hie
      rw [List.take_length] at hlv
      go_wp2
      go_ret
      exact ⟨_, rfl, hlv⟩
end
end Go.Proofs.Ytoeokakcdfdjkaa
