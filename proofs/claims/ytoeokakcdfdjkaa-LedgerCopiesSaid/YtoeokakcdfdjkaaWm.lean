/- WALKS: awake. -/
import Derived.Test.YtoeokakcdfdjkaaWl
import Derived.Test.YtoeokakcdfdjkaaWj
namespace Go.Proofs.Ytoeokakcdfdjkaa
open Go.RowKit Go.Shelf

def tA : ByteArray := ⟨#[97]⟩
def tB : ByteArray := ⟨#[98]⟩
def tE : ByteArray := ⟨#[69, 85, 82]⟩
def tH : ByteArray := ⟨#[104]⟩
def aw1 : Led := ⟨[((tA, tE), ⟨0, 0, 0⟩)], [], []⟩
def aw2 : Led := ⟨[((tA, tE), ⟨0, 0, 0⟩), ((tB, tE), ⟨-100, 0, 0⟩)], [], []⟩
def aw3 : Led := ⟨[((tA, tE), ⟨0, 30, 0⟩), ((tB, tE), ⟨-100, -30, 0⟩)], [⟨1, ⟨#[120]⟩, [⟨tA, tE, 30⟩, ⟨tB, tE, -30⟩]⟩], []⟩
def aw4 : Led := ⟨[((tA, tE), ⟨0, 30, 20⟩), ((tB, tE), ⟨-100, -30, 0⟩)], [⟨1, ⟨#[120]⟩, [⟨tA, tE, 30⟩, ⟨tB, tE, -30⟩]⟩], [(tH, ⟨tH, tA, tE, 20⟩)]⟩
def aw5 : Led := ⟨[((tA, tE), ⟨0, 25, 15⟩), ((tB, tE), ⟨-100, -25, 0⟩)], [⟨1, ⟨#[120]⟩, [⟨tA, tE, 30⟩, ⟨tB, tE, -30⟩]⟩, ⟨2, takeText tH, [⟨tA, tE, -5⟩, ⟨tB, tE, 5⟩]⟩], [(tH, ⟨tH, tA, tE, 15⟩)]⟩
theorem aw_1 : openM ⟨[], [], []⟩ tA tE 0 = (aw1, 0) := by kernel_rfl
theorem aw_2 : openM aw1 tB tE (-100) = (aw2, 0) := by kernel_rfl
theorem aw_3 : postM aw2 ⟨#[120]⟩ [⟨tA, tE, 30⟩, ⟨tB, tE, -30⟩] = (aw3, 1, 0) := by kernel_rfl
theorem aw_4 : holdM aw3 tH tA tE 20 = (aw4, 0) := by kernel_rfl
theorem aw_5 : takeM aw4 tH tB 5 = (aw5, 0) := by kernel_rfl
theorem aw_good3 : Good aw2 := by
  have h := ((Good.empty.open tA tE 0).open tB tE (-100))
  rw [aw_1] at h
  simp only at h
  rw [aw_2] at h
  exact h
theorem aw_good4 : Good aw3 := by have h := aw_good3.post ⟨#[120]⟩ [⟨tA, tE, 30⟩, ⟨tB, tE, -30⟩]; rw [aw_3] at h; exact h
theorem aw_good5 : Good aw4 := by have h := aw_good4.holds tH tA tE 20; rw [aw_4] at h; exact h
section
variable {w : World}
def AwakePost (w : World) (e : Ending) (w' : World) : Prop := e = .returned (.bool true) ∧ Only (fun _ => False) w w'
theorem Lives.bal {w0 w : World} {l : Loc} {S : Led} (h : Lives w0 w l S) (k1 k2 : ByteArray) : Calls Try.prog 15 #[.pointer (some ⟨l.lb, 0, none⟩), .string k1, .string k2] w fun e w' => e = .returned (.tuple #[.int .i64 (acctOr S.A (k1, k2)).bal, .bool (aget S.A (k1, k2)).isSome]) ∧ Lives w0 w' l S :=
  (balance_any h.at_ k1 k2).mono fun _ _ ⟨h1, h2⟩ => ⟨h1, h.quiet h2⟩
theorem Lives.frees {w0 w : World} {l : Loc} {S : Led} (h : Lives w0 w l S) (G : Good S) (k1 k2 : ByteArray) : Calls Try.prog 18 #[.pointer (some ⟨l.lb, 0, none⟩), .string k1, .string k2] w fun e w' => e = .returned (.tuple #[.int .i64 (acctOr S.A (k1, k2)).free, .bool (aget S.A (k1, k2)).isSome]) ∧ Lives w0 w' l S :=
  (freeOf_any h.at_ G k1 k2).mono fun _ _ ⟨h1, h2⟩ => ⟨h1, h.quiet h2⟩
theorem Lives.opens {w0 w : World} {l : Loc} {S S' : Led} {n : Int} (h : Lives w0 w l S) (k1 k2 : ByteArray) (fl : Int) (hr : openM S k1 k2 fl = (S', n)) : Calls Try.prog 14 #[.pointer (some ⟨l.lb, 0, none⟩), .string k1, .string k2, .int .i64 fl] w fun e w' => e = .returned (.int .i64 n) ∧ Lives w0 w' l S' :=
  (open_any h.at_ k1 k2 fl).mono fun _ _ ⟨h1, h2, h3⟩ => by rw [hr] at h1 h2; exact ⟨h1, h.step h2 h3 fun i hi => .inr (.inl hi)⟩
theorem Lives.holds {w0 w : World} {l : Loc} {S S' : Led} {e : Int} (h : Lives w0 w l S) (G : Good S) (i k1 k2 : ByteArray) (n : Int) (hr : holdM S i k1 k2 n = (S', e)) : Calls Try.prog 12 #[.pointer (some ⟨l.lb, 0, none⟩), .string i, .string k1, .string k2, .int .i64 n] w fun r w' => r = .returned (.int .i64 e) ∧ Lives w0 w' l S' :=
  (hold_any h.at_ G i k1 k2 n).mono fun _ _ ⟨h1, h2, h3⟩ => by rw [hr] at h1 h2; exact ⟨h1, h.step h2 h3 fun i hi => hi.elim (fun h => .inr (.inl h)) (fun h => .inr (.inr (.inl h)))⟩
theorem Lives.lets {w0 w : World} {l : Loc} {S S' : Led} {e : Int} (h : Lives w0 w l S) (G : Good S) (i : ByteArray) (hr : letM S i = (S', e)) : Calls Try.prog 17 #[.pointer (some ⟨l.lb, 0, none⟩), .string i] w fun r w' => r = .returned (.int .i64 e) ∧ Lives w0 w' l S' :=
  (let_any h.at_ G i).mono fun _ _ ⟨h1, h2, h3⟩ => by rw [hr] at h1 h2; exact ⟨h1, h.step h2 h3 fun i hi => hi.elim (fun h => .inr (.inl h)) (fun h => .inr (.inr (.inl h)))⟩
theorem Lives.takes {w0 w : World} {l : Loc} {S S' : Led} {e : Int} (h : Lives w0 w l S) (G : Good S) (i to : ByteArray) (n : Int) (hi : i.size ≤ 1000000) (hr : takeM S i to n = (S', e)) : Calls Try.prog 16 #[.pointer (some ⟨l.lb, 0, none⟩), .string i, .string to, .int .i64 n] w fun r w' => r = .returned (.int .i64 e) ∧ ∃ pv', Lives w0 w' { l with pv := pv' } S' :=
  (take_any h.at_ G i to n hi).mono fun r w' hp => by obtain ⟨h1, pv', h2⟩ := h.post hp; rw [hr] at h1 h2; exact ⟨h1, pv', h2⟩
theorem own_first {w : World} {base n : Nat} {e : TypeId} {size : Nat} {v : Value} {xs : List Value} (h : w.ownsRow base e size v (n + 1) xs) : ∃ g c, v = .slice (some ⟨g, 0, none⟩) (n + 1) c ∧ ∀ (j : Nat) u, xs[j]? = some u → w.cell? ⟨g, j, none⟩ = some u := by
  rcases h.2 with ⟨_, h0⟩ | ⟨g, cap, cur, rfl, hb, hh, h1, h2, h3, h4⟩
  · cases h0
  · refine ⟨g, cap, rfl, fun j u hj => ?_⟩
    rw [← h4, List.getElem?_take] at hj
    split at hj
    · simp only [World.cell?, hh]
      simpa using hj
    · cases hj
set_option maxHeartbeats 8000000 in
set_option maxRecDepth 100000 in
theorem awake_any (w : World) : Calls Try.prog 9 #[] w (AwakePost w) := by
  have hN := Lib.hid (fun W => new_any ⟨#[107]⟩ W)
  have hO1 := Lib.hid (fun W pv (h : Lives w W ⟨w.heap.size + 2, w.heap.size, w.heap.size + 1, ⟨#[107]⟩, pv⟩ ⟨[], [], []⟩) => h.opens tA tE 0 aw_1)
  have hO2 := Lib.hid (fun W pv (h : Lives w W ⟨w.heap.size + 2, w.heap.size, w.heap.size + 1, ⟨#[107]⟩, pv⟩ aw1) => h.opens tB tE (-100) aw_2)
  have hP3 := Lib.hid (fun W pv (h : Lives w W ⟨w.heap.size + 2, w.heap.size, w.heap.size + 1, ⟨#[107]⟩, pv⟩ aw2) =>
    (post_any (h.at_.quiet ((Only.refl (fun _ => False) W).alloc (.cells #[.string tA, .string tE, .int .i64 30, .string tB, .string tE, .int .i64 (-30)] 44))) aw_good3 ⟨#[120]⟩ (xv := .slice (some ⟨W.heap.size, 0, none⟩) 2 2) (xs := [⟨tA, tE, 30⟩, ⟨tB, tE, -30⟩])
      (⟨_, _, rfl, fun _ => ⟨_, _, rfl, fun j u hj => by simp only [entCells] at hj; simpa using hj⟩⟩) (by simp) (by decide) (fun _ b hb hf => by
        have := h.at_.F_lt hf
        simp [Value.ownBlock] at hb; omega)).mono fun e w' hp => by
        have hq : Lives w (W.alloc (.cells #[.string tA, .string tE, .int .i64 30, .string tB, .string tE, .int .i64 (-30)] 44)) _ aw2 := h.quiet ((Only.refl (fun _ => False) W).alloc _)
        obtain ⟨h1, pv', h2⟩ := hq.post hp
        rw [aw_3] at h1 h2
        exact (show e = .returned (.tuple #[.int .i64 1, .int .i64 0]) ∧ ∃ pv', Lives w w' ⟨w.heap.size + 2, w.heap.size, w.heap.size + 1, ⟨#[107]⟩, pv'⟩ aw3 from ⟨h1, pv', h2⟩))
  have hH4 := Lib.hid (fun W pv (h : Lives w W ⟨w.heap.size + 2, w.heap.size, w.heap.size + 1, ⟨#[107]⟩, pv⟩ aw3) => h.holds aw_good4 tH tA tE 20 aw_4)
  have hF4 := Lib.hid (fun W pv (h : Lives w W ⟨w.heap.size + 2, w.heap.size, w.heap.size + 1, ⟨#[107]⟩, pv⟩ aw4) => (h.frees aw_good5 tA tE).mono (R' := fun e w' => e = .returned (.tuple #[.int .i64 10, .bool true]) ∧ Lives w w' ⟨w.heap.size + 2, w.heap.size, w.heap.size + 1, ⟨#[107]⟩, pv⟩ aw4) fun e w' ⟨h1, h2⟩ => ⟨h1.trans (by kernel_rfl), h2⟩)
  have hT5 := Lib.hid (fun W pv (h : Lives w W ⟨w.heap.size + 2, w.heap.size, w.heap.size + 1, ⟨#[107]⟩, pv⟩ aw4) => h.takes aw_good5 tH tB 5 (by decide) aw_5)
  have hB5 := Lib.hid (fun W pv (h : Lives w W ⟨w.heap.size + 2, w.heap.size, w.heap.size + 1, ⟨#[107]⟩, pv⟩ aw5) => (h.bal tA tE).mono (R' := fun e w' => e = .returned (.tuple #[.int .i64 25, .bool true]) ∧ Lives w w' ⟨w.heap.size + 2, w.heap.size, w.heap.size + 1, ⟨#[107]⟩, pv⟩ aw5) fun e w' ⟨h1, h2⟩ => ⟨h1.trans (by kernel_rfl), h2⟩)
  have hL5 := Lib.hid (fun W pv (h : Lives w W ⟨w.heap.size + 2, w.heap.size, w.heap.size + 1, ⟨#[107]⟩, pv⟩ aw5) => (holds_any h.at_ (by intro k hk; simp [akeys, aw5] at hk; subst hk; decide) (by decide)).mono (R' := fun e w' => ∃ g c, e = .returned (.slice (some ⟨g, 0, none⟩) 1 c) ∧ w'.cell? ⟨g, 3, none⟩ = some (.int .i64 15) ∧ Lives w w' ⟨w.heap.size + 2, w.heap.size, w.heap.size + 1, ⟨#[107]⟩, pv⟩ aw5) fun e w' ⟨v, ks, h1, hp, _, hrow, ho⟩ => by
    have hks : ks = [tH] := List.perm_singleton.1 hp
    subst hks
    obtain ⟨g, c, rfl, hc⟩ := own_first hrow
    exact ⟨g, c, h1, hc 3 (.int .i64 15) (by kernel_rfl), h.quiet ho⟩)
  have hT6 := Lib.hid (fun W pv (h : Lives w W ⟨w.heap.size + 2, w.heap.size, w.heap.size + 1, ⟨#[107]⟩, pv⟩ aw5) => (total_any h.at_ (by intro p hp; simp [aw5] at hp; rcases hp with rfl | rfl <;> simp) (by decide) tE).mono (R' := fun e w' => e = .returned (.int .i64 0) ∧ Lives w w' ⟨w.heap.size + 2, w.heap.size, w.heap.size + 1, ⟨#[107]⟩, pv⟩ aw5) fun e w' ⟨h1, h2⟩ => ⟨h1.trans (by kernel_rfl), h.quiet h2⟩)
  go_enter Try.func9, Try.ntmps9
  go_wp2_with (first
    | (go_at_call 28; refine (hN.out _).mono ?_; rintro e w1 ⟨rfl, hL1, ho1⟩; have hlv : Lives w w1 ⟨w.heap.size + 2, w.heap.size, w.heap.size + 1, ⟨#[107]⟩, .slice none 0 0⟩ ⟨[], [], []⟩ := ⟨hL1, ho1, fun i hi => by rcases hi with rfl | rfl | rfl | hi <;> first | (simp; done) | cases hi⟩; clear hL1 ho1)
    | (go_at_call 14; have hc := hO1.out _ _ hlv; refine hc.mono ?_; clear hc; rintro e wn ⟨rfl, hlvn⟩; clear hlv; have hlv := hlvn; clear hlvn)
    | (go_at_call 14; have hc := hO2.out _ _ hlv; refine hc.mono ?_; clear hc; rintro e wn ⟨rfl, hlvn⟩; clear hlv; have hlv := hlvn; clear hlvn)
    | (go_at_call 29; have hc := hP3.out _ _ hlv; refine hc.mono ?_; clear hc; rintro e wn ⟨rfl, pv', hlvn⟩; clear hlv; have hlv := hlvn; clear hlvn)
    | (go_at_call 12; have hc := hH4.out _ _ hlv; refine hc.mono ?_; clear hc; rintro e wn ⟨rfl, hlvn⟩; clear hlv; have hlv := hlvn; clear hlvn)
    | (go_at_call 18; have hc := hF4.out _ _ hlv; refine hc.mono ?_; clear hc; rintro e wn ⟨rfl, hlvn⟩; clear hlv; have hlv := hlvn; clear hlvn)
    | (go_at_call 16; have hc := hT5.out _ _ hlv; refine hc.mono ?_; clear hc; rintro e wn ⟨rfl, pv5, hlvn⟩; clear hlv; have hlv := hlvn; clear hlvn)
    | (go_at_call 15; have hc := hB5.out _ _ hlv; refine hc.mono ?_; clear hc; rintro e wn ⟨rfl, hlvn⟩; clear hlv; have hlv := hlvn; clear hlvn)
    | (go_at_call 30; have hc := hL5.out _ _ hlv; refine hc.mono ?_; clear hc; rintro e wn ⟨hg, hcap, rfl, hcell, hlvn⟩; clear hlv; have hlv := hlvn; clear hlvn)
    | (go_at_call 21; have hc := hT6.out _ _ hlv; refine hc.mono ?_; clear hc; rintro e wn ⟨rfl, hlvn⟩; clear hlv; have hlv := hlvn; clear hlvn))
  go_ret
  exact ⟨rfl, hlv.only⟩
end
end Go.Proofs.Ytoeokakcdfdjkaa
