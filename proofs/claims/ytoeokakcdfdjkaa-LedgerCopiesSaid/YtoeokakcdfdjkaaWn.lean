/- WALKS: LedgerLets. -/
import Derived.Test.YtoeokakcdfdjkaaWm
namespace Go.Proofs.Ytoeokakcdfdjkaa
open Go.RowKit Go.Shelf

def tK : ByteArray := ⟨#[107, 101, 112, 116]⟩
def LawPost (w : World) (e : Ending) (w' : World) : Prop := e = .returned (.bool true) ∧ Only (fun _ => False) w w'
theorem LawPost.of {w w' : World} {b : Bool} (h : Only (fun _ => False) w w') (hb : b = true) : LawPost w (.returned (.bool b)) w' := by subst hb; exact ⟨rfl, h⟩
theorem ReadsActs.up {w : World} {B B' : Nat} {v : Value} {xs : List ActM} (h : ReadsActs w B v xs) (hB : B ≤ B') : ReadsActs w B' v xs := by
  obtain ⟨A, c, rfl, hr⟩ := h
  refine ⟨A, c, rfl, fun i x hx => ?_⟩
  obtain ⟨b, off, rfl, hb, h0, h1, c0, c1, c2, c3, c4, lv, c5, he, hl⟩ := hr i x hx
  exact ⟨b, off, rfl, Nat.lt_of_lt_of_le hb hB, h0, h1, c0, c1, c2, c3, c4, lv, c5, he, fun h0' b' hb' => Nat.lt_of_lt_of_le (hl h0' b' hb') hB⟩
theorem ReadsActs.later {w w' : World} {v : Value} {xs : List ActM} (h : ReadsActs w w.heap.size v xs) (ho : Only (fun _ => False) w w') : ReadsActs w' w'.heap.size v xs := (h.only ho fun _ h => h.elim).up ho.size
theorem kept_name : nameB tK = true := by kernel_rfl
theorem hold_err {S S2 : Led} {n e : Int} (h : holdM S tK tA tE n = (S2, e)) (he : e ≠ 0) : (aget S.A (tA, tE)).isSome = false ∨ n < 1 ∨ n > 1099511627776 ∨ n > (acctOr S.A (tA, tE)).free ∨ e = 5 ∨ e = 7 := by
  unfold holdM maxA at h
  rw [kept_name] at h
  simp only [Bool.not_true, Bool.false_eq_true, if_false] at h
  split at h
  · injection h with _ h; omega
  · split at h
    · rename_i hx; simp at hx; exact .inl (by simp [hx])
    · split at h
      · omega
      · split at h
        · omega
        · split at h
          · injection h with _ h; omega
          · injection h with _ h; omega
theorem hold_ok {S S2 : Led} {n : Int} (_G : Good S) (h : holdM S tK tA tE n = (S2, 0)) : 1 ≤ n ∧ n ≤ 1099511627776 ∧ aget S2.H tK = some ⟨tK, tA, tE, n⟩ ∧ (aget S.A (tA, tE)).isSome = true ∧ n ≤ (acctOr S.A (tA, tE)).free ∧ S2.A = keepL S.A (tA, tE) n ∧ S2.P = S.P := by
  unfold holdM maxA at h
  rw [kept_name] at h
  simp only [Bool.not_true, Bool.false_eq_true, if_false] at h
  split at h
  · injection h with _ h; omega
  · split at h
    · injection h with _ h; omega
    · split at h
      · injection h with _ h; omega
      · split at h
        · injection h with _ h; omega
        · split at h
          · injection h with _ h; omega
          · injection h with h _
            subst h
            rename_i h1 h2 h3 h4 h5
            exact ⟨by omega, by omega, by simp [aget_put], by cases hx : (aget S.A (tA, tE)).isSome <;> simp [hx] at h1 ⊢, by omega, rfl, rfl⟩
theorem let_back {S S2 : Led} {n : Int} (G : Good S) (h : holdM S tK tA tE n = (S2, 0)) : ∃ S3, letM S2 tK = (S3, 0) ∧ (acctOr S3.A (tA, tE)).free = (acctOr S.A (tA, tE)).free ∧ (acctOr S2.A (tA, tE)).free = (acctOr S.A (tA, tE)).free - n ∧ (acctOr S2.A (tA, tE)).bal = (acctOr S.A (tA, tE)).bal := by
  obtain ⟨h1, h2, h3, h4, h5, h6, _⟩ := hold_ok G h
  refine ⟨lessM S2 ⟨tK, tA, tE, n⟩ n, ?_, ?_, ?_, ?_⟩
  · unfold letM
    rw [h3, holdOr_of h3]
    simp
  · show (acctOr (keepL S2.A (tA, tE) (-n)) (tA, tE)).free = _
    rw [acctOr_keepL, if_pos rfl, h6, acctOr_keepL, if_pos rfl]
    simp only [Acct.free]; omega
  · rw [h6, acctOr_keepL, if_pos rfl]
    simp only [Acct.free]; omega
  · rw [h6, bal_keepL]
theorem free_bound {S : Led} (G : Good S) (k : Key) : 0 ≤ (acctOr S.A k).free ∧ (acctOr S.A k).free ≤ 2 * 1099511627776 := by
  have := G.bounds k
  rw [maxA_eq] at this
  unfold Acct.free at *
  omega
section
variable {w : World}
set_option maxHeartbeats 8000000 in
set_option maxRecDepth 100000 in
theorem lets_law {v : Value} {xs : List ActM} (h : ReadsActs w w.heap.size v xs) (hl : xs.length ≤ 9223372036854775807) (n : Int) : Calls Try.prog 4 #[v, .int .i64 n] w (LawPost w) := by
  have hX := Lib.hid h
  obtain ⟨A, c, rfl, _⟩ := h
  have hA := Lib.hid (fun W => awake_any W)
  have hF := Lib.hid (fun W (ho : Only (fun _ => False) w W) => few_any (hX.out.later ho) hl)
  have hP := Lib.hid (fun W (ho : Only (fun _ => False) w W) (hf : fewB xs = true) => played_any (hX.out.later ho) hf)
  have G := Lib.hid (playM_good xs)
  generalize hres : holdM (playM xs) tK tA tE n = res
  obtain ⟨S2, e2⟩ := res
  have hR := Lib.hid hres
  have G2 : Good S2 := by have := (playM_good xs).holds tK tA tE n; rw [hres] at this; exact this
  have hG2 := Lib.hid G2
  have hfb := free_bound (playM_good xs) (tA, tE)
  have hHe := Lib.hid (fun he : e2 ≠ 0 => hold_err hres he)
  clear hres G2
  generalize hfr : (acctOr (playM xs).A (tA, tE)).free = fr at *
  generalize hbl : (acctOr (playM xs).A (tA, tE)).bal = ba at *
  generalize his : (aget (playM xs).A (tA, tE)).isSome = is at *
  have hFR := Lib.hid hfr
  have hBL := Lib.hid hbl
  have hIS := Lib.hid his
  clear hfr hbl his
  go_enter Try.func4, Try.ntmps4
  go_wp2_with (first
    | (go_at_call 9; refine (hA.out _).mono ?_; rintro e w1 ⟨rfl, ho1⟩)
    | (go_at_call 10; refine (hF.out _ ho1).mono ?_; rintro e w2 ⟨rfl, ho2⟩; have ho3 := ho1.trans ho2 fun _ _ h => h; clear ho1 ho2; have ho1 := ho3; clear ho3)
    | (go_at_call 11; refine (hP.out _ ho1 (by first | assumption | simp_all)).mono ?_; rintro e w3 ⟨l, rfl, hlv⟩)
    | (go_at_call 18; have hc := hlv.frees G.out tA tE; refine hc.mono ?_; clear hc; rintro e wn ⟨rfl, hlvn⟩; rw [hFR.out, hIS.out]; clear hlv; have hlv := hlvn; clear hlvn)
    | (go_at_call 15; have hc := hlv.bal tA tE; refine hc.mono ?_; clear hc; rintro e wn ⟨rfl, hlvn⟩; rw [hBL.out, hIS.out]; clear hlv; have hlv := hlvn; clear hlvn)
    | (go_at_call 12; have hc := hlv.holds G.out tK tA tE n hR.out; refine hc.mono ?_; clear hc; rintro e wn ⟨rfl, hlvn⟩; clear hlv; have hlv := hlvn; clear hlvn))
  · go_ret
    exact ⟨rfl, Only.trans (F := fun _ => False) (G := fun _ => False) (by assumption) ho1 fun _ _ h => h⟩
  · go_ret
    exact LawPost.of (ho1.trans hlv.only fun _ _ h => h) (by rcases hHe.out (by simp_all) with h | h | h | h | h | h <;> simp_all <;> omega)
  · go_ret
    exact LawPost.of (ho1.trans hlv.only fun _ _ h => h) (by rcases hHe.out (by simp_all) with h | h | h | h | h | h <;> simp_all <;> omega)
  · go_ret
    exact LawPost.of (ho1.trans hlv.only fun _ _ h => h) (by rcases hHe.out (by simp_all) with h | h | h | h | h | h <;> simp_all <;> omega)
  · go_ret
    exact LawPost.of (ho1.trans hlv.only fun _ _ h => h) (by rcases hHe.out (by simp_all) with h | h | h | h | h | h <;> simp_all <;> omega)
  · go_ret
    exact LawPost.of (ho1.trans hlv.only fun _ _ h => h) (by rcases hHe.out (by simp_all) with h | h | h | h | h | h <;> simp_all <;> omega)
  · go_ret
    exact LawPost.of (ho1.trans hlv.only fun _ _ h => h) (by rcases hHe.out (by simp_all) with h | h | h | h | h | h <;> simp_all <;> omega)
  · have he0 : e2 = 0 := by simp_all
    subst he0
    obtain ⟨S3, hl3, hf3, hf2, hb2⟩ := let_back G.out hR.out
    rw [hFR.out] at hf3 hf2
    rw [hBL.out] at hb2
    have hL3 := Lib.hid hl3
    have hF3 := Lib.hid hf3
    have hF2 := Lib.hid hf2
    have hB2 := Lib.hid hb2
    have hG3 : Hid (Good S3) := Lib.hid (by have := hG2.out.lets tK; rw [hl3] at this; exact this)
    have hn2 := hold_ok G.out hR.out
    have hn1 := hn2.1
    have hn3 := hn2.2.1
    clear hl3 hf3 hf2 hb2 hn2
    go_wp2_with (first
      | (go_at_call 18; have hc := hlv.frees hG2.out tA tE; refine hc.mono ?_; clear hc; rintro e wn ⟨rfl, hlvn⟩; rw [hF2.out]; clear hlv; have hlv := hlvn; clear hlvn)
      | (go_at_call 15; have hc := hlv.bal tA tE; refine hc.mono ?_; clear hc; rintro e wn ⟨rfl, hlvn⟩; rw [hB2.out]; clear hlv; have hlv := hlvn; clear hlvn)
      | (go_at_call 17; have hc := hlv.lets hG2.out tK hL3.out; refine hc.mono ?_; clear hc; rintro e wn ⟨rfl, hlvn⟩; clear hlv; have hlv := hlvn; clear hlvn)
      | (go_at_call 18; have hc := hlv.frees hG3.out tA tE; refine hc.mono ?_; clear hc; rintro e wn ⟨rfl, hlvn⟩; rw [hF3.out]; clear hlv; have hlv := hlvn; clear hlvn))
    go_ret
    exact ⟨rfl, ho1.trans hlv.only fun _ _ h => h⟩
end
end Go.Proofs.Ytoeokakcdfdjkaa
