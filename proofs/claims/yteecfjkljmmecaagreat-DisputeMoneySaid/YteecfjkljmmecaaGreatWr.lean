/- WALK: share.wrong. -/
import Derived.Test.YteecfjkljmmecaaGreatDi
namespace Go.Proofs.YteecfjkljmmecaaGreat
open Go.RowKit Go.Sort Go.Shelf
/-- A slice of numbers. -/
def ReadsI (w : World) (v : Value) (xs : List Int) : Prop := ∃ A c, v = .slice A xs.length c ∧ ∀ i x, xs[i]? = some x → ∃ b off, A = some ⟨b, off, none⟩ ∧ w.cell? ⟨b, off + i, none⟩ = some (.int .i64 x)
theorem ReadsI.quiet {w w' : World} {v : Value} {xs : List Int} (h : ReadsI w v xs) (ho : Only (fun _ => False) w w') : ReadsI w' v xs := by
  obtain ⟨A, c, rfl, hc⟩ := h
  exact ⟨A, c, rfl, fun i x hx => by obtain ⟨b, off, hA, hk⟩ := hc i x hx; exact ⟨b, off, hA, ho.cellF hk⟩⟩
section
variable (w : World)
theorem below_any (x : Int) : Calls Tryz.prog 73 #[.int .i64 x] w (BoolPost (decide (x < 0)) w) := by
  go_enter Tryz.func73, Tryz.ntmps73
  go_wp2
  go_ret
  exact ⟨rfl, rfl⟩
theorem above_any (x : Int) : Calls Tryz.prog 74 #[.int .i64 x] w (BoolPost (decide (1099511627776 < x)) w) := by
  go_enter Tryz.func74, Tryz.ntmps74
  go_wp2
  go_ret
  exact ⟨rfl, rfl⟩
theorem some_any (x : Int) : Calls Tryz.prog 75 #[.int .i64 x] w (BoolPost (decide (0 < x)) w) := by
  go_enter Tryz.func75, Tryz.ntmps75
  go_wp2
  go_ret
  exact ⟨rfl, rfl⟩
def IdxIPost (p : Int → Bool) (xs : List Int) (w : World) (e : Ending) (w' : World) : Prop := ∃ n : Int, e = .returned (.int .i64 n) ∧ (0 ≤ n ↔ xs.any p = true) ∧ w = w'
set_option maxHeartbeats 1000000 in
theorem idx73_any (p : Int → Bool) (hF : ∀ W x, Calls Tryz.prog 73 #[.int .i64 x] W (BoolPost (p x) W)) {v : Value} {xs : List Int} (h : ReadsI w v xs) (hl : xs.length ≤ 9223372036854775807) :
    Calls Tryz.prog 96 #[v, .func (.func 73) #[] #[]] w (IdxIPost p xs w) := by
  have hX := Lib.hid h
  have hO := Lib.hid hF
  have hP : Hid (∀ n, (0 ≤ n ↔ xs.any p = true) → IdxIPost p xs w (.returned (.int .i64 n)) w) := Lib.hid fun n hn => ⟨n, rfl, hn, rfl⟩
  obtain ⟨A, c, rfl, _⟩ := h
  clear hF
  go_enter Tryz.func96, Tryz.ntmps96
  go_wp2
  go_loopg [8] (xs.length) (fun g v8 wr => ∃ i : Nat, v8 = .int .i64 (i : Int) ∧ i + g = xs.length ∧ Hid (∀ x ∈ xs.take i, p x = false) ∧ w = wr)
  case atStart => exact ⟨0, rfl, by omega, Lib.hid (by simp), rfl⟩
  case round =>
    obtain ⟨i, rfl, hg, hall, rfl⟩ := hrel
    by_cases hi : i < xs.length
    · obtain ⟨x, hx⟩ : ∃ x, xs[i]? = some x := ⟨xs[i], List.getElem?_eq_getElem hi⟩
      obtain ⟨A', c', hA', hr⟩ := hX.out
      injection hA' with hA1 hA2 hA3
      subst hA1 hA3
      obtain ⟨b, off, rfl, k0⟩ := hr i x hx
      have hmx : Hid (p x = true → xs.any p = true) := Lib.hid fun hf => by
        rw [List.any_eq_true]
        exact ⟨x, List.mem_of_getElem? hx, hf⟩
      have hmy : Hid (p x = false → ∀ z ∈ xs.take (i + 1), p z = false) := Lib.hid fun hf z hz => by
        rw [List.take_add_one, hx] at hz
        simp at hz
        rcases hz with hz | rfl
        · exact hall.out z hz
        · exact hf
      have hc := hO.out w x
      clear hr hA2 hx
      cases hm : p x
      · rw [hm] at hc
        have hC := Lib.hid hc
        have hM := Lib.hid (hmy.out hm)
        clear hc hm hmy hmx
        go_wp2_with fail
        refine (hC.out).mono ?_
        rintro e w1 ⟨rfl, rfl⟩
        go_wp2
        go_roundg (xs.length - (i + 1))
        case measure => omega
        case rel => exact ⟨i + 1, by simp, by omega, hM, rfl⟩
      · rw [hm] at hc
        have hC := Lib.hid hc
        have hM := Lib.hid (hmx.out hm)
        clear hc hm hmy hmx
        go_wp2_with fail
        refine (hC.out).mono ?_
        rintro e w1 ⟨rfl, rfl⟩
        go_wp2
        go_ret
        exact hP.out _ ⟨fun _ => hM.out, fun _ => by omega⟩
    · have hie : i = xs.length := by omega
      subst hie
      have hall' := hall.out
      rw [List.take_length] at hall'
      have hA := Lib.hid hall'
      clear hall'
      go_wp2
      go_ret
      exact hP.out _ ⟨fun h => by omega, fun h => by
        obtain ⟨x, hx, hm⟩ := List.any_eq_true.1 h
        rw [hA.out x hx] at hm
        cases hm⟩
set_option maxHeartbeats 1000000 in
theorem idx74_any (p : Int → Bool) (hF : ∀ W x, Calls Tryz.prog 74 #[.int .i64 x] W (BoolPost (p x) W)) {v : Value} {xs : List Int} (h : ReadsI w v xs) (hl : xs.length ≤ 9223372036854775807) :
    Calls Tryz.prog 96 #[v, .func (.func 74) #[] #[]] w (IdxIPost p xs w) := by
  have hX := Lib.hid h
  have hO := Lib.hid hF
  have hP : Hid (∀ n, (0 ≤ n ↔ xs.any p = true) → IdxIPost p xs w (.returned (.int .i64 n)) w) := Lib.hid fun n hn => ⟨n, rfl, hn, rfl⟩
  obtain ⟨A, c, rfl, _⟩ := h
  clear hF
  go_enter Tryz.func96, Tryz.ntmps96
  go_wp2
  go_loopg [8] (xs.length) (fun g v8 wr => ∃ i : Nat, v8 = .int .i64 (i : Int) ∧ i + g = xs.length ∧ Hid (∀ x ∈ xs.take i, p x = false) ∧ w = wr)
  case atStart => exact ⟨0, rfl, by omega, Lib.hid (by simp), rfl⟩
  case round =>
    obtain ⟨i, rfl, hg, hall, rfl⟩ := hrel
    by_cases hi : i < xs.length
    · obtain ⟨x, hx⟩ : ∃ x, xs[i]? = some x := ⟨xs[i], List.getElem?_eq_getElem hi⟩
      obtain ⟨A', c', hA', hr⟩ := hX.out
      injection hA' with hA1 hA2 hA3
      subst hA1 hA3
      obtain ⟨b, off, rfl, k0⟩ := hr i x hx
      have hmx : Hid (p x = true → xs.any p = true) := Lib.hid fun hf => by
        rw [List.any_eq_true]
        exact ⟨x, List.mem_of_getElem? hx, hf⟩
      have hmy : Hid (p x = false → ∀ z ∈ xs.take (i + 1), p z = false) := Lib.hid fun hf z hz => by
        rw [List.take_add_one, hx] at hz
        simp at hz
        rcases hz with hz | rfl
        · exact hall.out z hz
        · exact hf
      have hc := hO.out w x
      clear hr hA2 hx
      cases hm : p x
      · rw [hm] at hc
        have hC := Lib.hid hc
        have hM := Lib.hid (hmy.out hm)
        clear hc hm hmy hmx
        go_wp2_with fail
        refine (hC.out).mono ?_
        rintro e w1 ⟨rfl, rfl⟩
        go_wp2
        go_roundg (xs.length - (i + 1))
        case measure => omega
        case rel => exact ⟨i + 1, by simp, by omega, hM, rfl⟩
      · rw [hm] at hc
        have hC := Lib.hid hc
        have hM := Lib.hid (hmx.out hm)
        clear hc hm hmy hmx
        go_wp2_with fail
        refine (hC.out).mono ?_
        rintro e w1 ⟨rfl, rfl⟩
        go_wp2
        go_ret
        exact hP.out _ ⟨fun _ => hM.out, fun _ => by omega⟩
    · have hie : i = xs.length := by omega
      subst hie
      have hall' := hall.out
      rw [List.take_length] at hall'
      have hA := Lib.hid hall'
      clear hall'
      go_wp2
      go_ret
      exact hP.out _ ⟨fun h => by omega, fun h => by
        obtain ⟨x, hx, hm⟩ := List.any_eq_true.1 h
        rw [hA.out x hx] at hm
        cases hm⟩
set_option maxHeartbeats 1000000 in
theorem idx75_any (p : Int → Bool) (hF : ∀ W x, Calls Tryz.prog 75 #[.int .i64 x] W (BoolPost (p x) W)) {v : Value} {xs : List Int} (h : ReadsI w v xs) (hl : xs.length ≤ 9223372036854775807) :
    Calls Tryz.prog 96 #[v, .func (.func 75) #[] #[]] w (IdxIPost p xs w) := by
  have hX := Lib.hid h
  have hO := Lib.hid hF
  have hP : Hid (∀ n, (0 ≤ n ↔ xs.any p = true) → IdxIPost p xs w (.returned (.int .i64 n)) w) := Lib.hid fun n hn => ⟨n, rfl, hn, rfl⟩
  obtain ⟨A, c, rfl, _⟩ := h
  clear hF
  go_enter Tryz.func96, Tryz.ntmps96
  go_wp2
  go_loopg [8] (xs.length) (fun g v8 wr => ∃ i : Nat, v8 = .int .i64 (i : Int) ∧ i + g = xs.length ∧ Hid (∀ x ∈ xs.take i, p x = false) ∧ w = wr)
  case atStart => exact ⟨0, rfl, by omega, Lib.hid (by simp), rfl⟩
  case round =>
    obtain ⟨i, rfl, hg, hall, rfl⟩ := hrel
    by_cases hi : i < xs.length
    · obtain ⟨x, hx⟩ : ∃ x, xs[i]? = some x := ⟨xs[i], List.getElem?_eq_getElem hi⟩
      obtain ⟨A', c', hA', hr⟩ := hX.out
      injection hA' with hA1 hA2 hA3
      subst hA1 hA3
      obtain ⟨b, off, rfl, k0⟩ := hr i x hx
      have hmx : Hid (p x = true → xs.any p = true) := Lib.hid fun hf => by
        rw [List.any_eq_true]
        exact ⟨x, List.mem_of_getElem? hx, hf⟩
      have hmy : Hid (p x = false → ∀ z ∈ xs.take (i + 1), p z = false) := Lib.hid fun hf z hz => by
        rw [List.take_add_one, hx] at hz
        simp at hz
        rcases hz with hz | rfl
        · exact hall.out z hz
        · exact hf
      have hc := hO.out w x
      clear hr hA2 hx
      cases hm : p x
      · rw [hm] at hc
        have hC := Lib.hid hc
        have hM := Lib.hid (hmy.out hm)
        clear hc hm hmy hmx
        go_wp2_with fail
        refine (hC.out).mono ?_
        rintro e w1 ⟨rfl, rfl⟩
        go_wp2
        go_roundg (xs.length - (i + 1))
        case measure => omega
        case rel => exact ⟨i + 1, by simp, by omega, hM, rfl⟩
      · rw [hm] at hc
        have hC := Lib.hid hc
        have hM := Lib.hid (hmx.out hm)
        clear hc hm hmy hmx
        go_wp2_with fail
        refine (hC.out).mono ?_
        rintro e w1 ⟨rfl, rfl⟩
        go_wp2
        go_ret
        exact hP.out _ ⟨fun _ => hM.out, fun _ => by omega⟩
    · have hie : i = xs.length := by omega
      subst hie
      have hall' := hall.out
      rw [List.take_length] at hall'
      have hA := Lib.hid hall'
      clear hall'
      go_wp2
      go_ret
      exact hP.out _ ⟨fun h => by omega, fun h => by
        obtain ⟨x, hx, hm⟩ := List.any_eq_true.1 h
        rw [hA.out x hx] at hm
        cases hm⟩
set_option maxHeartbeats 1000000 in
theorem con73_any (p : Int → Bool) (hF : ∀ W x, Calls Tryz.prog 73 #[.int .i64 x] W (BoolPost (p x) W)) {v : Value} {xs : List Int} (h : ReadsI w v xs) (hl : xs.length ≤ 9223372036854775807) :
    Calls Tryz.prog 76 #[v, .func (.func 73) #[] #[]] w (BoolPost (xs.any p) w) := by
  have hI := Lib.hid (idx73_any w p hF h hl)
  have hP : Hid (∀ b, xs.any p = b → BoolPost (xs.any p) w (.returned (.bool b)) w) := Lib.hid fun b hb => ⟨by rw [hb], rfl⟩
  go_enter Tryz.func76, Tryz.ntmps76
  go_wp2_with (go_at_call 96; refine hI.out.mono ?_; rintro e w1 ⟨n, rfl, hn, rfl⟩; have hN := Lib.hid hn; clear hn)
  go_ret
  refine hP.out _ ?_
  rw [Bool.eq_iff_iff, ← hN.out, decide_eq_true_iff]
set_option maxHeartbeats 1000000 in
theorem con74_any (p : Int → Bool) (hF : ∀ W x, Calls Tryz.prog 74 #[.int .i64 x] W (BoolPost (p x) W)) {v : Value} {xs : List Int} (h : ReadsI w v xs) (hl : xs.length ≤ 9223372036854775807) :
    Calls Tryz.prog 76 #[v, .func (.func 74) #[] #[]] w (BoolPost (xs.any p) w) := by
  have hI := Lib.hid (idx74_any w p hF h hl)
  have hP : Hid (∀ b, xs.any p = b → BoolPost (xs.any p) w (.returned (.bool b)) w) := Lib.hid fun b hb => ⟨by rw [hb], rfl⟩
  go_enter Tryz.func76, Tryz.ntmps76
  go_wp2_with (go_at_call 96; refine hI.out.mono ?_; rintro e w1 ⟨n, rfl, hn, rfl⟩; have hN := Lib.hid hn; clear hn)
  go_ret
  refine hP.out _ ?_
  rw [Bool.eq_iff_iff, ← hN.out, decide_eq_true_iff]
set_option maxHeartbeats 1000000 in
theorem con75_any (p : Int → Bool) (hF : ∀ W x, Calls Tryz.prog 75 #[.int .i64 x] W (BoolPost (p x) W)) {v : Value} {xs : List Int} (h : ReadsI w v xs) (hl : xs.length ≤ 9223372036854775807) :
    Calls Tryz.prog 76 #[v, .func (.func 75) #[] #[]] w (BoolPost (xs.any p) w) := by
  have hI := Lib.hid (idx75_any w p hF h hl)
  have hP : Hid (∀ b, xs.any p = b → BoolPost (xs.any p) w (.returned (.bool b)) w) := Lib.hid fun b hb => ⟨by rw [hb], rfl⟩
  go_enter Tryz.func76, Tryz.ntmps76
  go_wp2_with (go_at_call 96; refine hI.out.mono ?_; rintro e w1 ⟨n, rfl, hn, rfl⟩; have hN := Lib.hid hn; clear hn)
  go_ret
  refine hP.out _ ?_
  rw [Bool.eq_iff_iff, ← hN.out, decide_eq_true_iff]
def wrongM (t : Int) (xs : List Int) : Int :=
  if t < 0 ∨ xs.length = 0 ∨ (xs.any fun x => decide (x < 0)) = true then 1
  else if 1099511627776 < t ∨ (xs.any fun x => decide (1099511627776 < x)) = true ∨ 4096 < xs.length then 3
  else if 0 < t ∧ (xs.any fun x => decide (0 < x)) = false then 4 else 0
theorem wrong_cases (t : Int) (xs : List Int) (b1 b2 b3 : Bool) (h1 : (xs.any fun x => decide (x < 0)) = b1) (h2 : (xs.any fun x => decide (1099511627776 < x)) = b2) (h3 : (xs.any fun x => decide (0 < x)) = b3) :
    (t < 0 ∧ wrongM t xs = 1) ∨ (¬ t < 0 ∧ xs.length = 0 ∧ wrongM t xs = 1) ∨ (¬ t < 0 ∧ xs.length ≠ 0 ∧ b1 = true ∧ wrongM t xs = 1) ∨ (¬ t < 0 ∧ xs.length ≠ 0 ∧ b1 = false ∧ 1099511627776 < t ∧ wrongM t xs = 3) ∨
    (¬ t < 0 ∧ xs.length ≠ 0 ∧ b1 = false ∧ ¬ 1099511627776 < t ∧ b2 = true ∧ wrongM t xs = 3) ∨ (¬ t < 0 ∧ xs.length ≠ 0 ∧ b1 = false ∧ ¬ 1099511627776 < t ∧ b2 = false ∧ 4096 < xs.length ∧ wrongM t xs = 3) ∨
    (¬ t < 0 ∧ xs.length ≠ 0 ∧ b1 = false ∧ ¬ 1099511627776 < t ∧ b2 = false ∧ ¬ 4096 < xs.length ∧ 0 < t ∧ b3 = false ∧ wrongM t xs = 4) ∨
    (¬ t < 0 ∧ xs.length ≠ 0 ∧ b1 = false ∧ ¬ 1099511627776 < t ∧ b2 = false ∧ ¬ 4096 < xs.length ∧ 0 < t ∧ b3 = true ∧ wrongM t xs = 0) ∨
    (¬ t < 0 ∧ xs.length ≠ 0 ∧ b1 = false ∧ ¬ 1099511627776 < t ∧ b2 = false ∧ ¬ 4096 < xs.length ∧ ¬ 0 < t ∧ wrongM t xs = 0) := by
  subst h1 h2 h3
  unfold wrongM
  by_cases q1 : t < 0
  · simp [q1]
  · by_cases q2 : xs.length = 0
    · simp [q1, q2]
    · have qe : ¬ xs = [] := by simpa using q2
      cases q3 : (xs.any fun x => decide (x < 0))
      · by_cases q4 : 1099511627776 < t
        · simp only [q1, q2, q4]; simp [qe]
        · cases q5 : (xs.any fun x => decide (1099511627776 < x))
          · by_cases q6 : 4096 < xs.length
            · simp only [q1, q2, q4, q6]; simp [qe]
            · by_cases q7 : 0 < t
              · cases q8 : (xs.any fun x => decide (0 < x))
                · simp only [q1, q2, q4, q6, q7]; simp [qe]
                · simp only [q1, q2, q4, q6, q7]; simp [qe]
              · simp only [q1, q2, q4, q6, q7]; simp [qe]
          · simp only [q1, q2, q4]; simp [qe]
      · simp only [q1, q2]; simp [qe]
def NumPost (n : Int) (w : World) (e : Ending) (w' : World) : Prop := e = .returned (.int .i64 n) ∧ w = w'
set_option maxHeartbeats 2000000 in
theorem wrong_any (t : Int) {v : Value} {xs : List Int} (h : ReadsI w v xs) (hl : xs.length ≤ 9223372036854775807) : Calls Tryz.prog 41 #[.int .i64 t, v] w (NumPost (wrongM t xs) w) := by
  have c1 := con73_any w _ (fun W x => below_any W x) h hl
  have c2 := con74_any w _ (fun W x => above_any W x) h hl
  have c3 := con75_any w _ (fun W x => some_any W x) h hl
  have hd := fun b1 b2 b3 h1 h2 h3 => wrong_cases t xs b1 b2 b3 h1 h2 h3
  generalize h1 : (xs.any fun x => decide (x < 0)) = b1 at *
  generalize h2 : (xs.any fun x => decide (1099511627776 < x)) = b2 at *
  generalize h3 : (xs.any fun x => decide (0 < x)) = b3 at *
  have hd := hd b1 b2 b3 rfl rfl rfl
  have hP : Hid (∀ n, wrongM t xs = n → NumPost (wrongM t xs) w (.returned (.int .i64 n)) w) := Lib.hid fun n hn => ⟨by rw [hn], rfl⟩
  generalize wrongM t xs = r at *
  obtain ⟨A, c, rfl, _⟩ := h
  clear h1 h2 h3
  rcases hd with ⟨q1, h⟩ | ⟨q1, q2, h⟩ | ⟨q1, q2, rfl, h⟩ | ⟨q1, q2, rfl, q4, h⟩ | ⟨q1, q2, rfl, q4, rfl, h⟩ | ⟨q1, q2, rfl, q4, rfl, q6, h⟩ | ⟨q1, q2, rfl, q4, rfl, q6, q7, rfl, h⟩ | ⟨q1, q2, rfl, q4, rfl, q6, q7, rfl, h⟩ | ⟨q1, q2, rfl, q4, rfl, q6, q7, h⟩
  all_goals
    have H := Lib.hid h
    have C1 := Lib.hid c1
    have C2 := Lib.hid c2
    have C3 := Lib.hid c3
    clear h c1 c2 c3
    go_enter Tryz.func41, Tryz.ntmps41
    go_wp2_with (first
      | (go_at_call 76; refine C1.out.mono ?_; clear C1; rintro e w1 ⟨rfl, rfl⟩)
      | (go_at_call 76; refine C2.out.mono ?_; clear C2; rintro e w1 ⟨rfl, rfl⟩)
      | (go_at_call 76; refine C3.out.mono ?_; clear C3; rintro e w1 ⟨rfl, rfl⟩))
    go_ret
    exact hP.out _ H.out
end
end Go.Proofs.YteecfjkljmmecaaGreat
