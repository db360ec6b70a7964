/- WALKS: names of marks; may a claimant be; may claims be. -/
import Derived.Test.YteecfjkljmmecaaGreatRk
namespace Go.Proofs.YteecfjkljmmecaaGreat
open Go.RowKit Go.Sort Go.Shelf
def lowB (c : Int) : Bool := decide (97 ≤ c) && decide (c ≤ 122)
def digB (c : Int) : Bool := decide (48 ≤ c) && decide (c ≤ 57)
def chB (c : Int) : Bool := lowB c || digB c || c == 45
def nameB (s : ByteArray) : Bool := decide (1 ≤ s.size) && decide (s.size ≤ 16) && s.data.toList.all fun c => chB c.toNat
def BoolPost (b : Bool) (w : World) (e : Ending) (w' : World) : Prop := e = .returned (.bool b) ∧ w = w'
section
variable (w : World)
theorem low_any (c : Int) : Calls Tryz.prog 94 #[.int .u8 c] w (BoolPost (lowB c) w) := by
  have hd : (97 ≤ c ∧ c ≤ 122 ∧ lowB c = true) ∨ (97 ≤ c ∧ ¬ c ≤ 122 ∧ lowB c = false) ∨ (¬ 97 ≤ c ∧ lowB c = false) := by unfold lowB; by_cases h1 : 97 ≤ c <;> by_cases h2 : c ≤ 122 <;> simp [h1, h2]
  rcases hd with ⟨h1, h2, h⟩ | ⟨h1, h2, h⟩ | ⟨h1, h⟩
  all_goals
    have H := Lib.hid h
    clear h
    go_enter Tryz.func94, Tryz.ntmps94
    go_wp2
    go_ret
    exact ⟨by rw [H.out]; rfl, rfl⟩
theorem dig_any (c : Int) : Calls Tryz.prog 95 #[.int .u8 c] w (BoolPost (digB c) w) := by
  have hd : (48 ≤ c ∧ c ≤ 57 ∧ digB c = true) ∨ (48 ≤ c ∧ ¬ c ≤ 57 ∧ digB c = false) ∨ (¬ 48 ≤ c ∧ digB c = false) := by unfold digB; by_cases h1 : 48 ≤ c <;> by_cases h2 : c ≤ 57 <;> simp [h1, h2]
  rcases hd with ⟨h1, h2, h⟩ | ⟨h1, h2, h⟩ | ⟨h1, h⟩
  all_goals
    have H := Lib.hid h
    clear h
    go_enter Tryz.func95, Tryz.ntmps95
    go_wp2
    go_ret
    exact ⟨by rw [H.out]; rfl, rfl⟩
theorem ch_any (c : Int) : Calls Tryz.prog 93 #[.int .u8 c] w (BoolPost (chB c) w) := by
  have hl := Lib.hid (fun W => low_any W c)
  have hg := Lib.hid (fun W => dig_any W c)
  have hc : chB c = (lowB c || digB c || c == 45) := rfl
  cases h1 : lowB c
  · cases h2 : digB c
    · cases h3 : (c == 45)
      all_goals
        rw [h1] at hl
        rw [h2] at hg
        rw [h1, h2, h3] at hc
        have H := Lib.hid hc
        clear hc
        clear h1 h2
        go_enter Tryz.func93, Tryz.ntmps93
        go_wp2_with (first
          | (go_at_call 94; refine (hl.out _).mono ?_; rintro e w' ⟨rfl, rfl⟩)
          | (go_at_call 95; refine (hg.out _).mono ?_; rintro e w' ⟨rfl, rfl⟩))
        go_ret
        exact ⟨by rw [H.out]; rfl, rfl⟩
    · rw [h1] at hl
      rw [h2] at hg
      rw [h1, h2] at hc
      have H := Lib.hid hc
      clear hc h1 h2
      go_enter Tryz.func93, Tryz.ntmps93
      go_wp2_with (first
        | (go_at_call 94; refine (hl.out _).mono ?_; rintro e w' ⟨rfl, rfl⟩)
        | (go_at_call 95; refine (hg.out _).mono ?_; rintro e w' ⟨rfl, rfl⟩))
      go_ret
      exact ⟨by rw [H.out]; rfl, rfl⟩
  · rw [h1] at hl hc
    have H := Lib.hid hc
    clear hc h1
    go_enter Tryz.func93, Tryz.ntmps93
    go_wp2_with (first
      | (go_at_call 94; refine (hl.out _).mono ?_; rintro e w' ⟨rfl, rfl⟩)
      | (go_at_call 95; refine (hg.out _).mono ?_; rintro e w' ⟨rfl, rfl⟩))
    go_ret
    exact ⟨by rw [H.out]; rfl, rfl⟩
def allB (s : ByteArray) : Bool := s.data.toList.all fun c => chB c.toNat
theorem allB_no {s : ByteArray} {k : Nat} (hk : k < s.size) (h : chB s[k].toNat = false) : allB s = false := by
  unfold allB
  rw [List.all_eq_false]
  exact ⟨s[k], by rw [Array.mem_toList_iff]; exact Array.getElem_mem (xs := s.data) hk, by simpa using h⟩
theorem allB_yes {s : ByteArray} (h : ∀ k (hk : k < s.size), chB s[k].toNat = true) : allB s = true := by
  unfold allB
  rw [List.all_eq_true]
  intro c hc
  rw [Array.mem_toList_iff] at hc
  obtain ⟨k, hk, rfl⟩ := Array.mem_iff_getElem.1 hc
  exact h k hk
set_option maxHeartbeats 1000000 in
theorem all_any (s : ByteArray) (hs : s.size ≤ 1000000) : Calls Tryz.prog 92 #[.string s, .func (.func 93) #[] #[]] w (BoolPost (allB s) w) := by
  have hC := Lib.hid (fun W c => ch_any W c)
  go_enter Tryz.func92, Tryz.ntmps92
  go_wp2
  go_loopg [8] (s.size) (fun g v8 wr => ∃ k : Nat, v8 = .int .i64 (k : Int) ∧ k + g = s.size ∧ Hid (∀ j (hj : j < s.size), j < k → chB s[j].toNat = true) ∧ w = wr)
  case atStart => exact ⟨0, rfl, by omega, Lib.hid (by omega), rfl⟩
  case round =>
    obtain ⟨k, rfl, hg, hall, rfl⟩ := hrel
    by_cases hk : k < s.size
    · cases hch : chB s[k].toNat
      · have H := Lib.hid (allB_no hk hch)
        have hC' := hC.out w s[k].toNat
        rw [hch] at hC'
        have hCk := Lib.hid hC'
        clear hch hC'
        go_wp2_with fail
        refine hCk.out.mono ?_
        rintro e w' ⟨rfl, rfl⟩
        go_wp2
        go_ret
        exact ⟨by rw [H.out]; rfl, rfl⟩
      · have H := Lib.hid hch
        have hC' := hC.out w s[k].toNat
        rw [hch] at hC'
        have hCk := Lib.hid hC'
        clear hch hC'
        go_wp2_with fail
        refine hCk.out.mono ?_
        rintro e w' ⟨rfl, rfl⟩
        go_wp2
        go_roundg (s.size - (k + 1))
        case measure => omega
        case rel => exact ⟨k + 1, by simp, by omega, Lib.hid fun j hj hlt => by
          by_cases e : j = k
          · subst e; exact H.out
          · exact hall.out j hj (by omega), rfl⟩
    · have H := Lib.hid (allB_yes fun j hj => hall.out j hj (by omega))
      go_wp2
      go_ret
      exact ⟨by rw [H.out]; rfl, rfl⟩
set_option maxHeartbeats 1000000 in
theorem name_any (s : ByteArray) (hs : s.size ≤ 9223372036854775807) : Calls Tryz.prog 72 #[.string s] w (BoolPost (nameB s) w) := by
  by_cases h1 : 1 ≤ s.size
  · by_cases h2 : s.size ≤ 16
    · have H : Hid (nameB s = allB s) := Lib.hid (by unfold nameB allB; simp [h1, h2])
      have hA := Lib.hid (fun W => all_any W s (by omega))
      go_enter Tryz.func72, Tryz.ntmps72
      go_wp2_with (first | (go_at_call 92; refine (hA.out _).mono ?_; rintro e w' ⟨rfl, rfl⟩))
      go_ret
      exact ⟨by rw [H.out]; rfl, rfl⟩
    · have H : Hid (nameB s = false) := Lib.hid (by unfold nameB; simp [h2])
      go_enter Tryz.func72, Tryz.ntmps72
      go_wp2
      go_ret
      exact ⟨by rw [H.out]; rfl, rfl⟩
  · have H : Hid (nameB s = false) := Lib.hid (by unfold nameB; simp [h1])
    go_enter Tryz.func72, Tryz.ntmps72
    go_wp2
    go_ret
    exact ⟨by rw [H.out]; rfl, rfl⟩
end
def mayB (c : Clm) : Bool := nameB c.name && (nameB c.thing && (decide (0 ≤ c.right) && (decide (c.right < 5) && (decide (0 ≤ c.day) && (decide (c.day ≤ 1048576) && (decide (0 ≤ c.amt) && decide (c.amt ≤ 1099511627776)))))))
def MayPost (b : Bool) (w : World) (e : Ending) (w' : World) : Prop := e = .returned (.bool b) ∧ Grows w w'
theorem may_cases (c : Clm) : (nameB c.name = false ∧ mayB c = false) ∨ (nameB c.name = true ∧ nameB c.thing = false ∧ mayB c = false) ∨ (nameB c.name = true ∧ nameB c.thing = true ∧ ¬ 0 ≤ c.right ∧ mayB c = false) ∨ (nameB c.name = true ∧ nameB c.thing = true ∧ 0 ≤ c.right ∧ ¬ c.right < 5 ∧ mayB c = false) ∨
    (nameB c.name = true ∧ nameB c.thing = true ∧ 0 ≤ c.right ∧ c.right < 5 ∧ ¬ 0 ≤ c.day ∧ mayB c = false) ∨ (nameB c.name = true ∧ nameB c.thing = true ∧ 0 ≤ c.right ∧ c.right < 5 ∧ 0 ≤ c.day ∧ ¬ c.day ≤ 1048576 ∧ mayB c = false) ∨
    (nameB c.name = true ∧ nameB c.thing = true ∧ 0 ≤ c.right ∧ c.right < 5 ∧ 0 ≤ c.day ∧ c.day ≤ 1048576 ∧ ¬ 0 ≤ c.amt ∧ mayB c = false) ∨ (nameB c.name = true ∧ nameB c.thing = true ∧ 0 ≤ c.right ∧ c.right < 5 ∧ 0 ≤ c.day ∧ c.day ≤ 1048576 ∧ 0 ≤ c.amt ∧ ¬ c.amt ≤ 1099511627776 ∧ mayB c = false) ∨
    (nameB c.name = true ∧ nameB c.thing = true ∧ 0 ≤ c.right ∧ c.right < 5 ∧ 0 ≤ c.day ∧ c.day ≤ 1048576 ∧ 0 ≤ c.amt ∧ c.amt ≤ 1099511627776 ∧ mayB c = true) := by
  unfold mayB
  cases nameB c.name
  · simp
  · cases nameB c.thing
    · simp
    · by_cases h0 : 0 ≤ c.right
      · by_cases h1 : c.right < 5
        · by_cases h2 : 0 ≤ c.day
          · by_cases h3 : c.day ≤ 1048576
            · by_cases h4 : 0 ≤ c.amt
              · by_cases h5 : c.amt ≤ 1099511627776 <;> simp [h0, h1, h2, h3, h4, h5]
              · simp [h0, h1, h2, h3, h4]
            · simp [h0, h1, h2, h3]
          · simp [h0, h1, h2]
        · simp [h0, h1]
      · simp [h0]
section
variable (w : World)
set_option maxHeartbeats 4000000 in
theorem may_any (c : Clm) (h1 : c.name.size ≤ 9223372036854775807) (h2 : c.thing.size ≤ 9223372036854775807) : Calls Tryz.prog 40 #[cVal c] w (MayPost (mayB c) w) := by
  have hN := Lib.hid (fun W => name_any W c.name h1)
  have hT := Lib.hid (fun W => name_any W c.thing h2)
  have hd := may_cases c
  have hP : Hid (∀ b W, mayB c = b → Grows w W → MayPost (mayB c) w (.returned (.bool b)) W) := Lib.hid fun b W hb h => ⟨by rw [hb], h⟩
  generalize mayB c = m at *
  generalize nameB c.name = n1 at *
  generalize nameB c.thing = n2 at *
  obtain ⟨a1, a2, a3, a4, a5⟩ := c
  simp only [cVal] at *
  rcases hd with ⟨rfl, h⟩ | ⟨rfl, rfl, h⟩ | ⟨rfl, rfl, q0, h⟩ | ⟨rfl, rfl, q0, q1, h⟩ | ⟨rfl, rfl, q0, q1, q2, h⟩ | ⟨rfl, rfl, q0, q1, q2, q3, h⟩ | ⟨rfl, rfl, q0, q1, q2, q3, q4, h⟩ | ⟨rfl, rfl, q0, q1, q2, q3, q4, q5, h⟩ | ⟨rfl, rfl, q0, q1, q2, q3, q4, q5, h⟩
  all_goals
    have H := Lib.hid h
    clear h
    go_enter Tryz.func40, Tryz.ntmps40
    go_wp2_with (first
      | (go_at_call 72; refine (hN.out _).mono ?_; clear hN; rintro e w' ⟨rfl, rfl⟩)
      | (go_at_call 72; refine (hT.out _).mono ?_; clear hT; rintro e w' ⟨rfl, rfl⟩))
    go_ret
    first
      | exact hP.out _ _ H.out ((Grows.refl w).alloc _)
      | exact hP.out _ _ (by rw [H.out]; symm; simp; omega) ((Grows.refl w).alloc _)
set_option maxHeartbeats 1000000 in
theorem odd_any (c : Clm) (h1 : c.name.size ≤ 9223372036854775807) (h2 : c.thing.size ≤ 9223372036854775807) : Calls Tryz.prog 39 #[cVal c] w (MayPost (!mayB c) w) := by
  have hM := Lib.hid (fun W => may_any W c h1 h2)
  have hP : Hid (∀ W, Grows w W → MayPost (!mayB c) w (.returned (.bool !mayB c)) W) := Lib.hid fun W h => ⟨rfl, h⟩
  generalize mayB c = m at *
  obtain ⟨a1, a2, a3, a4, a5⟩ := c
  simp only [cVal] at *
  go_enter Tryz.func39, Tryz.ntmps39
  go_wp2_with (first | (go_at_call 40; refine (hM.out _).mono ?_; rintro e w' ⟨rfl, hg⟩))
  go_ret
  exact hP.out _ (((Grows.refl w).alloc _).trans hg)
theorem ReadsC.cells {v : Value} {xs : List Clm} (h : ReadsC w v xs) : ∃ A c, v = .slice A xs.length c ∧ ∀ i x, xs[i]? = some x → ∃ b off, A = some ⟨b, off, none⟩ ∧ w.cell? ⟨b, off + i * 5, none⟩ = some (.string x.name) ∧ w.cell? ⟨b, off + i * 5 + 1, none⟩ = some (.string x.thing) ∧ w.cell? ⟨b, off + i * 5 + 2, none⟩ = some (.int .i64 x.right) ∧
    w.cell? ⟨b, off + i * 5 + 3, none⟩ = some (.int .i64 x.day) ∧ w.cell? ⟨b, off + i * 5 + 4, none⟩ = some (.int .i64 x.amt) := by
  obtain ⟨A, c, rfl, hc⟩ := h
  refine ⟨A, c, rfl, fun i x hx => ?_⟩
  have hlt : i < xs.length := (List.getElem?_eq_some_iff.1 hx).1
  obtain ⟨b, off, rfl, hr⟩ := hc (by omega)
  have hg : xs[i]! = x := by rw [getElem!_pos xs i hlt]; rw [List.getElem?_eq_getElem hlt] at hx; injection hx
  have key : ∀ k (u : Value), k < 5 → (cEnc x)[k]? = some u → w.cell? ⟨b, off + i * 5 + k, none⟩ = some u := fun k u hk hu => by
    rw [Nat.add_assoc]
    refine hr (i * 5 + k) u ?_
    rw [flat_at cEnc_len (by decide) xs (i * 5 + k) (by omega), show (i * 5 + k) / 5 = i by omega, show (i * 5 + k) % 5 = k by omega, hg]
    have hk' : k < (cEnc x).length := hk
    rw [getElem!_pos (cEnc x) k hk', ← hu, List.getElem?_eq_getElem hk']
  exact ⟨b, off, rfl, key 0 _ (by decide) rfl, key 1 _ (by decide) rfl, key 2 _ (by decide) rfl, key 3 _ (by decide) rfl, key 4 _ (by decide) rfl⟩
def Short (xs : List Clm) : Prop := ∀ x ∈ xs, x.name.size ≤ 9223372036854775807 ∧ x.thing.size ≤ 9223372036854775807
def IdxPost (xs : List Clm) (w : World) (e : Ending) (w' : World) : Prop := ∃ n : Int, e = .returned (.int .i64 n) ∧ (0 ≤ n ↔ (xs.any fun c => !mayB c) = true) ∧ Grows w w'
set_option maxHeartbeats 4000000 in
theorem idx_any {v : Value} {xs : List Clm} (h : ReadsC w v xs) (hs : Short xs) (hl : xs.length ≤ 9223372036854775807) : Calls Tryz.prog 71 #[v, .func (.func 39) #[] #[]] w (IdxPost xs w) := by
  have hX := Lib.hid h
  have hS := Lib.hid hs
  have hP : Hid (∀ n W, (0 ≤ n ↔ (xs.any fun c => !mayB c) = true) → Grows w W → IdxPost xs w (.returned (.int .i64 n)) W) := Lib.hid fun n W hn h => ⟨n, rfl, hn, h⟩
  obtain ⟨A, c, rfl, _⟩ := h
  clear hs
  go_enter Tryz.func71, Tryz.ntmps71
  go_wp2
  go_loopg [8] (xs.length) (fun g v8 wr => ∃ i : Nat, v8 = .int .i64 (i : Int) ∧ i + g = xs.length ∧ Hid (∀ x ∈ xs.take i, mayB x = true) ∧ Grows w wr)
  case atStart => exact ⟨0, rfl, by omega, Lib.hid (by simp), Grows.refl _⟩
  case round =>
    obtain ⟨i, rfl, hg, hall, hgr⟩ := hrel
    by_cases hi : i < xs.length
    · obtain ⟨x, hx⟩ : ∃ x, xs[i]? = some x := ⟨xs[i], List.getElem?_eq_getElem hi⟩
      obtain ⟨A', c', hA', hr⟩ := ReadsC.cells wr (hX.out.quiet hgr.only)
      injection hA' with hA1 hA2 hA3
      subst hA1 hA3
      obtain ⟨b, off, rfl, k0, k1, k2, k3, k4⟩ := hr i x hx
      have hsx := hS.out x (List.mem_of_getElem? hx)
      have hO := Lib.hid (fun W => odd_any W x hsx.1 hsx.2)
      have hXI := Lib.hid hx
      have hmx : Hid (∀ y, y = mayB x → y = false → (xs.any fun c => !mayB c) = true) := Lib.hid fun y hy hf => by
        rw [List.any_eq_true]
        exact ⟨x, List.mem_of_getElem? hx, by rw [← hy, hf]; rfl⟩
      have hmy : Hid (∀ y, y = mayB x → y = true → ∀ z ∈ xs.take (i + 1), mayB z = true) := Lib.hid fun y hy hf z hz => by
        rw [List.take_add_one, hx] at hz
        simp at hz
        rcases hz with hz | rfl
        · exact hall.out z hz
        · rw [← hy, hf]
      generalize hm : mayB x = m at *
      have hM := Lib.hid hm
      obtain ⟨a1, a2, a3, a4, a5⟩ := x
      simp only [cVal] at k0 k1 k2 k3 k4 hO
      clear hr hA2 hsx hx hm
      cases m
      · go_wp2_with fail
        refine (hO.out _).mono ?_
        rintro e w1 ⟨rfl, hg1⟩
        go_wp2
        go_ret
        exact hP.out _ _ ⟨fun _ => hmx.out _ rfl rfl, fun _ => by omega⟩ (hgr.trans hg1)
      · go_wp2_with fail
        refine (hO.out _).mono ?_
        rintro e w1 ⟨rfl, hg1⟩
        go_wp2
        go_roundg (xs.length - (i + 1))
        case measure => omega
        case rel => exact ⟨i + 1, by simp, by omega, Lib.hid (hmy.out _ rfl rfl), hgr.trans hg1⟩
    · have hie : i = xs.length := by omega
      subst hie
      have hall' := hall.out
      rw [List.take_length] at hall'
      have hA := Lib.hid hall'
      clear hall'
      go_wp2
      go_ret
      exact hP.out _ _ ⟨fun h => by omega, fun h => by
        obtain ⟨x, hx, hm⟩ := List.any_eq_true.1 h
        rw [hA.out x hx] at hm
        cases hm⟩ hgr
def allM (xs : List Clm) : Int := if (xs.any fun c => !mayB c) = true then 1 else if 4096 < xs.length then 7 else 0
set_option maxHeartbeats 1000000 in
theorem has_any {v : Value} {xs : List Clm} (h : ReadsC w v xs) (hs : Short xs) (hl : xs.length ≤ 9223372036854775807) : Calls Tryz.prog 38 #[v, .func (.func 39) #[] #[]] w (MayPost (xs.any fun c => !mayB c) w) := by
  have hI := Lib.hid (fun W (hg : Grows w W) => idx_any W (h.quiet hg.only) hs hl)
  have hP : Hid (∀ b W, (xs.any fun c => !mayB c) = b → Grows w W → MayPost (xs.any fun c => !mayB c) w (.returned (.bool b)) W) := Lib.hid fun b W hb h => ⟨by rw [hb], h⟩
  go_enter Tryz.func38, Tryz.ntmps38
  go_wp2_with (go_at_call 71; have hc := hI.out _ (Grows.refl _); refine hc.mono ?_; clear hc; rintro e w1 ⟨n, rfl, hn, hg⟩; have hN := Lib.hid hn; clear hn)
  go_ret
  refine hP.out _ _ ?_ hg
  rw [Bool.eq_iff_iff, ← hN.out, decide_eq_true_iff]
def AllPost (xs : List Clm) (w : World) (e : Ending) (w' : World) : Prop := e = .returned (.int .i64 (allM xs)) ∧ Grows w w'
set_option maxHeartbeats 1000000 in
theorem claims_any {v : Value} {xs : List Clm} (h : ReadsC w v xs) (hs : Short xs) (hl : xs.length ≤ 9223372036854775807) : Calls Tryz.prog 29 #[v] w (AllPost xs w) := by
  have hI := Lib.hid (fun W (hg : Grows w W) => has_any W (h.quiet hg.only) hs hl)
  have hP : Hid (∀ n W, allM xs = n → Grows w W → AllPost xs w (.returned (.int .i64 n)) W) := Lib.hid fun n W hn h => ⟨by rw [hn], h⟩
  have hd : ((xs.any fun c => !mayB c) = true ∧ allM xs = 1) ∨ ((xs.any fun c => !mayB c) = false ∧ 4096 < xs.length ∧ allM xs = 7) ∨ ((xs.any fun c => !mayB c) = false ∧ ¬ 4096 < xs.length ∧ allM xs = 0) := by
    unfold allM
    cases (xs.any fun c => !mayB c)
    · by_cases h : 4096 < xs.length <;> simp [h]
    · simp
  obtain ⟨A, c, rfl, _⟩ := h
  generalize (xs.any fun c => !mayB c) = m at *
  generalize allM xs = r at *
  rcases hd with ⟨rfl, h⟩ | ⟨rfl, h1, h⟩ | ⟨rfl, h1, h⟩
  all_goals
    have H := Lib.hid h
    clear h
    go_enter Tryz.func29, Tryz.ntmps29
    go_wp2_with (first | (go_at_call 38; have hc := hI.out _ (Grows.refl _); refine hc.mono ?_; clear hc; rintro e w1 ⟨rfl, hg⟩))
    go_ret
    exact hP.out _ _ H.out hg
end
end Go.Proofs.YteecfjkljmmecaaGreat
