/- WALKS: the first ground that tells two apart; Better; Why; the closure by which claimants are ranked. -/
import Derived.Test.YteecfjkljmmecaaGreatBe
import Derived.Laws.EntriesVeiled
namespace Go.Proofs.YteecfjkljmmecaaGreat
open Go.RowKit Go.Sort
/-- How two are told apart, ground by ground. -/
def c0 (a b : Clm) : Int := icmp a.right b.right
def c1 (a b : Clm) : Int := icmp a.day b.day
def c2 (a b : Clm) : Int := scmp a.name b.name
def c3 (a b : Clm) : Int := icmp b.amt a.amt
def c4 (a b : Clm) : Int := scmp a.thing b.thing
def firstM (a b : Clm) : ByteArray × Int := if c0 a b ≠ 0 then (tRight, c0 a b) else if c1 a b ≠ 0 then (tDay, c1 a b) else if c2 a b ≠ 0 then (tName, c2 a b) else if c3 a b ≠ 0 then (tAmount, c3 a b) else if c4 a b ≠ 0 then (tThing, c4 a b) else (tSame, 0)
def FirstPost (a b : Clm) (w : World) (e : Ending) (w' : World) : Prop := e = .returned (.tuple #[.string (firstM a b).1, .int .i64 (firstM a b).2]) ∧ Grows w w'
theorem first_0 {a b : Clm} (h : c0 a b ≠ 0) : firstM a b = (tRight, c0 a b) := by unfold firstM; rw [if_pos h]
theorem first_1 {a b : Clm} (h0 : c0 a b = 0) (h : c1 a b ≠ 0) : firstM a b = (tDay, c1 a b) := by unfold firstM; rw [if_neg (by simp [h0]), if_pos h]
theorem first_2 {a b : Clm} (h0 : c0 a b = 0) (h1 : c1 a b = 0) (h : c2 a b ≠ 0) : firstM a b = (tName, c2 a b) := by unfold firstM; rw [if_neg (by simp [h0]), if_neg (by simp [h1]), if_pos h]
theorem first_3 {a b : Clm} (h0 : c0 a b = 0) (h1 : c1 a b = 0) (h2 : c2 a b = 0) (h : c3 a b ≠ 0) : firstM a b = (tAmount, c3 a b) := by unfold firstM; rw [if_neg (by simp [h0]), if_neg (by simp [h1]), if_neg (by simp [h2]), if_pos h]
theorem first_4 {a b : Clm} (h0 : c0 a b = 0) (h1 : c1 a b = 0) (h2 : c2 a b = 0) (h3 : c3 a b = 0) (h : c4 a b ≠ 0) : firstM a b = (tThing, c4 a b) := by unfold firstM; rw [if_neg (by simp [h0]), if_neg (by simp [h1]), if_neg (by simp [h2]), if_neg (by simp [h3]), if_pos h]
theorem first_5 {a b : Clm} (h0 : c0 a b = 0) (h1 : c1 a b = 0) (h2 : c2 a b = 0) (h3 : c3 a b = 0) (h4 : c4 a b = 0) : firstM a b = (tSame, 0) := by unfold firstM; rw [if_neg (by simp [h0]), if_neg (by simp [h1]), if_neg (by simp [h2]), if_neg (by simp [h3]), if_neg (by simp [h4])]
/-- All grounds ahead of k tell nothing. -/
def Till (a b : Clm) (k : Nat) : Prop := (0 < k → c0 a b = 0) ∧ (1 < k → c1 a b = 0) ∧ (2 < k → c2 a b = 0) ∧ (3 < k → c3 a b = 0) ∧ (4 < k → c4 a b = 0)
theorem block_cells {w : World} {g : Nat} {cs : Array Value} {t : TypeId} (h : w.heap[g]? = some (.cells cs t (0, 0))) (i : Nat) (u : Value) (hu : cs[i]? = some u) : w.cell? ⟨g, i, none⟩ = some u := by
  simp only [World.cell?, h]
  simpa using hu
theorem boxes_at (w : World) {w1 : World} {A B : Array Value} (h : w1 = ((w.alloc (.cells A 23)).alloc (.cells B 23)).alloc (.cells gCells 72)) :
    Grows w w1 ∧ w1.heap[w.heap.size]? = some (.cells A 23 (0, 0)) ∧ w1.heap[w.heap.size + 1]? = some (.cells B 23 (0, 0)) ∧ w1.heap[w.heap.size + 1 + 1]? = some (.cells gCells 72 (0, 0)) := by
  subst h
  refine ⟨(((Grows.refl w).alloc _).alloc _).alloc _, ?_, ?_, ?_⟩
  · exact ((((Grows.refl (w.alloc _)).alloc _).alloc _).only).heap (heap_alloc_new w _) not_false
  · have := (((Grows.refl ((w.alloc (.cells A 23)).alloc (.cells B 23))).alloc (.cells gCells 72)).only).heap (heap_alloc_new (w.alloc (.cells A 23)) (.cells B 23)) not_false
    simpa using this
  · have := heap_alloc_new ((w.alloc (.cells A 23)).alloc (.cells B 23)) (.cells gCells 72)
    simpa using this
section
variable (a b : Clm) (w : World)
set_option maxHeartbeats 4000000 in
set_option maxRecDepth 100000 in
theorem first_any : Calls Tryz.prog 25 #[cVal a, cVal b] w (FirstPost a b w) := by
  have hG := Lib.hid (fun W => grounds_any W)
  have h0 := Lib.hid (fun W => (g54 a b W).mono (R' := GrowPost (c0 a b) W) fun _ _ h => h)
  have h1 := Lib.hid (fun W => (g55 a b W).mono (R' := GrowPost (c1 a b) W) fun _ _ h => h)
  have h2 := Lib.hid (fun W => (g56 a b W).mono (R' := GrowPost (c2 a b) W) fun _ _ h => h)
  have h3 := Lib.hid (fun W => (g58 a b W).mono (R' := GrowPost (c3 a b) W) fun _ _ h => h)
  have h4 := Lib.hid (fun W => (g60 a b W).mono (R' := GrowPost (c4 a b) W) fun _ _ h => h)
  have f0 := Lib.hid (@first_0 a b)
  have f1 := Lib.hid (@first_1 a b)
  have f2 := Lib.hid (@first_2 a b)
  have f3 := Lib.hid (@first_3 a b)
  have f4 := Lib.hid (@first_4 a b)
  have f5 := Lib.hid (@first_5 a b)
  have hT0 : Hid (Till a b 0) := Lib.hid ⟨by omega, by omega, by omega, by omega, by omega⟩
  have hTS : Hid (∀ k n, Till a b k → ((k = 0 ∧ n = c0 a b) ∨ (k = 1 ∧ n = c1 a b) ∨ (k = 2 ∧ n = c2 a b) ∨ (k = 3 ∧ n = c3 a b) ∨ (k = 4 ∧ n = c4 a b)) → n = 0 → Till a b (k + 1)) := Lib.hid (by
    intro k n ⟨t0, t1, t2, t3, t4⟩ hk hn
    rcases hk with ⟨rfl, rfl⟩ | ⟨rfl, rfl⟩ | ⟨rfl, rfl⟩ | ⟨rfl, rfl⟩ | ⟨rfl, rfl⟩ <;> exact ⟨by first | (intro _; exact hn) | (intro h; omega) | (intro _; exact t0 (by omega)), by first | (intro _; exact hn) | (intro h; omega) | (intro _; exact t1 (by omega)), by first | (intro _; exact hn) | (intro h; omega) | (intro _; exact t2 (by omega)), by first | (intro _; exact hn) | (intro h; omega) | (intro _; exact t3 (by omega)), by first | (intro _; exact hn) | (intro h; omega) | (intro _; exact t4 (by omega))⟩)
  have hTE : Hid (∀ k, Till a b k → (0 < k → c0 a b = 0) ∧ (1 < k → c1 a b = 0) ∧ (2 < k → c2 a b = 0) ∧ (3 < k → c3 a b = 0) ∧ (4 < k → c4 a b = 0)) := Lib.hid fun k h => h
  generalize c0 a b = n0 at *
  generalize c1 a b = n1 at *
  generalize c2 a b = n2 at *
  generalize c3 a b = n3 at *
  generalize c4 a b = n4 at *
  have hFP : Hid (∀ t n W, firstM a b = (t, n) → Grows w W → FirstPost a b w (.returned (.tuple #[.string t, .int .i64 n])) W) := Lib.hid fun t n W hf hg => ⟨by rw [hf], hg⟩
  generalize FirstPost a b w = Post at *
  generalize firstM a b = fm at *
  generalize Till a b = till at *
  obtain ⟨a1, a2, a3, a4, a5⟩ := a
  obtain ⟨b1, b2, b3, b4, b5⟩ := b
  simp only [cVal] at *
  go_enter Tryz.func25, Tryz.ntmps25
  go_wp2_with (first | (go_at_call 35; refine (hG.out _).mono ?_; rintro e w1 ⟨rfl, hw1⟩; obtain ⟨hg0, hA, hB, hC⟩ := boxes_at w hw1; clear hw1))
  have hsz : ∀ W, Grows w1 W → w.heap.size + 1 < W.heap.size := fun W h => by have := h.only.size; have := (Array.getElem?_eq_some_iff.1 hC).1; omega
  go_loopg [11] (5) (fun g v11 wr => ∃ k : Nat, v11 = .int .i64 (k : Int) ∧ k + g = 5 ∧ Hid (till k) ∧ Grows w1 wr)
  case atStart => exact ⟨0, rfl, by omega, hT0, Grows.refl _⟩
  case round =>
    obtain ⟨k, rfl, hg, ht, hgr⟩ := hrel
    have bA := block_cells (hgr.only.heap hA not_false)
    have bB := block_cells (hgr.only.heap hB not_false)
    have bC := block_cells (hgr.only.heap hC not_false)
    by_cases hk : k < 5
    · have hk' : k = 0 ∨ k = 1 ∨ k = 2 ∨ k = 3 ∨ k = 4 := by omega
      rcases hk' with rfl | rfl | rfl | rfl | rfl
      · have d0 : wr.cell? ⟨w.heap.size + 1 + 1, 0, none⟩ = some (.string tRight) := bC 0 _ rfl
        have d1 : wr.cell? ⟨w.heap.size + 1 + 1, 1, none⟩ = some (.func (.func 54) #[] #[]) := bC 1 _ rfl
        have x0 := bA 0 _ rfl
        have x1 := bA 1 _ rfl
        have x2 := bA 2 _ rfl
        have x3 := bA 3 _ rfl
        have x4 := bA 4 _ rfl
        have y0 := bB 0 _ rfl
        have y1 := bB 1 _ rfl
        have y2 := bB 2 _ rfl
        have y3 := bB 3 _ rfl
        have y4 := bB 4 _ rfl
        clear bA bB bC
        have hwz : w.heap.size + 1 < wr.heap.size := hsz wr hgr
        have hwz' : w.heap.size < wr.heap.size := by omega
        by_cases hn : n0 = 0
        · have hb : (n0 != 0) = false := by simpa using hn
          have HN := Lib.hid hn
          clear hn
          go_wp2_with fail
          refine (h0.out _).mono ?_
          rintro e w2 ⟨rfl, hw2⟩
          go_wp2
          go_roundg (5 - (0 + 1))
          case measure => omega
          case rel => exact ⟨0 + 1, by simp, by omega, Lib.hid (hTS.out 0 n0 ht.out (by omega) HN.out), (hgr.alloc _).trans hw2⟩
        · have hb : (n0 != 0) = true := by simpa using hn
          have HN := Lib.hid hn
          clear hn
          go_wp2_with fail
          refine (h0.out _).mono ?_
          rintro e w2 ⟨rfl, hw2⟩
          have q0 : w2.cell? ⟨wr.heap.size, 0, none⟩ = some (.string tRight) := hw2.only.cellF (by go_simp)
          go_wp2
          obtain ⟨t0, t1, t2, t3, t4⟩ := hTE.out _ ht.out
          exact hFP.out _ _ _ (f0.out  HN.out) ((hg0.trans (hgr.alloc _)).trans hw2)
      · have d0 : wr.cell? ⟨w.heap.size + 1 + 1, 2, none⟩ = some (.string tDay) := bC 2 _ rfl
        have d1 : wr.cell? ⟨w.heap.size + 1 + 1, 3, none⟩ = some (.func (.func 55) #[] #[]) := bC 3 _ rfl
        have x0 := bA 0 _ rfl
        have x1 := bA 1 _ rfl
        have x2 := bA 2 _ rfl
        have x3 := bA 3 _ rfl
        have x4 := bA 4 _ rfl
        have y0 := bB 0 _ rfl
        have y1 := bB 1 _ rfl
        have y2 := bB 2 _ rfl
        have y3 := bB 3 _ rfl
        have y4 := bB 4 _ rfl
        clear bA bB bC
        have hwz : w.heap.size + 1 < wr.heap.size := hsz wr hgr
        have hwz' : w.heap.size < wr.heap.size := by omega
        by_cases hn : n1 = 0
        · have hb : (n1 != 0) = false := by simpa using hn
          have HN := Lib.hid hn
          clear hn
          go_wp2_with fail
          refine (h1.out _).mono ?_
          rintro e w2 ⟨rfl, hw2⟩
          go_wp2
          go_roundg (5 - (1 + 1))
          case measure => omega
          case rel => exact ⟨1 + 1, by simp, by omega, Lib.hid (hTS.out 1 n1 ht.out (by omega) HN.out), (hgr.alloc _).trans hw2⟩
        · have hb : (n1 != 0) = true := by simpa using hn
          have HN := Lib.hid hn
          clear hn
          go_wp2_with fail
          refine (h1.out _).mono ?_
          rintro e w2 ⟨rfl, hw2⟩
          have q0 : w2.cell? ⟨wr.heap.size, 0, none⟩ = some (.string tDay) := hw2.only.cellF (by go_simp)
          go_wp2
          obtain ⟨t0, t1, t2, t3, t4⟩ := hTE.out _ ht.out
          exact hFP.out _ _ _ (f1.out (t0 (by omega)) HN.out) ((hg0.trans (hgr.alloc _)).trans hw2)
      · have d0 : wr.cell? ⟨w.heap.size + 1 + 1, 4, none⟩ = some (.string tName) := bC 4 _ rfl
        have d1 : wr.cell? ⟨w.heap.size + 1 + 1, 5, none⟩ = some (.func (.func 56) #[] #[]) := bC 5 _ rfl
        have x0 := bA 0 _ rfl
        have x1 := bA 1 _ rfl
        have x2 := bA 2 _ rfl
        have x3 := bA 3 _ rfl
        have x4 := bA 4 _ rfl
        have y0 := bB 0 _ rfl
        have y1 := bB 1 _ rfl
        have y2 := bB 2 _ rfl
        have y3 := bB 3 _ rfl
        have y4 := bB 4 _ rfl
        clear bA bB bC
        have hwz : w.heap.size + 1 < wr.heap.size := hsz wr hgr
        have hwz' : w.heap.size < wr.heap.size := by omega
        by_cases hn : n2 = 0
        · have hb : (n2 != 0) = false := by simpa using hn
          have HN := Lib.hid hn
          clear hn
          go_wp2_with fail
          refine (h2.out _).mono ?_
          rintro e w2 ⟨rfl, hw2⟩
          go_wp2
          go_roundg (5 - (2 + 1))
          case measure => omega
          case rel => exact ⟨2 + 1, by simp, by omega, Lib.hid (hTS.out 2 n2 ht.out (by omega) HN.out), (hgr.alloc _).trans hw2⟩
        · have hb : (n2 != 0) = true := by simpa using hn
          have HN := Lib.hid hn
          clear hn
          go_wp2_with fail
          refine (h2.out _).mono ?_
          rintro e w2 ⟨rfl, hw2⟩
          have q0 : w2.cell? ⟨wr.heap.size, 0, none⟩ = some (.string tName) := hw2.only.cellF (by go_simp)
          go_wp2
          obtain ⟨t0, t1, t2, t3, t4⟩ := hTE.out _ ht.out
          exact hFP.out _ _ _ (f2.out (t0 (by omega)) (t1 (by omega)) HN.out) ((hg0.trans (hgr.alloc _)).trans hw2)
      · have d0 : wr.cell? ⟨w.heap.size + 1 + 1, 6, none⟩ = some (.string tAmount) := bC 6 _ rfl
        have d1 : wr.cell? ⟨w.heap.size + 1 + 1, 7, none⟩ = some (.func (.func 58) #[] #[]) := bC 7 _ rfl
        have x0 := bA 0 _ rfl
        have x1 := bA 1 _ rfl
        have x2 := bA 2 _ rfl
        have x3 := bA 3 _ rfl
        have x4 := bA 4 _ rfl
        have y0 := bB 0 _ rfl
        have y1 := bB 1 _ rfl
        have y2 := bB 2 _ rfl
        have y3 := bB 3 _ rfl
        have y4 := bB 4 _ rfl
        clear bA bB bC
        have hwz : w.heap.size + 1 < wr.heap.size := hsz wr hgr
        have hwz' : w.heap.size < wr.heap.size := by omega
        by_cases hn : n3 = 0
        · have hb : (n3 != 0) = false := by simpa using hn
          have HN := Lib.hid hn
          clear hn
          go_wp2_with fail
          refine (h3.out _).mono ?_
          rintro e w2 ⟨rfl, hw2⟩
          go_wp2
          go_roundg (5 - (3 + 1))
          case measure => omega
          case rel => exact ⟨3 + 1, by simp, by omega, Lib.hid (hTS.out 3 n3 ht.out (by omega) HN.out), (hgr.alloc _).trans hw2⟩
        · have hb : (n3 != 0) = true := by simpa using hn
          have HN := Lib.hid hn
          clear hn
          go_wp2_with fail
          refine (h3.out _).mono ?_
          rintro e w2 ⟨rfl, hw2⟩
          have q0 : w2.cell? ⟨wr.heap.size, 0, none⟩ = some (.string tAmount) := hw2.only.cellF (by go_simp)
          go_wp2
          obtain ⟨t0, t1, t2, t3, t4⟩ := hTE.out _ ht.out
          exact hFP.out _ _ _ (f3.out (t0 (by omega)) (t1 (by omega)) (t2 (by omega)) HN.out) ((hg0.trans (hgr.alloc _)).trans hw2)
      · have d0 : wr.cell? ⟨w.heap.size + 1 + 1, 8, none⟩ = some (.string tThing) := bC 8 _ rfl
        have d1 : wr.cell? ⟨w.heap.size + 1 + 1, 9, none⟩ = some (.func (.func 60) #[] #[]) := bC 9 _ rfl
        have x0 := bA 0 _ rfl
        have x1 := bA 1 _ rfl
        have x2 := bA 2 _ rfl
        have x3 := bA 3 _ rfl
        have x4 := bA 4 _ rfl
        have y0 := bB 0 _ rfl
        have y1 := bB 1 _ rfl
        have y2 := bB 2 _ rfl
        have y3 := bB 3 _ rfl
        have y4 := bB 4 _ rfl
        clear bA bB bC
        have hwz : w.heap.size + 1 < wr.heap.size := hsz wr hgr
        have hwz' : w.heap.size < wr.heap.size := by omega
        by_cases hn : n4 = 0
        · have hb : (n4 != 0) = false := by simpa using hn
          have HN := Lib.hid hn
          clear hn
          go_wp2_with fail
          refine (h4.out _).mono ?_
          rintro e w2 ⟨rfl, hw2⟩
          go_wp2
          go_roundg (5 - (4 + 1))
          case measure => omega
          case rel => exact ⟨4 + 1, by simp, by omega, Lib.hid (hTS.out 4 n4 ht.out (by omega) HN.out), (hgr.alloc _).trans hw2⟩
        · have hb : (n4 != 0) = true := by simpa using hn
          have HN := Lib.hid hn
          clear hn
          go_wp2_with fail
          refine (h4.out _).mono ?_
          rintro e w2 ⟨rfl, hw2⟩
          have q0 : w2.cell? ⟨wr.heap.size, 0, none⟩ = some (.string tThing) := hw2.only.cellF (by go_simp)
          go_wp2
          obtain ⟨t0, t1, t2, t3, t4⟩ := hTE.out _ ht.out
          exact hFP.out _ _ _ (f4.out (t0 (by omega)) (t1 (by omega)) (t2 (by omega)) (t3 (by omega)) HN.out) ((hg0.trans (hgr.alloc _)).trans hw2)
    · go_wp2
      obtain ⟨t0, t1, t2, t3, t4⟩ := hTE.out _ ht.out
      exact hFP.out _ _ _ (f5.out (t0 (by omega)) (t1 (by omega)) (t2 (by omega)) (t3 (by omega)) (t4 (by omega))) (hg0.trans hgr)
end
end Go.Proofs.YteecfjkljmmecaaGreat
