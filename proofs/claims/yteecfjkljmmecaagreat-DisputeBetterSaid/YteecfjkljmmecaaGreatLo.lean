/- WALK: the law DisputeOrders. -/
import Derived.Test.YteecfjkljmmecaaGreatAk
namespace Go.Proofs.YteecfjkljmmecaaGreat
open Go.RowKit Go.Sort Go.Shelf
attribute [local go_sem high] eqClm'
/-- A boxed claimant, read later. -/
theorem box_reads {w : World} {B : Nat} {c : Clm} (h : ∀ (j : Nat) u, (cEnc c)[j]? = some u → w.cell? ⟨B, j, none⟩ = some u) :
    (∀ W, Only (fun _ => False) w W → W.cell? ⟨B, 0, none⟩ = some (.string c.name)) ∧ (∀ W, Only (fun _ => False) w W → W.cell? ⟨B, 1, none⟩ = some (.string c.thing)) ∧ (∀ W, Only (fun _ => False) w W → W.cell? ⟨B, 2, none⟩ = some (.int .i64 c.right)) ∧
    (∀ W, Only (fun _ => False) w W → W.cell? ⟨B, 3, none⟩ = some (.int .i64 c.day)) ∧ (∀ W, Only (fun _ => False) w W → W.cell? ⟨B, 4, none⟩ = some (.int .i64 c.amt)) :=
  ⟨fun _ hW => hW.cellF (h 0 _ rfl), fun _ hW => hW.cellF (h 1 _ rfl), fun _ hW => hW.cellF (h 2 _ rfl), fun _ hW => hW.cellF (h 3 _ rfl), fun _ hW => hW.cellF (h 4 _ rfl)⟩
theorem box_new (w : World) (c : Clm) : ∀ (j : Nat) u, (cEnc c)[j]? = some u → (w.alloc (.cells #[.string c.name, .string c.thing, .int .i64 c.right, .int .i64 c.day, .int .i64 c.amt] 23)).cell? ⟨w.heap.size, j, none⟩ = some u := fun j u hj => by
  have : (#[.string c.name, .string c.thing, .int .i64 c.right, .int .i64 c.day, .int .i64 c.amt] : Array Value)[j]? = some u := by rw [← hj]; simp [cEnc]
  simpa using this
theorem boxes3 (w : World) (a b c : Clm) : (∀ (j : Nat) u, (cEnc a)[j]? = some u → (((w.alloc (.cells #[.string a.name, .string a.thing, .int .i64 a.right, .int .i64 a.day, .int .i64 a.amt] 23)).alloc (.cells #[.string b.name, .string b.thing, .int .i64 b.right, .int .i64 b.day, .int .i64 b.amt] 23)).alloc (.cells #[.string c.name, .string c.thing, .int .i64 c.right, .int .i64 c.day, .int .i64 c.amt] 23)).cell? ⟨w.heap.size, j, none⟩ = some u) ∧
    (∀ (j : Nat) u, (cEnc b)[j]? = some u → (((w.alloc (.cells #[.string a.name, .string a.thing, .int .i64 a.right, .int .i64 a.day, .int .i64 a.amt] 23)).alloc (.cells #[.string b.name, .string b.thing, .int .i64 b.right, .int .i64 b.day, .int .i64 b.amt] 23)).alloc (.cells #[.string c.name, .string c.thing, .int .i64 c.right, .int .i64 c.day, .int .i64 c.amt] 23)).cell? ⟨w.heap.size + 1, j, none⟩ = some u) ∧
    (∀ (j : Nat) u, (cEnc c)[j]? = some u → (((w.alloc (.cells #[.string a.name, .string a.thing, .int .i64 a.right, .int .i64 a.day, .int .i64 a.amt] 23)).alloc (.cells #[.string b.name, .string b.thing, .int .i64 b.right, .int .i64 b.day, .int .i64 b.amt] 23)).alloc (.cells #[.string c.name, .string c.thing, .int .i64 c.right, .int .i64 c.day, .int .i64 c.amt] 23)).cell? ⟨w.heap.size + 1 + 1, j, none⟩ = some u) := by
  refine ⟨fun j u hj => (((Only.refl (fun _ => False) _).alloc _).alloc _).cellF (box_new w a j u hj), fun j u hj => ((Only.refl (fun _ => False) _).alloc _).cellF ?_, fun j u hj => ?_⟩
  · have := box_new (w.alloc (.cells #[.string a.name, .string a.thing, .int .i64 a.right, .int .i64 a.day, .int .i64 a.amt] 23)) b j u hj
    simpa only [World.size_alloc] using this
  · have := box_new ((w.alloc (.cells #[.string a.name, .string a.thing, .int .i64 a.right, .int .i64 a.day, .int .i64 a.amt] 23)).alloc (.cells #[.string b.name, .string b.thing, .int .i64 b.right, .int .i64 b.day, .int .i64 b.amt] 23)) c j u hj
    simpa only [World.size_alloc] using this
theorem own_reads {w : World} {base n c : Nat} {A : Option Addr} {xs : List Clm} (h : w.ownsRow base 23 5 (.slice A n c) n (xs.flatMap cEnc)) (hn : 0 < n) : ∃ g, A = some ⟨g, 0, none⟩ ∧ ∀ (j : Nat) u, (xs.flatMap cEnc)[j]? = some u → w.cell? ⟨g, j, none⟩ = some u := by
  rcases h.2 with ⟨_, h0⟩ | ⟨g, cap, cur, he, hb, hh, h1, h2, h3, h4⟩
  · omega
  · injection he with he1 he2 he3
    refine ⟨g, he1, fun j u hj => ?_⟩
    rw [← h4, List.getElem?_take] at hj
    split at hj
    · simp only [World.cell?, hh]
      simpa using hj
    · cases hj
theorem order_ge (a b c : Clm) (h : 0 ≤ -cmpM a b) (k : 0 ≤ -cmpM b c) : 0 ≤ -cmpM a c := by
  apply Int.le_of_not_gt
  intro hn
  have h1 : ¬ cmpM b a < 0 := by rw [cmpM_swap a b]; omega
  have h2 : ¬ cmpM c b < 0 := by rw [cmpM_swap b c]; omega
  have h3 : cmpM c a < 0 := by rw [cmpM_swap a c]; omega
  rw [cmpM_neg] at h1 h2 h3
  by_cases e : a = b
  · exact h2 (e ▸ h3)
  · by_cases e2 : b = c
    · exact h1 (e2 ▸ h3)
    · exact Ahead.asymm h3 ((Ahead.total h1 (fun e' => e e'.symm)).trans (Ahead.total h2 (fun e' => e2 e'.symm)))
theorem order_gt (a b c : Clm) (h : 0 < -cmpM a b) (k : 0 ≤ -cmpM b c) : 0 < -cmpM a c := by
  have h0 := order_ge a b c (by omega) k
  apply Int.lt_iff_le_and_ne.2 ⟨h0, ?_⟩
  intro he
  have : a = c := cmpM_zero.1 (by omega)
  subst this
  have := cmpM_swap a b
  omega
theorem rank_three {a b c : Clm} : ∃ r0 r1 r2, rankM [c, b, a] = [r0, r1, r2] ∧ 0 ≤ -cmpM r0 r1 ∧ 0 ≤ -cmpM r1 r2 := by
  have hl := rankM_length [c, b, a]
  have hs := rankM_sorted [c, b, a]
  have key : ∀ x y : Clm, ¬ Ahead y x → 0 ≤ -cmpM x y := fun x y h => by
    rw [← cmpM_neg, cmpM_swap x y] at h
    omega
  match hr : rankM [c, b, a], hl with
  | [r0, r1, r2], _ =>
    rw [hr] at hs
    rw [List.pairwise_cons] at hs
    obtain ⟨h1, h2⟩ := hs
    rw [List.pairwise_cons] at h2
    exact ⟨r0, r1, r2, rfl, key _ _ (h1 r1 (by simp)), key _ _ (h2.1 r2 (by simp))⟩
set_option maxHeartbeats 16000000 in
set_option maxRecDepth 100000 in
theorem orders_law (w : World) (a b c : Clm) (hr : Reach [a, b, c]) : Calls Tryz.prog 5 #[cVal a, cVal b, cVal c] w (TellPost true w) := by
  have hAk := Lib.hid (fun W => awake_any W)
  have hFw := Lib.hid (fun W => few_any _ (reads_alloc W [a, b, c] 3) hr (by simp))
  have hAB := Lib.hid (fun W => (better_any a b W).mono (R' := fun e w' => e = .returned (.int .i64 (-cmpM a b)) ∧ Only (fun _ => False) W w') fun e w' h => ⟨h.1, h.2.only⟩)
  have hBC := Lib.hid (fun W => (better_any b c W).mono (R' := fun e w' => e = .returned (.int .i64 (-cmpM b c)) ∧ Only (fun _ => False) W w') fun e w' h => ⟨h.1, h.2.only⟩)
  have hAC := Lib.hid (fun W => (better_any a c W).mono (R' := fun e w' => e = .returned (.int .i64 (-cmpM a c)) ∧ Only (fun _ => False) W w') fun e w' h => ⟨h.1, h.2.only⟩)
  have hBA := Lib.hid (fun W => (better_any b a W).mono (R' := fun e w' => e = .returned (.int .i64 (-(-cmpM a b))) ∧ Only (fun _ => False) W w') fun e w' h => ⟨by rw [← cmpM_swap a b]; exact h.1, h.2.only⟩)
  have hAA := Lib.hid (fun W => (better_any a a W).mono (R' := fun e w' => e = .returned (.int .i64 0) ∧ Only (fun _ => False) W w') fun e w' h => ⟨by have := h.1; rw [cmpM_zero.2 rfl] at this; exact this, h.2.only⟩)
  have d1 : -1 ≤ -cmpM a b ∧ -cmpM a b ≤ 1 := by have := cmpM_bd a b; omega
  have d2 : -1 ≤ -cmpM b c ∧ -cmpM b c ≤ 1 := by have := cmpM_bd b c; omega
  have d3 : -1 ≤ -cmpM a c ∧ -cmpM a c ≤ 1 := by have := cmpM_bd a c; omega
  have o1 := order_ge a b c
  have o2 := order_gt a b c
  have hz : -cmpM a b = 0 ↔ a = b := by rw [← cmpM_zero]; omega
  obtain ⟨r0, r1, r2, hRk, q1, q2⟩ := rank_three (a := a) (b := b) (c := c)
  have hRB := Lib.hid (fun W => rank_any (reads_alloc W [c, b, a] 3) (.inl (by simp)) (by simp))
  unfold RankPost at hRB
  rw [hRk] at hRB
  have hR1 := Lib.hid (fun W => (better_any r0 r1 W).mono (R' := fun e w' => e = .returned (.int .i64 (-cmpM r0 r1)) ∧ Only (fun _ => False) W w') fun e w' h => ⟨h.1, h.2.only⟩)
  have hR2 := Lib.hid (fun W => (better_any r1 r2 W).mono (R' := fun e w' => e = .returned (.int .i64 (-cmpM r1 r2)) ∧ Only (fun _ => False) W w') fun e w' h => ⟨h.1, h.2.only⟩)
  clear hRk
  generalize -cmpM a b = x at *
  generalize -cmpM b c = y at *
  generalize -cmpM a c = z at *
  generalize -cmpM r0 r1 = k1 at *
  generalize -cmpM r1 r2 = k2 at *
  have hE : eqC a b = (x == 0) := by
    rw [Bool.eq_iff_iff, eqC_iff, beq_iff_eq, hz]
  generalize fewM [a, b, c] = fb at *
  clear hz hr
  obtain ⟨a1, a2, a3, a4, a5⟩ := a
  obtain ⟨b1, b2, b3, b4, b5⟩ := b
  obtain ⟨c1, c2, c3, c4, c5⟩ := c
  obtain ⟨m1, m2, m3, m4, m5⟩ := r0
  obtain ⟨n1, n2, n3, n4, n5⟩ := r1
  obtain ⟨l1, l2, l3, l4, l5⟩ := r2
  obtain ⟨d11, d12⟩ := d1
  obtain ⟨d21, d22⟩ := d2
  obtain ⟨d31, d32⟩ := d3
  simp only [cVal] at *
  have hBx := Lib.hid (boxes3 w ⟨a1, a2, a3, a4, a5⟩ ⟨b1, b2, b3, b4, b5⟩ ⟨c1, c2, c3, c4, c5⟩)
  simp only at hBx
  have hE' := Lib.hid hE
  clear hE
  cases fb
  · go_enter Tryz.func5, Tryz.ntmps5
    go_wp2_with (first
      | (go_at_call 10; refine (hAk.out _).mono ?_; clear hAk; rintro e w1 ⟨rfl, ho1⟩; obtain ⟨x1, x2, x3⟩ := hBx.out; obtain ⟨f0, f1, f2, f3, f4⟩ := box_reads fun j u hj => ho1.cellF (x1 j u hj); obtain ⟨g0, g1, g2, g3, g4⟩ := box_reads fun j u hj => ho1.cellF (x2 j u hj); obtain ⟨h0, h1, h2, h3, h4⟩ := box_reads fun j u hj => ho1.cellF (x3 j u hj); clear x1 x2 x3; have hO := Only.refl (fun _ => False) w1; simp only at f0 f1 f2 f3 f4 g0 g1 g2 g3 g4 h0 h1 h2 h3 h4)
      | (go_at_call 11; refine (hFw.out _).mono ?_; clear hFw; rintro e w2 ⟨rfl, ho2⟩))
    go_ret
    exact ⟨rfl, (((((Only.refl _ _).alloc _).alloc _).alloc _).trans (ho1.alloc _) fun _ _ => id).trans ho2 fun _ _ => id⟩
  · go_enter Tryz.func5, Tryz.ntmps5
    go_wp2_with (first
      | (go_at_call 10; refine (hAk.out _).mono ?_; clear hAk; rintro e w1 ⟨rfl, ho1⟩; obtain ⟨x1, x2, x3⟩ := hBx.out; obtain ⟨f0, f1, f2, f3, f4⟩ := box_reads fun j u hj => ho1.cellF (x1 j u hj); obtain ⟨g0, g1, g2, g3, g4⟩ := box_reads fun j u hj => ho1.cellF (x2 j u hj); obtain ⟨h0, h1, h2, h3, h4⟩ := box_reads fun j u hj => ho1.cellF (x3 j u hj); clear x1 x2 x3; have hO := Only.refl (fun _ => False) w1; simp only at f0 f1 f2 f3 f4 g0 g1 g2 g3 g4 h0 h1 h2 h3 h4)
      | (go_at_call 11; refine (hFw.out _).mono ?_; clear hFw; rintro e w2 ⟨rfl, ho2⟩; have hO := (hO.alloc _).trans ho2 fun _ _ => id))
    have hOw : Hid (Only (fun _ => False) w w1) := Lib.hid (((((Only.refl _ _).alloc _).alloc _).alloc _).trans ho1 fun _ _ => id)
    have hO := hO.drew
    refine wp_region_ord (.read 0 (.read 1 (.read 3 (.read 4 (.read 6 (.read 7 (.turn 2 (.turn 5 (.turn 8 (.read 9 (.read 10 (.read 11 .stop)))))))))))) (Only (fun _ => False) w1) (by kernel_rfl) (by kernel_rfl) (by kernel_rfl) (by first | exact Only.refl _ _ | assumption) ?_
    refine wpOrd_reads (v := ?_) rfl rfl (fun _ _ _ h => h) ?_ ?_
    rotate_left
    · intro W hW; go_simp; try with_reducible rfl
    go_frame
    refine wpOrd_reads (v := ?_) rfl rfl (fun _ _ _ h => h) ?_ ?_
    rotate_left
    · intro W hW; go_simp; try with_reducible rfl
    go_frame
    refine wpOrd_reads (v := ?_) rfl rfl (fun _ _ _ h => h) ?_ ?_
    rotate_left
    · intro W hW; go_simp; try with_reducible rfl
    go_frame
    refine wpOrd_reads (v := ?_) rfl rfl (fun _ _ _ h => h) ?_ ?_
    rotate_left
    · intro W hW; go_simp; try with_reducible rfl
    go_frame
    refine wpOrd_reads (v := ?_) rfl rfl (fun _ _ _ h => h) ?_ ?_
    rotate_left
    · intro W hW; go_simp; try with_reducible rfl
    go_frame
    refine wpOrd_reads (v := ?_) rfl rfl (fun _ _ _ h => h) ?_ ?_
    rotate_left
    · intro W hW; go_simp; try with_reducible rfl
    go_frame
    refine wpOrd_turns rfl ?_
    go_wp2_with (go_at_call 13; refine (hAB.out _).mono ?_; rintro e w3 ⟨rfl, ho3⟩)
    have hO := hO.trans ho3 fun _ _ => id
    refine ⟨hO, ?_⟩
    refine wpOrd_turns rfl ?_
    go_wp2_with (go_at_call 13; refine (hBC.out _).mono ?_; rintro e w4 ⟨rfl, ho4⟩)
    have hO := hO.trans ho4 fun _ _ => id
    refine ⟨hO, ?_⟩
    refine wpOrd_turns rfl ?_
    go_wp2_with (go_at_call 13; refine (hAC.out _).mono ?_; rintro e w5 ⟨rfl, ho5⟩)
    have hO := hO.trans ho5 fun _ _ => id
    refine ⟨hO, ?_⟩
    refine wpOrd_reads (v := ?_) rfl rfl (fun _ _ _ h => h) ?_ ?_
    rotate_left
    · intro W hW; go_simp; try with_reducible rfl
    go_frame
    refine wpOrd_reads (v := ?_) rfl rfl (fun _ _ _ h => h) ?_ ?_
    rotate_left
    · intro W hW; go_simp; try with_reducible rfl
    go_frame
    refine wpOrd_reads (v := ?_) rfl rfl (fun _ _ _ h => h) ?_ ?_
    rotate_left
    · intro W hW; go_simp; try with_reducible rfl
    go_frame
    refine wpOrd_nil ?_
    have e3 := hE'.out
    clear hE'
    go_wp2_with (first
      | (go_at_call 13; have hc := hBA.out; refine (hc _).mono ?_; clear hc hBA; rintro e w6 ⟨rfl, ho6⟩; have hO := hO.trans ho6 fun _ _ => id)
      | (go_at_call 13; have hc := hAA.out; refine (hc _).mono ?_; clear hc hAA; rintro e w7 ⟨rfl, ho7⟩; have hO := hO.trans ho7 fun _ _ => id)
      | (go_at_call 16; refine (hRB.out _).mono ?_; clear hRB; rintro e w8 ⟨v8, rfl, hrow, ho8⟩; obtain ⟨vA, vc, rfl⟩ := own_sl hrow; have hO := (hO.alloc _).trans ho8 fun _ _ => id))
    all_goals
      obtain ⟨g, rfl, hrd⟩ := own_reads hrow (by simp)
      have t0 : ∀ W, Only (fun _ => False) w8.drew W → W.cell? ⟨g, 0, none⟩ = some (.string m1) := fun W hW => hW.cellF (hrd 0 _ rfl)
      have t1 : ∀ W, Only (fun _ => False) w8.drew W → W.cell? ⟨g, 1, none⟩ = some (.string m2) := fun W hW => hW.cellF (hrd 1 _ rfl)
      have t2 : ∀ W, Only (fun _ => False) w8.drew W → W.cell? ⟨g, 2, none⟩ = some (.int .i64 m3) := fun W hW => hW.cellF (hrd 2 _ rfl)
      have t3 : ∀ W, Only (fun _ => False) w8.drew W → W.cell? ⟨g, 3, none⟩ = some (.int .i64 m4) := fun W hW => hW.cellF (hrd 3 _ rfl)
      have t4 : ∀ W, Only (fun _ => False) w8.drew W → W.cell? ⟨g, 4, none⟩ = some (.int .i64 m5) := fun W hW => hW.cellF (hrd 4 _ rfl)
      have t5 : ∀ W, Only (fun _ => False) w8.drew W → W.cell? ⟨g, 5, none⟩ = some (.string n1) := fun W hW => hW.cellF (hrd 5 _ rfl)
      have t6 : ∀ W, Only (fun _ => False) w8.drew W → W.cell? ⟨g, 6, none⟩ = some (.string n2) := fun W hW => hW.cellF (hrd 6 _ rfl)
      have t7 : ∀ W, Only (fun _ => False) w8.drew W → W.cell? ⟨g, 7, none⟩ = some (.int .i64 n3) := fun W hW => hW.cellF (hrd 7 _ rfl)
      have t8 : ∀ W, Only (fun _ => False) w8.drew W → W.cell? ⟨g, 8, none⟩ = some (.int .i64 n4) := fun W hW => hW.cellF (hrd 8 _ rfl)
      have t9 : ∀ W, Only (fun _ => False) w8.drew W → W.cell? ⟨g, 9, none⟩ = some (.int .i64 n5) := fun W hW => hW.cellF (hrd 9 _ rfl)
      have t10 : ∀ W, Only (fun _ => False) w8.drew W → W.cell? ⟨g, 10, none⟩ = some (.string l1) := fun W hW => hW.cellF (hrd 10 _ rfl)
      have t11 : ∀ W, Only (fun _ => False) w8.drew W → W.cell? ⟨g, 11, none⟩ = some (.string l2) := fun W hW => hW.cellF (hrd 11 _ rfl)
      have t12 : ∀ W, Only (fun _ => False) w8.drew W → W.cell? ⟨g, 12, none⟩ = some (.int .i64 l3) := fun W hW => hW.cellF (hrd 12 _ rfl)
      have t13 : ∀ W, Only (fun _ => False) w8.drew W → W.cell? ⟨g, 13, none⟩ = some (.int .i64 l4) := fun W hW => hW.cellF (hrd 13 _ rfl)
      have t14 : ∀ W, Only (fun _ => False) w8.drew W → W.cell? ⟨g, 14, none⟩ = some (.int .i64 l5) := fun W hW => hW.cellF (hrd 14 _ rfl)
      clear hrd hrow e3 f0 f1 f2 f3 f4 g0 g1 g2 g3 g4 h0 h1 h2 h3 h4
      have hW := Lib.hid (hOw.out.trans hO.drew fun _ _ => id)
      clear hO
      have hO := Only.refl (fun _ => False) w8.drew
      refine wp_region_ord (.read 0 (.read 1 (.read 2 (.read 3 (.read 4 (.read 5 (.turn 6 (.read 7 (.read 8 (.read 9 (.read 10 (.read 11 (.read 12 (.read 13 (.read 14 (.turn 15 (.read 16 (.read 17 (.read 18 .stop))))))))))))))))))) (Only (fun _ => False) w8.drew) (by kernel_rfl) (by kernel_rfl) (by kernel_rfl) (by first | exact Only.refl _ _ | assumption) ?_
      refine wpOrd_reads (v := ?_) rfl rfl (fun _ _ _ h => h) ?_ ?_
      rotate_left
      · intro W hW; go_simp; try with_reducible rfl
      go_frame
      refine wpOrd_reads (v := ?_) rfl rfl (fun _ _ _ h => h) ?_ ?_
      rotate_left
      · intro W hW; go_simp; try with_reducible rfl
      go_frame
      refine wpOrd_reads (v := ?_) rfl rfl (fun _ _ _ h => h) ?_ ?_
      rotate_left
      · intro W hW; go_simp; try with_reducible rfl
      go_frame
      refine wpOrd_reads (v := ?_) rfl rfl (fun _ _ _ h => h) ?_ ?_
      rotate_left
      · intro W hW; go_simp; try with_reducible rfl
      go_frame
      refine wpOrd_reads (v := ?_) rfl rfl (fun _ _ _ h => h) ?_ ?_
      rotate_left
      · intro W hW; go_simp; try with_reducible rfl
      go_frame
      refine wpOrd_reads (v := ?_) rfl rfl (fun _ _ _ h => h) ?_ ?_
      rotate_left
      · intro W hW; go_simp; try with_reducible rfl
      go_frame
      refine wpOrd_turns rfl ?_
      go_wp2_with (go_at_call 13; refine (hR1.out _).mono ?_; rintro e w9 ⟨rfl, ho9⟩)
      have hO := hO.trans ho9 fun _ _ => id
      refine ⟨hO, ?_⟩
      refine wpOrd_reads (v := ?_) rfl rfl (fun _ _ _ h => h) ?_ ?_
      rotate_left
      · intro W hW; go_simp; try with_reducible rfl
      go_frame
      refine wpOrd_reads (v := ?_) rfl rfl (fun _ _ _ h => h) ?_ ?_
      rotate_left
      · intro W hW; go_simp; try with_reducible rfl
      go_frame
      first | (refine wpOrd_passed rfl (by rfl) (fun _ _ _ h => h) ?_) | (refine wpOrd_guarded (v := ?_) rfl (by rfl) (fun _ _ _ h => h) ?_ ?_; rotate_left; (focus (intro W hW; go_simp; try with_reducible rfl)))
      go_frame
      first | (refine wpOrd_passed rfl (by rfl) (fun _ _ _ h => h) ?_) | (refine wpOrd_guarded (v := ?_) rfl (by rfl) (fun _ _ _ h => h) ?_ ?_; rotate_left; (focus (intro W hW; go_simp; try with_reducible rfl)))
      go_frame
      first | (refine wpOrd_passed rfl (by rfl) (fun _ _ _ h => h) ?_) | (refine wpOrd_guarded (v := ?_) rfl (by rfl) (fun _ _ _ h => h) ?_ ?_; rotate_left; (focus (intro W hW; go_simp; try with_reducible rfl)))
      go_frame
      first | (refine wpOrd_passed rfl (by rfl) (fun _ _ _ h => h) ?_) | (refine wpOrd_guarded (v := ?_) rfl (by rfl) (fun _ _ _ h => h) ?_ ?_; rotate_left; (focus (intro W hW; go_simp; try with_reducible rfl)))
      go_frame
      first | (refine wpOrd_passed rfl (by rfl) (fun _ _ _ h => h) ?_) | (refine wpOrd_guarded (v := ?_) rfl (by rfl) (fun _ _ _ h => h) ?_ ?_; rotate_left; (focus (intro W hW; go_simp; try with_reducible rfl)))
      go_frame
      first | (refine wpOrd_passed rfl (by rfl) (fun _ _ _ h => h) ?_) | (refine wpOrd_guarded (v := ?_) rfl (by rfl) (fun _ _ _ h => h) ?_ ?_; rotate_left; (focus (intro W hW; go_simp; try with_reducible rfl)))
      go_frame
      refine wpOrd_turns rfl ?_
      go_wp2_with (go_at_call 13; refine (hR2.out _).mono ?_; rintro e wa ⟨rfl, hoa⟩)
      have hO := hO.trans hoa fun _ _ => id
      refine ⟨hO, ?_⟩
      first | (refine wpOrd_passed rfl (by rfl) (fun _ _ _ h => h) ?_) | (refine wpOrd_guarded (v := ?_) rfl (by rfl) (fun _ _ _ h => h) ?_ ?_; rotate_left; (focus (intro W hW; go_simp; try with_reducible rfl)))
      go_frame
      refine wpOrd_reads (v := ?_) rfl rfl (fun _ _ _ h => h) ?_ ?_
      rotate_left
      · intro W hW; go_simp; try with_reducible rfl
      go_frame
      refine wpOrd_reads (v := ?_) rfl rfl (fun _ _ _ h => h) ?_ ?_
      rotate_left
      · intro W hW; go_simp; try with_reducible rfl
      go_frame
      refine wpOrd_nil ?_
      go_wp2
      go_ret
      exact ⟨rfl, hW.out.trans hO fun _ _ => id⟩
end Go.Proofs.YteecfjkljmmecaaGreat
