/- WALK: awake. -/
import Derived.Test.YteecfjkljmmecaaGreatCk
namespace Go.Proofs.YteecfjkljmmecaaGreat
open Go.RowKit Go.Sort Go.Shelf
def tA : ByteArray := { data := #[97] }
def tB : ByteArray := { data := #[98] }
def tC : ByteArray := { data := #[99] }
def tX : ByteArray := { data := #[120] }
def tY : ByteArray := { data := #[121] }
def awA : Clm := ⟨tA, tX, 1, 0, 4⟩
def awB : Clm := ⟨tB, tX, 4, 0, 6⟩
def awC : Clm := ⟨tC, tY, 4, 0, 6⟩
def awL : List Clm := [awA, awB, awC]
def awD : List (ByteArray × ByteArray) := [(tX, tA), (tY, tC)]
theorem aw_all : allM awL = 0 := by kernel_rfl
theorem aw_err : moneyErr 10 awL = 0 := by kernel_rfl
theorem aw_split : splitM 6 [6, 6] = [3, 3] := by
  unfold splitM
  rw [if_neg (by decide), show (leftM 6 [6, 6]).toNat = 0 from by decide, List.take_zero]
  rfl
theorem aw_money : moneyM 10 awL = ([4, 3, 3], 0) := by
  have p4 : placesM awL ((4 : Nat) : Int) = [1, 2] := by kernel_rfl
  have a4 : amountsM awL ((4 : Nat) : Int) = [6, 6] := by kernel_rfl
  have h : stateM 10 awL 4 = ([4, 0, 0], 6) := by kernel_rfl
  rw [← stateM_all, stateM_step, h]
  unfold roundM
  rw [p4, a4, if_pos (by decide), aw_split]
  rfl
theorem aw_why : (firstM awA awB).1 = tRight := by kernel_rfl
theorem aw_award : IsAward awL awD where
  sorted := by
    refine List.pairwise_cons.2 ⟨fun q hq => ?_, List.pairwise_cons.2 ⟨fun q hq => by simp at hq, .nil⟩⟩
    simp at hq
    subst hq
    show tX.data.toList < tY.data.toList
    decide
  won := by
    intro p hp
    simp only [awD, List.mem_cons, List.not_mem_nil, or_false] at hp
    rcases hp with rfl | rfl
    · refine ⟨awA, by simp [awL], rfl, rfl, fun d hd ht h => ?_⟩
      simp only [awL, List.mem_cons, List.not_mem_nil, or_false] at hd
      rcases hd with rfl | rfl | rfl
      · exact Ahead.irrefl _ h
      · obtain ⟨h⟩ := h
        simp [awA, awB] at h
      · exact absurd ht (by decide)
    · refine ⟨awC, by simp [awL], rfl, rfl, fun d hd ht h => ?_⟩
      simp only [awL, List.mem_cons, List.not_mem_nil, or_false] at hd
      rcases hd with rfl | rfl | rfl
      · exact absurd ht (by decide)
      · exact absurd ht (by decide)
      · exact Ahead.irrefl _ h
  all := by
    intro c hc
    simp only [awL, List.mem_cons, List.not_mem_nil, or_false] at hc
    rcases hc with rfl | rfl | rfl
    · exact ⟨(tX, tA), by simp [awD], rfl⟩
    · exact ⟨(tX, tA), by simp [awD], rfl⟩
    · exact ⟨(tY, tC), by simp [awD], rfl⟩
theorem reads_alloc (w : World) (xs : List Clm) (c : Nat) : ReadsC (w.alloc (.cells (xs.flatMap cEnc).toArray 23)) (.slice (some ⟨w.heap.size, 0, none⟩) xs.length c) xs :=
  ⟨_, c, rfl, fun _ => ⟨w.heap.size, 0, rfl, fun j u hj => by simpa using hj⟩⟩
theorem readsI_alloc (w : World) (xs : List Int) (c : Nat) : ReadsI (w.alloc (.cells (xs.map fun x => .int .i64 x).toArray 2)) (.slice (some ⟨w.heap.size, 0, none⟩) xs.length c) xs :=
  ⟨_, c, rfl, fun i x hx => ⟨w.heap.size, 0, rfl, by simp [hx]⟩⟩
theorem readsA_alloc (w : World) (xs : List (ByteArray × ByteArray)) (c : Nat) : ReadsA (w.alloc (.cells (xs.flatMap aEnc).toArray 49)) (.slice (some ⟨w.heap.size, 0, none⟩) xs.length c) xs := by
  refine ⟨_, c, rfl, fun i p hp => ⟨w.heap.size, 0, rfl, ?_⟩⟩
  have hlt : i < xs.length := (List.getElem?_eq_some_iff.1 hp).1
  haveI : Inhabited (ByteArray × ByteArray) := ⟨p⟩
  have hg : xs[i]! = p := by rw [getElem!_pos xs i hlt]; rw [List.getElem?_eq_getElem hlt] at hp; injection hp
  have key : ∀ k (u : Value), k < 2 → (aEnc p)[k]? = some u → (xs.flatMap aEnc)[i * 2 + k]? = some u := fun k u hk hu => by
    rw [flat_at aEnc_len (by decide) xs (i * 2 + k) (by omega), show (i * 2 + k) / 2 = i by omega, show (i * 2 + k) % 2 = k by omega, hg]
    have hk' : k < (aEnc p).length := hk
    rw [getElem!_pos (aEnc p) k hk', ← hu, List.getElem?_eq_getElem hk']
  have h0 := key 0 _ (by decide) rfl
  have h1 := key 1 _ (by decide) rfl
  constructor
  · rw [Nat.zero_add]; simpa using h0
  · rw [Nat.zero_add]; simpa using h1
theorem aw_short : Short awL := by
  intro x hx
  simp only [awL, List.mem_cons, List.not_mem_nil, or_false] at hx
  rcases hx with rfl | rfl | rfl <;> exact ⟨by decide, by decide⟩
theorem aw_thing : ∀ x ∈ awL, x.thing.size ≤ 1000000 := by
  intro x hx
  simp only [awL, List.mem_cons, List.not_mem_nil, or_false] at hx
  rcases hx with rfl | rfl | rfl <;> decide
theorem aw_same (W : World) {u v : Value} (h : ReadsI W u [4, 3, 3]) (k : ReadsI W v [4, 3, 3]) : Calls Tryz.prog 21 #[u, v] W (TellPost true W) := by
  have hc := same_any W h k (by decide) (by decide)
  rw [show decide (([4, 3, 3] : List Int) = [4, 3, 3]) = true from by decide] at hc
  exact hc
theorem aw_awards (W : World) {u v : Value} (h : ReadsA W u awD) (k : ReadsA W v awD) : Calls Tryz.prog 23 #[u, v] W (TellPost true W) := by
  have hc := awards_any W h k (by decide) (by decide)
  rw [show decide (awD = awD) = true from by simp] at hc
  exact hc
set_option maxHeartbeats 8000000 in
set_option maxRecDepth 100000 in
theorem awake_any (w : World) : Calls Tryz.prog 10 #[] w (TellPost true w) := by
  have hR := reads_alloc w awL 3
  have hMn := money_yes _ 10 hR aw_short (by decide) aw_err
  have hAw := Lib.hid (fun W (hW : Only (fun _ => False) (w.alloc (.cells (awL.flatMap cEnc).toArray 23)) W) => award_yes W (hR.quiet hW) (.inl (by decide)) aw_short (by decide) aw_all aw_thing)
  have hRk := Lib.hid (fun W (hW : Only (fun _ => False) (w.alloc (.cells (awL.flatMap cEnc).toArray 23)) W) => rank_any (w := W) (hR.quiet hW) (.inl (by decide)) (by decide))
  unfold MoneyPost at hMn
  rw [aw_money] at hMn
  have hM := Lib.hid hMn
  have hRR := Lib.hid hR
  have hWy := Lib.hid (fun W : World => (show Calls Tryz.prog 14 #[.agg #[.string { data := #[97] }, .string { data := #[120] }, .int .i64 1, .int .i64 0, .int .i64 4], .agg #[.string { data := #[98] }, .string { data := #[120] }, .int .i64 4, .int .i64 0, .int .i64 6]] W (fun e w' => e = .returned (.string { data := #[114, 105, 103, 104, 116] }) ∧ Only (fun _ => False) W w') from (why_any awA awB W).mono fun e w' h => ⟨by rw [h.1, aw_why]; rfl, h.2.only⟩))
  have hcells : (awL.flatMap cEnc).toArray = #[.string { data := #[97] }, .string { data := #[120] }, .int .i64 1, .int .i64 0, .int .i64 4, .string { data := #[98] }, .string { data := #[120] }, .int .i64 4, .int .i64 0, .int .i64 6, .string { data := #[99] }, .string { data := #[121] }, .int .i64 4, .int .i64 0, .int .i64 6] := rfl
  rw [hcells] at hM hAw hRk hRR
  clear hMn hcells hR
  go_enter Tryz.func10, Tryz.ntmps10
  go_wp2_with (first
    | (go_at_call 18; refine hM.out.mono ?_; clear hM; rintro e w1 ⟨v1, rfl, hp, ho1⟩; have hP := Lib.hid hp; have hO1 := Lib.hid ho1; clear hp ho1)
    | (go_at_call 22; have hc := hAw.out _ hO1.out; refine hc.mono ?_; clear hc hAw; rintro e w2 ⟨v2, ga, rfl, hga, hrow, ho2⟩; have hGA := Lib.hid hga; have hO2 := Lib.hid (hO1.out.trans ho2 fun _ _ => id); have hP2 := Lib.hid (hP.out.quiet ho2); have hAA := Lib.hid (ReadsA.of_own hrow); clear hga hrow ho2))
  have hgd := hGA.out.unique aw_award (fun _ => Iff.rfl)
  subst hgd
  obtain ⟨A', c', hA', hr⟩ := ReadsC.cells w2 (hRR.out.quiet hO2.out)
  injection hA' with hA1 hA2 hA3
  subst hA1 hA3
  obtain ⟨b, off, he, k0, k1, k2, k3, k4⟩ := hr 0 awA rfl
  obtain ⟨b', off', he', j0, j1, j2, j3, j4⟩ := hr 1 awB rfl
  injection he with he
  injection he with he1 he2
  injection he' with he'
  injection he' with he1' he2'
  subst he1 he2 he1' he2'
  simp only [awA, awB, tA, tB, tX, Nat.zero_mul, Nat.one_mul, Nat.zero_add, Nat.reduceAdd] at k0 k1 k2 k3 k4 j0 j1 j2 j3 j4
  have hsz := hO2.out.size
  simp only [World.size_alloc] at hsz
  clear hA2 hr
  have f0 : ∀ W, Only (fun _ => False) w2.drew W → W.cell? ⟨w.heap.size, 0, none⟩ = some (.string { data := #[97] }) := fun W hW => hW.cellF k0
  have f1 : ∀ W, Only (fun _ => False) w2.drew W → W.cell? ⟨w.heap.size, 1, none⟩ = some (.string { data := #[120] }) := fun W hW => hW.cellF k1
  have f2 : ∀ W, Only (fun _ => False) w2.drew W → W.cell? ⟨w.heap.size, 2, none⟩ = some (.int .i64 1) := fun W hW => hW.cellF k2
  have f3 : ∀ W, Only (fun _ => False) w2.drew W → W.cell? ⟨w.heap.size, 3, none⟩ = some (.int .i64 0) := fun W hW => hW.cellF k3
  have f4 : ∀ W, Only (fun _ => False) w2.drew W → W.cell? ⟨w.heap.size, 4, none⟩ = some (.int .i64 4) := fun W hW => hW.cellF k4
  have g0 : ∀ W, Only (fun _ => False) w2.drew W → W.cell? ⟨w.heap.size, 5, none⟩ = some (.string { data := #[98] }) := fun W hW => hW.cellF j0
  have g1 : ∀ W, Only (fun _ => False) w2.drew W → W.cell? ⟨w.heap.size, 6, none⟩ = some (.string { data := #[120] }) := fun W hW => hW.cellF j1
  have g2 : ∀ W, Only (fun _ => False) w2.drew W → W.cell? ⟨w.heap.size, 7, none⟩ = some (.int .i64 4) := fun W hW => hW.cellF j2
  have g3 : ∀ W, Only (fun _ => False) w2.drew W → W.cell? ⟨w.heap.size, 8, none⟩ = some (.int .i64 0) := fun W hW => hW.cellF j3
  have g4 : ∀ W, Only (fun _ => False) w2.drew W → W.cell? ⟨w.heap.size, 9, none⟩ = some (.int .i64 6) := fun W hW => hW.cellF j4
  clear k0 k1 k2 k3 k4 j0 j1 j2 j3 j4
  have hOD := Lib.hid (show Only (fun _ => False) w w2.drew from (((Only.refl (fun _ => False) w).alloc _).trans hO2.out fun _ _ => id).drew)
  have hOE := Lib.hid (fun W (hW : Only (fun _ => False) w2.drew W) => hO2.out.drew.trans hW fun _ _ => id)
  have hO := Only.refl (fun _ => False) w2.drew
  refine wp_region_ord (.read 0 (.read 1 (.read 2 (.read 3 (.read 4 (.read 5 (.read 6 (.read 7 (.turn 8 (.turn 9 (.read 10 (.read 11 (.read 12 (.read 13 (.read 14 (.read 15 (.read 16 (.read 17 (.read 18 (.turn 19 (.turn 20 (.read 21 (.read 22 (.read 23 (.read 24 (.read 25 (.read 26 (.read 27 (.read 28 (.turn 29 (.read 30 (.read 31 (.read 32 (.read 33 (.turn 34 (.read 35 (.read 36 (.read 37 (.read 38 .stop))))))))))))))))))))))))))))))))))))))) (Only (fun _ => False) _) (by kernel_rfl) (by kernel_rfl) (by kernel_rfl) (by first | exact Only.refl _ _ | assumption) ?_
  refine wpOrd_reads (v := ?_) rfl rfl (fun _ _ _ h => h) ?_ ?_
  rotate_left
  · intro W hW; go_simp; try with_reducible rfl
  go_frame
  refine wpOrd_reads (v := ?_) rfl rfl (fun _ _ _ h => h) ?_ ?_
  rotate_left
  · intro W hW; go_simp; try with_reducible rfl
  go_frame
  refine wpOrd_reads (v := ?_) rfl rfl (fun _ _ _ h => h) ?_ ?_
  rotate_left
  · intro W hW; go_simp; try with_reducible rfl
  go_frame
  first | (refine wpOrd_passed rfl (by rfl) (fun _ _ _ h => h) ?_) | (refine wpOrd_guarded (v := ?_) rfl (by rfl) (fun _ _ _ h => h) ?_ ?_; rotate_left; (focus (intro W hW; go_simp; try with_reducible rfl)))
  go_frame
  first | (refine wpOrd_passed rfl (by rfl) (fun _ _ _ h => h) ?_) | (refine wpOrd_guarded (v := ?_) rfl (by rfl) (fun _ _ _ h => h) ?_ ?_; rotate_left; (focus (intro W hW; go_simp; try with_reducible rfl)))
  go_frame
  refine wpOrd_reads (v := ?_) rfl rfl (fun _ _ _ h => h) ?_ ?_
  rotate_left
  · intro W hW; go_simp; try with_reducible rfl
  go_frame
  refine wpOrd_reads (v := ?_) rfl rfl (fun _ _ _ h => h) ?_ ?_
  rotate_left
  · intro W hW; go_simp; try with_reducible rfl
  go_frame
  first | (refine wpOrd_passed rfl (by rfl) (fun _ _ _ h => h) ?_) | (refine wpOrd_guarded (v := ?_) rfl (by rfl) (fun _ _ _ h => h) ?_ ?_; rotate_left; (focus (intro W hW; go_simp; try with_reducible rfl)))
  go_frame
  refine wpOrd_turns rfl ?_
  go_wp2
  have hS := Lib.hid (aw_same _ ((hP2.out.quiet (Only.refl _ _).drew).quiet (hO.alloc (.cells #[.int .i64 4, .int .i64 3, .int .i64 3] 2))) (readsI_alloc _ [4, 3, 3] 3))
  have hO := hO.alloc (.cells #[.int .i64 4, .int .i64 3, .int .i64 3] 2)
  refine ⟨hO, ?_⟩
  refine wpOrd_turns rfl ?_
  go_wp2_with (go_at_call 21; have hc := hS.out; refine hc.mono ?_; clear hc hS; rintro e w5 ⟨rfl, ho5⟩)
  have hO := hO.trans ho5 fun _ _ => id
  refine ⟨hO, ?_⟩
  refine wpOrd_reads (v := ?_) rfl rfl (fun _ _ _ h => h) ?_ ?_
  rotate_left
  · intro W hW; go_simp; try with_reducible rfl
  go_frame
  refine wpOrd_reads (v := ?_) rfl rfl (fun _ _ _ h => h) ?_ ?_
  rotate_left
  · intro W hW; go_simp; try with_reducible rfl
  go_frame
  first | (refine wpOrd_passed rfl (by rfl) (fun _ _ _ h => h) ?_) | (refine wpOrd_guarded (v := ?_) rfl (by rfl) (fun _ _ _ h => h) ?_ ?_; rotate_left; (focus (intro W hW; go_simp; try with_reducible rfl)))
  go_frame
  first | (refine wpOrd_passed rfl (by rfl) (fun _ _ _ h => h) ?_) | (refine wpOrd_guarded (v := ?_) rfl (by rfl) (fun _ _ _ h => h) ?_ ?_; rotate_left; (focus (intro W hW; go_simp; try with_reducible rfl)))
  go_frame
  refine wpOrd_reads (v := ?_) rfl rfl (fun _ _ _ h => h) ?_ ?_
  rotate_left
  · intro W hW; go_simp; try with_reducible rfl
  go_frame
  refine wpOrd_reads (v := ?_) rfl rfl (fun _ _ _ h => h) ?_ ?_
  rotate_left
  · intro W hW; go_simp; try with_reducible rfl
  go_frame
  first | (refine wpOrd_passed rfl (by rfl) (fun _ _ _ h => h) ?_) | (refine wpOrd_guarded (v := ?_) rfl (by rfl) (fun _ _ _ h => h) ?_ ?_; rotate_left; (focus (intro W hW; go_simp; try with_reducible rfl)))
  go_frame
  first | (refine wpOrd_passed rfl (by rfl) (fun _ _ _ h => h) ?_) | (refine wpOrd_guarded (v := ?_) rfl (by rfl) (fun _ _ _ h => h) ?_ ?_; rotate_left; (focus (intro W hW; go_simp; try with_reducible rfl)))
  go_frame
  first | (refine wpOrd_passed rfl (by rfl) (fun _ _ _ h => h) ?_) | (refine wpOrd_guarded (v := ?_) rfl (by rfl) (fun _ _ _ h => h) ?_ ?_; rotate_left; (focus (intro W hW; go_simp; try with_reducible rfl)))
  go_frame
  refine wpOrd_turns rfl ?_
  go_wp2
  have hS := Lib.hid (aw_awards _ ((hAA.out.quiet (Only.refl _ _).drew).quiet (hO.alloc (.cells #[.string { data := #[120] }, .string { data := #[97] }, .string { data := #[121] }, .string { data := #[99] }] 49))) (readsA_alloc _ awD 2))
  have hO := hO.alloc (.cells #[.string { data := #[120] }, .string { data := #[97] }, .string { data := #[121] }, .string { data := #[99] }] 49)
  refine ⟨hO, ?_⟩
  refine wpOrd_turns rfl ?_
  go_wp2_with (go_at_call 23; have hc := hS.out; refine hc.mono ?_; clear hc hS; rintro e w6 ⟨rfl, ho6⟩)
  have hO := hO.trans ho6 fun _ _ => id
  refine ⟨hO, ?_⟩
  refine wpOrd_reads (v := ?_) rfl rfl (fun _ _ _ h => h) ?_ ?_
  rotate_left
  · intro W hW; go_simp; try with_reducible rfl
  go_frame
  refine wpOrd_reads (v := ?_) rfl rfl (fun _ _ _ h => h) ?_ ?_
  rotate_left
  · intro W hW; go_simp; try with_reducible rfl
  go_frame
  first | (refine wpOrd_passed rfl (by rfl) (fun _ _ _ h => h) ?_) | (refine wpOrd_guarded (v := ?_) rfl (by rfl) (fun _ _ _ h => h) ?_ ?_; rotate_left; (focus (intro W hW; go_simp; try with_reducible rfl)))
  go_frame
  first | (refine wpOrd_passed rfl (by rfl) (fun _ _ _ h => h) ?_) | (refine wpOrd_guarded (v := ?_) rfl (by rfl) (fun _ _ _ h => h) ?_ ?_; rotate_left; (focus (intro W hW; go_simp; try with_reducible rfl)))
  go_frame
  first | (refine wpOrd_passed rfl (by rfl) (fun _ _ _ h => h) ?_) | (refine wpOrd_guarded (v := ?_) rfl (by rfl) (fun _ _ _ h => h) ?_ ?_; rotate_left; (focus (intro W hW; go_simp; try with_reducible rfl)))
  go_frame
  first | (refine wpOrd_passed rfl (by rfl) (fun _ _ _ h => h) ?_) | (refine wpOrd_guarded (v := ?_) rfl (by rfl) (fun _ _ _ h => h) ?_ ?_; rotate_left; (focus (intro W hW; go_simp; try with_reducible rfl)))
  go_frame
  first | (refine wpOrd_passed rfl (by rfl) (fun _ _ _ h => h) ?_) | (refine wpOrd_guarded (v := ?_) rfl (by rfl) (fun _ _ _ h => h) ?_ ?_; rotate_left; (focus (intro W hW; go_simp; try with_reducible rfl)))
  go_frame
  first | (refine wpOrd_passed rfl (by rfl) (fun _ _ _ h => h) ?_) | (refine wpOrd_guarded (v := ?_) rfl (by rfl) (fun _ _ _ h => h) ?_ ?_; rotate_left; (focus (intro W hW; go_simp; try with_reducible rfl)))
  go_frame
  refine wpOrd_turns rfl ?_
  go_wp2_with (go_at_call 14; refine (hWy.out _).mono ?_; rintro e w7 ⟨rfl, ho7⟩)
  have hO := hO.trans ho7 fun _ _ => id
  refine ⟨hO, ?_⟩
  first | (refine wpOrd_passed rfl (by rfl) (fun _ _ _ h => h) ?_) | (refine wpOrd_guarded (v := ?_) rfl (by rfl) (fun _ _ _ h => h) ?_ ?_; rotate_left; (focus (intro W hW; go_simp; try with_reducible rfl)))
  go_frame
  refine wpOrd_reads (v := ?_) rfl rfl (fun _ _ _ h => h) ?_ ?_
  rotate_left
  · intro W hW; go_simp; try with_reducible rfl
  go_frame
  refine wpOrd_reads (v := ?_) rfl rfl (fun _ _ _ h => h) ?_ ?_
  rotate_left
  · intro W hW; go_simp; try with_reducible rfl
  go_frame
  first | (refine wpOrd_passed rfl (by rfl) (fun _ _ _ h => h) ?_) | (refine wpOrd_guarded (v := ?_) rfl (by rfl) (fun _ _ _ h => h) ?_ ?_; rotate_left; (focus (intro W hW; go_simp; try with_reducible rfl)))
  go_frame
  refine wpOrd_turns rfl ?_
  go_wp2_with (go_at_call 16; have hc := hRk.out _ (hOE.out _ hO); refine hc.mono ?_; clear hc; rintro e w8 ⟨v8, rfl, hrow8, ho8⟩; obtain ⟨sA, sc, rfl⟩ := own_sl hrow8)
  have hO := hO.trans ho8 fun _ _ => id
  refine ⟨hO, ?_⟩
  first | (refine wpOrd_passed rfl (by rfl) (fun _ _ _ h => h) ?_) | (refine wpOrd_guarded (v := ?_) rfl (by rfl) (fun _ _ _ h => h) ?_ ?_; rotate_left; (focus (intro W hW; go_simp; try with_reducible rfl)))
  go_frame
  first | (refine wpOrd_passed rfl (by rfl) (fun _ _ _ h => h) ?_) | (refine wpOrd_guarded (v := ?_) rfl (by rfl) (fun _ _ _ h => h) ?_ ?_; rotate_left; (focus (intro W hW; go_simp; try with_reducible rfl)))
  go_frame
  refine wpOrd_reads (v := ?_) rfl rfl (fun _ _ _ h => h) ?_ ?_
  rotate_left
  · intro W hW; go_simp; try with_reducible rfl
  go_frame
  refine wpOrd_reads (v := ?_) rfl rfl (fun _ _ _ h => h) ?_ ?_
  rotate_left
  · intro W hW; go_simp; try with_reducible rfl
  go_frame
  refine wpOrd_nil ?_
  go_wp2
  go_ret
  exact ⟨rfl, hOD.out.trans hO fun _ _ => id⟩
end Go.Proofs.YteecfjkljmmecaaGreat
