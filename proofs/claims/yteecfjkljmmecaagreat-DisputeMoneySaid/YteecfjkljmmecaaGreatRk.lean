/- WALKS: Better, Why, Rank. -/
import Derived.Test.YteecfjkljmmecaaGreatOr
import Derived.Test.YteecfjkljmmecaaGreatSr
import Derived.Test.YteecfjkljmmecaaGreatSho
import Derived.Sort.LotA
namespace Go.Proofs.YteecfjkljmmecaaGreat
open Go.RowKit Go.Sort Go.Shelf
def TextPost (t : ByteArray) (w : World) (e : Ending) (w' : World) : Prop := e = .returned (.string t) ∧ Grows w w'
section
variable (a b : Clm) (w : World)
set_option maxHeartbeats 1000000 in
theorem better_any : Calls Tryz.prog 13 #[cVal a, cVal b] w (GrowPost (-cmpM a b) w) := by
  have hF := Lib.hid (fun W => first_any a b W)
  have hb := cmpM_bd a b
  obtain ⟨hb1, hb2⟩ := hb
  have hP : Hid (∀ W, Grows w W → GrowPost (-cmpM a b) w (.returned (.int .i64 (-cmpM a b))) W) := Lib.hid fun W h => ⟨rfl, h⟩
  have hQ : Hid (∀ W e W', FirstPost a b W e W' → ∃ t, e = .returned (.tuple #[.string t, .int .i64 (cmpM a b)]) ∧ Grows W W') := Lib.hid fun W e W' h => ⟨_, h.1, h.2⟩
  generalize FirstPost a b = FP at *
  generalize cmpM a b = n at *
  obtain ⟨a1, a2, a3, a4, a5⟩ := a
  obtain ⟨b1, b2, b3, b4, b5⟩ := b
  simp only [cVal] at *
  go_enter Tryz.func13, Tryz.ntmps13
  go_wp2_with (first | (go_at_call 25; refine (hF.out _).mono ?_; intro e w1 hp; obtain ⟨t, rfl, hg⟩ := hQ.out _ _ _ hp; clear hp))
  go_ret
  exact hP.out _ ((((Grows.refl w).alloc _).alloc _).trans hg)
set_option maxHeartbeats 1000000 in
theorem why_any : Calls Tryz.prog 14 #[cVal a, cVal b] w (TextPost (firstM a b).1 w) := by
  have hF := Lib.hid (fun W => first_any a b W)
  have hP : Hid (∀ W, Grows w W → TextPost (firstM a b).1 w (.returned (.string (firstM a b).1)) W) := Lib.hid fun W h => ⟨rfl, h⟩
  have hQ : Hid (∀ W e W', FirstPost a b W e W' → ∃ n, e = .returned (.tuple #[.string (firstM a b).1, .int .i64 n]) ∧ Grows W W') := Lib.hid fun W e W' h => ⟨_, h.1, h.2⟩
  generalize FirstPost a b = FP at *
  generalize (firstM a b).1 = t at *
  obtain ⟨a1, a2, a3, a4, a5⟩ := a
  obtain ⟨b1, b2, b3, b4, b5⟩ := b
  simp only [cVal] at *
  go_enter Tryz.func14, Tryz.ntmps14
  go_wp2_with (first | (go_at_call 25; refine (hF.out _).mono ?_; intro e w1 hp; obtain ⟨n, rfl, hg⟩ := hQ.out _ _ _ hp; clear hp))
  go_ret
  exact hP.out _ ((((Grows.refl w).alloc _).alloc _).trans hg)
set_option maxHeartbeats 1000000 in
theorem rankCf_any : Calls Tryz.prog 28 #[cVal a, cVal b] w (GrowPost (cmpM a b) w) := by
  have hF := Lib.hid (fun W => (better_any b a W).mono (R' := GrowPost (cmpM a b) W) fun e W' h => by rw [cmpM_swap a b, Int.neg_neg] at h; exact h)
  have hP : Hid (∀ W, Grows w W → GrowPost (cmpM a b) w (.returned (.int .i64 (cmpM a b))) W) := Lib.hid fun W h => ⟨rfl, h⟩
  generalize cmpM a b = n at *
  obtain ⟨a1, a2, a3, a4, a5⟩ := a
  obtain ⟨b1, b2, b3, b4, b5⟩ := b
  simp only [cVal] at *
  go_enter Tryz.func28, Tryz.ntmps28
  go_wp2_with (first | (go_at_call 13; refine (hF.out _).mono ?_; rintro e w1 ⟨rfl, hg⟩))
  go_ret
  exact hP.out _ ((((Grows.refl w).alloc _).alloc _).trans hg)
end
instance : Inhabited Clm := ⟨⟨ByteArray.empty, ByteArray.empty, 0, 0, 0⟩⟩
def cEnc (c : Clm) : List Value := [.string c.name, .string c.thing, .int .i64 c.right, .int .i64 c.day, .int .i64 c.amt]
theorem cEnc_len (x : Clm) : (cEnc x).length = 5 := rfl
theorem cEnc_one (x : Clm) : ∀ v ∈ cEnc x, v.oneCell' = true := by
  intro v hv
  simp only [cEnc, List.mem_cons, List.not_mem_nil, or_false] at hv
  rcases hv with rfl | rfl | rfl | rfl | rfl <;> rfl
theorem isAgg23 (w : World) : (isAgg 23).run Tryz.prog w = .ok true w := by kernel_rfl
theorem size23 (w : World) : (Go.sizeOf 23).run Tryz.prog w = .ok 5 w := by kernel_rfl
theorem enters28 : ∀ args w, (callFunc 28 args).run Tryz.prog w = .ok (.enter 28 args) w := enters_of Tryz.func28 (by kernel_rfl) rfl
theorem cmpLays28 (blk off size : Nat) (w : World) : CmpLays Tryz.prog 28 #[] cEnc 5 cmpM blk off size w := fun _ _ _ _ x y => (rankCf_any x y _).mono fun _ _ h => h
theorem ltOf_clm {x y : Clm} : ltOf cmpM x y = true ↔ Ahead x y := by unfold ltOf; rw [decide_eq_true_iff]; exact cmpM_neg
theorem clm_swo : SWO (ltOf cmpM) where
  irrefl x := by rw [Bool.eq_false_iff]; exact fun h => Ahead.irrefl _ (ltOf_clm.1 h)
  trans x y z h k := ltOf_clm.2 ((ltOf_clm.1 h).trans (ltOf_clm.1 k))
  ntrans x y z h k := by
    rw [Bool.eq_false_iff] at *
    intro hz
    have hz := ltOf_clm.1 hz
    have h : ¬ Ahead x y := fun e => h (ltOf_clm.2 e)
    have k : ¬ Ahead y z := fun e => k (ltOf_clm.2 e)
    by_cases e : x = y
    · exact k (e ▸ hz)
    · exact k ((Ahead.total h e).trans hz)
theorem clm_parts (x y : Clm) (h : ltOf cmpM x y = false) (k : ltOf cmpM y x = false) : x = y := by
  rw [Bool.eq_false_iff] at *
  apply Classical.byContradiction
  intro hne
  exact k (ltOf_clm.2 (Ahead.total (fun e => h (ltOf_clm.2 e)) hne))
/-- The best first. -/
def rankM (l : List Clm) : List Clm := l.mergeSort fun x y => !(ltOf cmpM y x)
theorem rankM_perm (l : List Clm) : (rankM l).Perm l := List.mergeSort_perm _ _
theorem rankM_length (l : List Clm) : (rankM l).length = l.length := (rankM_perm l).length_eq
/-- A row of claimants as a slice that reads. -/
def ReadsC (w : World) (v : Value) (xs : List Clm) : Prop := ∃ A c, v = .slice A xs.length c ∧ (0 < xs.length → ∃ b off, A = some ⟨b, off, none⟩ ∧ ∀ (j : Nat) u, (xs.flatMap cEnc)[j]? = some u → w.cell? ⟨b, off + j, none⟩ = some u)
theorem ReadsC.only {F : Nat → Prop} {w w' : World} {v : Value} {xs : List Clm} (h : ReadsC w v xs) (ho : Only F w w') (hf : 0 < xs.length → ∀ b, v.ownBlock = some b → ¬ F b) : ReadsC w' v xs := by
  obtain ⟨A, c, rfl, hc⟩ := h
  refine ⟨A, c, rfl, fun hp => ?_⟩
  obtain ⟨b, off, rfl, hr⟩ := hc hp
  exact ⟨b, off, rfl, fun j u hj => ho.keeps (hr j u hj) (hf hp b rfl)⟩
theorem ReadsC.quiet {w w' : World} {v : Value} {xs : List Clm} (h : ReadsC w v xs) (ho : Only (fun _ => False) w w') : ReadsC w' v xs := h.only ho fun _ _ _ => id
theorem own_sl {w : World} {base n : Nat} {e : TypeId} {size : Nat} {v : Value} {xs : List Value} (h : w.ownsRow base e size v n xs) : ∃ A c, v = .slice A n c := by
  rcases h.2 with ⟨rfl, rfl⟩ | ⟨g, cap, cur, rfl, _⟩
  · exact ⟨none, 0, rfl⟩
  · exact ⟨_, cap, rfl⟩
theorem ReadsC.of_own {w : World} {base : Nat} {v : Value} {xs : List Clm} (h : w.ownsRow base 23 5 v xs.length (xs.flatMap cEnc)) : ReadsC w v xs := by
  rcases h.2 with ⟨rfl, h0⟩ | ⟨g, cap, cur, rfl, hb, hh, h1, h2, h3, h4⟩
  · exact ⟨none, 0, by rw [h0], fun hp => by rw [h0] at hp; omega⟩
  · refine ⟨_, cap, rfl, fun _ => ⟨g, 0, rfl, fun j u hj => ?_⟩⟩
    rw [← h4, List.getElem?_take] at hj
    split at hj
    · simp only [World.cell?, hh]
      simpa using hj
    · cases hj
theorem info23 : (Tryz.prog.info? 23).map (fun i => (i.zero, i.size, i.bytes)) = some (some (.agg #[.string ByteArray.empty, .string ByteArray.empty, .int .i64 0, .int .i64 0, .int .i64 0]), 5, 56) := by kernel_rfl
theorem cs_one (xs : List Clm) : ∀ u ∈ xs.flatMap cEnc, u.oneCell' = true := fun u hu => by
  obtain ⟨c, _, hc⟩ := List.mem_flatMap.1 hu
  exact cEnc_one c u hc
/-- slices.Clone of claimants; nil, and what is empty, may be told apart: how it lies is told where there are some. -/
theorem clone_c {w : World} {v : Value} {xs : List Clm} (h : ReadsC w v xs) (h0 : 0 < xs.length ∨ ∀ A n c, v = .slice A n c → ∀ a, A = some a → a.spot = none) (hl : xs.length ≤ 100000) :
    Calls Tryz.prog 26 #[v] w fun e w' => ∃ v', e = .returned v' ∧ w'.ownsRow w.heap.size 23 5 v' xs.length (xs.flatMap cEnc) ∧ Only (fun _ => False) w w' := by
  obtain ⟨A, c, rfl, hc⟩ := h
  obtain ⟨i0, hi, hz0, hz1, hz2⟩ := info_parts info23
  rcases A with _ | ⟨b, off, sp⟩
  · have h0 : xs = [] := by
      cases xs with
      | nil => rfl
      | cons e r => obtain ⟨b, off, hA, _⟩ := hc (by simp); cases hA
    subst h0
    exact (AnyE.slices_Clone_nil Tryz.clone26 _ _ w).mono fun e w' ⟨he, hw⟩ => ⟨_, he, ⟨by simp, .inl ⟨rfl, rfl⟩⟩, hw ▸ Only.refl _ _⟩
  · have hsp : sp = none := by
      rcases h0 with hp | h0
      · obtain ⟨b', off', hA, hr⟩ := hc hp
        cases hA
        rfl
      · exact h0 _ _ _ rfl _ rfl
    subst hsp
    have hr : ∀ (j : Nat) (u : Value), (xs.flatMap cEnc)[j]? = some u → w.cell? ⟨b, off + j, none⟩ = some u := by
      intro j u hj
      have hp : 0 < xs.length := by
        cases xs with
        | nil => simp at hj
        | cons e r => simp
      obtain ⟨b', off', hA, hr⟩ := hc hp
      cases hA
      exact hr j u hj
    exact (AnyE.slices_Clone Tryz.clone26 i0 _ 5 56 hi hz0 hz1 hz2 rfl (by decide) size23 b off _ c (xs.flatMap cEnc) w (flat_len cEnc_len xs) (by unfold maxLen; omega) (by omega) hr (cs_one _)).mono fun e' w' ⟨v', he, ho, _, hb⟩ => ⟨v', he, ho, Only.of_below hb⟩
theorem sort_c {w : World} {base n : Nat} {v : Value} {xs : List Clm} (hn : xs.length = n) (h : w.ownsRow base 23 5 v n (xs.flatMap cEnc)) (hl : n ≤ 1000000) :
    Calls Tryz.prog 27 #[v, .func (.func 28) #[] #[]] w fun e w' => e = .returned (.tuple #[]) ∧ w'.ownsRow base 23 5 v n ((rankM xs).flatMap cEnc) ∧ Only (fun i => v.ownBlock = some i) w w' := by
  rcases h.2 with ⟨rfl, h0⟩ | ⟨g, cap, cur, rfl, hb, hh, h1, h2, h3, h4⟩
  · have : xs = [] := List.eq_nil_of_length_eq_zero (by omega)
    subst this
    subst h0
    exact (AnyF.slices_SortFunc_none Tryz.sort27 none 0 _ w).mono fun e w' ⟨he, hw⟩ => ⟨he, hw ▸ (by simpa [rankM] using h), hw ▸ Only.refl _ _⟩
  · obtain ⟨hH, hg⟩ := holdsK_own cEnc_len (by decide) h
    have hc := AnyQ.slices_SortFunc_total Tryz.sort27 5 isAgg23 size23 cEnc cEnc_len cEnc_one cmpM clm_swo 28 #[] g 0 cap xs.toArray w enters28 (cmpLays28 _ _ _ _) hH hg (by simp; omega) clm_parts
    have e1 : xs.toArray.size = n := by simpa using hn
    rw [e1] at hc
    refine hc.mono fun e w' ⟨he, m, os, hw⟩ => ⟨he, ?_, ?_⟩
    · rw [hw]
      have := own_sorted (m := m) (os := os) (d := (rankM xs).toArray) cEnc_len (by decide) hn (by simp [rankM_length, hn]) h
      simpa [rankM] using this
    · rw [hw]
      exact (only_sorted _).mono fun i _ hi => by subst hi; rfl
def RankPost (xs : List Clm) (w : World) (e : Ending) (w' : World) : Prop := ∃ v', e = .returned v' ∧ w'.ownsRow w.heap.size 23 5 v' xs.length ((rankM xs).flatMap cEnc) ∧ Only (fun _ => False) w w'
set_option maxHeartbeats 1000000 in
theorem rank_any {w : World} {v : Value} {xs : List Clm} (h : ReadsC w v xs) (h0 : 0 < xs.length ∨ ∀ A n c, v = .slice A n c → ∀ a, A = some a → a.spot = none) (hl : xs.length ≤ 100000) : Calls Tryz.prog 16 #[v] w (RankPost xs w) := by
  have hC := Lib.hid (clone_c h h0 hl)
  have hS := Lib.hid (fun (W : World) (u : Value) (hr : W.ownsRow w.heap.size 23 5 u xs.length (xs.flatMap cEnc)) => sort_c rfl hr (by omega))
  obtain ⟨A, c, rfl, _⟩ := h
  go_enter Tryz.func16, Tryz.ntmps16
  go_wp2_with (first
    | (go_at_call 26; have hc := hC.out; refine hc.mono ?_; clear hc; rintro e w1 ⟨v1, rfl, hr1, ho1⟩; have hR1 := Lib.hid hr1; obtain ⟨vA, vc, rfl⟩ := own_sl hr1; clear hr1)
    | (go_at_call 27; have hc := hS.out _ _ hR1.out; refine hc.mono ?_; clear hc; rintro e w2 ⟨rfl, hr2, ho2⟩))
  go_ret
  refine ⟨_, rfl, hr2, ho1.trans ho2 fun i hi hf => ?_⟩
  obtain ⟨g, hg⟩ : ∃ g, vA = some g := by cases vA with | none => cases hf | some g => exact ⟨g, rfl⟩
  rcases hR1.out.2 with ⟨h1, _⟩ | ⟨g', cap, cur, he, hb, _⟩
  · injection h1 with h1; rw [h1] at hf; cases hf
  · injection he with he; rw [he] at hf; simp [Value.ownBlock] at hf; omega
end Go.Proofs.YteecfjkljmmecaaGreat
