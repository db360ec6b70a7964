/- WALK: share.Split. -/
import Derived.Test.YteecfjkljmmecaaGreatSp
import Derived.Deep.OwnRows
namespace Go.Proofs.YteecfjkljmmecaaGreat
open Go.RowKit Go.Sort Go.Shelf
theorem info2 : (Tryz.prog.info? 2).map (fun i => (i.zero, i.size, i.bytes)) = some (some (.int .i64 0), 1, 8) := by kernel_rfl
theorem info3 : (Tryz.prog.info? 3).map (fun i => (i.zero, i.size, i.bytes)) = some (some (.int .i64 0), 1, 8) := by kernel_rfl
theorem info78 : (Tryz.prog.info? 78).map (fun i => (i.zero, i.size, i.bytes)) = some (some (.int .u64 0), 1, 8) := by kernel_rfl
theorem sum_nonneg {l : List Int} (h : ∀ x ∈ l, 0 ≤ x) : 0 ≤ sumI l := by
  induction l with
  | nil => simp
  | cons x r ih =>
    have := h x (by simp)
    have := ih fun y hy => h y (by simp [hy])
    simp only [sumI_cons]; omega
theorem sum_le {l : List Int} {m : Int} (h : ∀ x ∈ l, x ≤ m) : sumI l ≤ l.length * m := by
  induction l with
  | nil => simp
  | cons x r ih =>
    have := h x (by simp)
    have := ih fun y hy => h y (by simp [hy])
    simp only [sumI_cons, List.length_cons, Int.natCast_add, Int.add_mul, Int.natCast_one, Int.one_mul]; omega
theorem sum_pos {l : List Int} (h : ∀ x ∈ l, 0 ≤ x) {x : Int} (hx : x ∈ l) (hp : 0 < x) : 0 < sumI l := by
  induction l with
  | nil => simp at hx
  | cons y r ih =>
    have h1 := h y (by simp)
    have h2 := sum_nonneg (l := r) fun z hz => h z (by simp [hz])
    simp only [sumI_cons]
    rcases List.mem_cons.1 hx with rfl | hx
    · omega
    · have := ih (fun z hz => h z (by simp [hz])) hx
      omega
theorem sum_mem_le {l : List Int} (h : ∀ x ∈ l, 0 ≤ x) {x : Int} (hx : x ∈ l) : x ≤ sumI l := by
  induction l with
  | nil => simp at hx
  | cons y r ih =>
    have h1 := h y (by simp)
    have h2 := sum_nonneg (l := r) fun z hz => h z (by simp [hz])
    simp only [sumI_cons]
    rcases List.mem_cons.1 hx with rfl | hx
    · omega
    · have := ih (fun z hz => h z (by simp [hz])) hx
      omega
theorem wrong_ok {t : Int} {xs : List Int} (h : wrongM t xs = 0) : 0 ≤ t ∧ t ≤ 1099511627776 ∧ 0 < xs.length ∧ xs.length ≤ 4096 ∧ (∀ x ∈ xs, 0 ≤ x ∧ x ≤ 1099511627776) ∧ (t ≠ 0 → 0 < sumI xs) := by
  unfold wrongM at h
  by_cases h1 : t < 0 ∨ xs.length = 0 ∨ (xs.any fun x => decide (x < 0)) = true
  · rw [if_pos h1] at h; cases h
  · rw [if_neg h1] at h
    by_cases h2 : 1099511627776 < t ∨ (xs.any fun x => decide (1099511627776 < x)) = true ∨ 4096 < xs.length
    · rw [if_pos h2] at h; cases h
    · rw [if_neg h2] at h
      by_cases h3 : 0 < t ∧ (xs.any fun x => decide (0 < x)) = false
      · rw [if_pos h3] at h; cases h
      · have ha : ∀ x ∈ xs, 0 ≤ x ∧ x ≤ 1099511627776 := fun x hx => by
          constructor
          · apply Int.le_of_not_gt
            intro hn
            exact h1 (.inr (.inr (List.any_eq_true.2 ⟨x, hx, by simpa using hn⟩)))
          · apply Int.le_of_not_gt
            intro hn
            exact h2 (.inr (.inl (List.any_eq_true.2 ⟨x, hx, by simpa using hn⟩)))
        refine ⟨by omega, by omega, by omega, by omega, ha, fun ht => ?_⟩
        have h4 : (xs.any fun x => decide (0 < x)) = true := by
          rw [← Bool.not_eq_false]
          intro hf
          exact h3 ⟨by omega, hf⟩
        obtain ⟨x, hx, hp⟩ := List.any_eq_true.1 h4
        exact sum_pos (fun y hy => (ha y hy).1) hx (by simpa using hp)
def SplitPost (t : Int) (xs : List Int) (w : World) (e : Ending) (w' : World) : Prop := ∃ v', e = .returned (.tuple #[v', .int .i64 0]) ∧ ReadsI w' v' (splitM t xs) ∧ Only (fun _ => False) w w' ∧ ∀ b, v'.ownBlock = some b → w.heap.size ≤ b
theorem reads_row {w : World} {b : Nat} {ty : TypeId} {n c : Nat} {f : Nat → Value} (h : w.rowIs b ty n f) {xs : List Int} (hn : xs.length = n) (hf : ∀ i x, xs[i]? = some x → f i = .int .i64 x) : ReadsI w (.slice (some ⟨b, 0, none⟩) n c) xs := by
  refine ⟨_, c, by rw [hn], fun i x hx => ⟨b, 0, rfl, ?_⟩⟩
  have hi : i < n := by rw [← hn]; exact (List.getElem?_eq_some_iff.1 hx).1
  rw [Nat.zero_add, h.cell hi, hf i x hx]
set_option maxHeartbeats 4000000 in
theorem split0_any (w : World) {v : Value} {xs : List Int} (h : ReadsI w v xs) (hok : wrongM 0 xs = 0) : Calls Tryz.prog 30 #[.int .i64 0, v] w (SplitPost 0 xs w) := by
  obtain ⟨o1, o2, o3, o4, o5, o6⟩ := wrong_ok hok
  have hW0 := wrong_any w 0 h (by omega)
  rw [hok] at hW0
  have hW := Lib.hid hW0
  clear hW0 hok o5 o6
  have hm1 := run_make_row' (P := Tryz.prog) 35 2 (.int .i64 0) 8 Tryz.underlying35 info2 rfl .i64 .i64 xs.length (by omega) (by omega)
  obtain ⟨A, c, rfl, _⟩ := h
  go_enter Tryz.func30, Tryz.ntmps30
  go_wp2_with (first
    | (go_at_call 41; refine hW.out.mono ?_; clear hW; rintro e w' ⟨rfl, rfl⟩))
  go_ret2
  refine ⟨_, rfl, reads_row (World.rowIs_made _ _ _ _) (by simp [splitM]) (fun i x hx => ?_), (Only.refl _ _).alloc _, fun b hb => by cases hb; exact Nat.le_refl _⟩
  simp only [splitM, if_pos, List.getElem?_map, Option.map_eq_some_iff] at hx
  obtain ⟨_, _, rfl⟩ := hx
  rfl
end Go.Proofs.YteecfjkljmmecaaGreat
