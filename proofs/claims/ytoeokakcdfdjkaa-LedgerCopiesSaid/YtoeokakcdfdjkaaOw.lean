/- slices.Clone at []Post. -/
import Derived.Test.YtoeokakcdfdjkaaTk
namespace Go.Proofs.Ytoeokakcdfdjkaa
open Go.RowKit Go.Shelf
theorem postCells_length {P : List PostM} {vs : List Value} (h : vs.length = P.length) : (postCells P vs).length = P.length * 3 := by
  induction P generalizing vs with
  | nil =>
    have : vs = [] := List.eq_nil_of_length_eq_zero (by simpa using h)
    subst this; rfl
  | cons p r ih =>
    cases vs with
    | nil => simp at h
    | cons u us =>
      simp only [List.length_cons, Nat.add_right_cancel_iff] at h
      simp [postCells, ih h]; omega
theorem postCells_one {P : List PostM} {vs : List Value} (h : ∀ v ∈ vs, v.oneCell' = true) : ∀ u ∈ postCells P vs, u.oneCell' = true := by
  induction P generalizing vs with
  | nil => cases vs <;> simp [postCells]
  | cons p r ih =>
    cases vs with
    | nil => simp [postCells]
    | cons x us =>
      intro u hu
      simp only [postCells, List.mem_cons] at hu
      rcases hu with rfl | rfl | rfl | hu
      · rfl
      · rfl
      · exact h _ (by simp)
      · exact ih (fun v hv => h v (by simp [hv])) u hu
theorem size46 (w : World) : (Go.sizeOf 46).run Try.prog w = .ok 3 w := by kernel_rfl
/-- slices.Clone of the row of posts: a new row with the same cells. -/
theorem clone_posts {w : World} {v : Value} {P : List PostM} (h : PostsAt w v P) (hl : P.length ≤ 100000) :
    Calls Try.prog 62 #[v] w fun e w' => ∃ v' evs, e = .returned v' ∧ evs.length = P.length ∧ w'.ownsRow w.heap.size 46 3 v' P.length (postCells P evs) ∧ (∀ (j : Nat) (p : PostM) (u : Value), P[j]? = some p → evs[j]? = some u → w.ownsRow 0 44 3 u p.ents.length (entCells p.ents)) ∧ Only (fun _ => False) w w' := by
  obtain ⟨evs, hel, hrow, hents⟩ := h
  obtain ⟨i0, hi, hz0, hz1, hz2⟩ := info_parts info46
  rcases hrow.2 with ⟨rfl, h0⟩ | ⟨g, cap, cur, rfl, hb, hh, h1, h2, h3, h4⟩
  · have hP : P = [] := List.eq_nil_of_length_eq_zero h0
    subst hP
    exact (AnyE.slices_Clone_nil Try.clone62 _ _ w).mono fun e w' ⟨he, hw⟩ => ⟨_, [], he, rfl, ⟨by simp [postCells], .inl ⟨rfl, rfl⟩⟩, fun j p u hj => by simp at hj, hw ▸ Only.refl _ _⟩
  · have hr : ∀ (j : Nat) (u : Value), (postCells P evs)[j]? = some u → w.cell? ⟨g, 0 + j, none⟩ = some u := by
      intro j u hj
      rw [← h4, List.getElem?_take] at hj
      split at hj
      · simp only [World.cell?, hh]
        simpa using hj
      · cases hj
    have hone : ∀ u ∈ evs, u.oneCell' = true := by
      intro u hu
      obtain ⟨j, hj⟩ := List.getElem?_of_mem hu
      obtain ⟨p, hp⟩ : ∃ p, P[j]? = some p := by
        have := (List.getElem?_eq_some_iff.1 hj).1
        exact ⟨P[j], List.getElem?_eq_getElem (by omega)⟩
      obtain ⟨A, c, rfl⟩ := own_sl (hents j p u hp hj)
      rfl
    exact (AnyE.slices_Clone Try.clone62 i0 _ 3 48 hi hz0 hz1 hz2 rfl (by decide) size46 g 0 _ cap (postCells P evs) w (postCells_length hel) (by unfold maxLen; omega) (by omega) hr (postCells_one hone)).mono fun e' w' ⟨v', he, ho, _, hb⟩ => ⟨v', evs, he, hel, ho, hents, Only.of_below hb⟩
theorem postCells_at {P : List PostM} {vs : List Value} (h : vs.length = P.length) {i : Nat} {p : PostM} {v : Value} (hp : P[i]? = some p) (hv : vs[i]? = some v) : (postCells P vs)[3 * i + 2]? = some v := by
  induction P generalizing vs i with
  | nil => simp at hp
  | cons q r ih =>
    cases vs with
    | nil => simp at h
    | cons u us =>
      simp only [List.length_cons, Nat.add_right_cancel_iff] at h
      cases i with
      | zero => simp at hv; subst hv; simp [postCells]
      | succ i =>
        have := ih h (i := i) (by simpa using hp) (by simpa using hv)
        have e1 : 3 * (i + 1) + 2 = 3 * i + 2 + 3 := by omega
        rw [e1]
        simpa [postCells] using this
theorem postCells_set {P : List PostM} {vs : List Value} (h : vs.length = P.length) (i : Nat) (u : Value) : (postCells P vs).set (3 * i + 2) u = postCells P (vs.set i u) := by
  induction P generalizing vs i with
  | nil => cases vs <;> simp [postCells]
  | cons q r ih =>
    cases vs with
    | nil => simp at h
    | cons x us =>
      simp only [List.length_cons, Nat.add_right_cancel_iff] at h
      cases i with
      | zero => simp [postCells]
      | succ i =>
        have e1 : 3 * (i + 1) + 2 = 3 * i + 2 + 3 := by omega
        rw [e1]
        simp [postCells, ih h]
/-- A store into a row of its own. -/
theorem ownsRow_set {w : World} {base : Nat} {e : TypeId} {size n c g : Nat} {xs : List Value} (h : w.ownsRow base e size (.slice (some ⟨g, 0, none⟩) n c) n xs) (j : Nat) (u : Value) : (w.setCell ⟨g, j, none⟩ u).ownsRow base e size (.slice (some ⟨g, 0, none⟩) n c) n (xs.set j u) := by
  obtain ⟨h0, h⟩ := h
  refine ⟨by simpa using h0, .inr ?_⟩
  rcases h with ⟨h, _⟩ | ⟨g', cap, cur, he, hb, hh, h1, h2, h3, h4⟩
  · cases h
  · injection he with he1 _ he2
    injection he1 with he1
    injection he1 with he1
    subst he1 he2
    refine ⟨g, c, cur.setIfInBounds j u, rfl, hb, heap_setCell_at hh u, h1, h2, by simpa using h3, ?_⟩
    rw [← h4]
    simp [List.take_set]
end Go.Proofs.Ytoeokakcdfdjkaa
