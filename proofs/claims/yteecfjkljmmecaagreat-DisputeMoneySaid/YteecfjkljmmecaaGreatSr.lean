/- A ROW OF STRUCTS, SORTED BY THE LIBRARY: what lies in memory ahead of it and behind it. -/
import Derived.Test.YteecfjkljmmecaaGreatBase
import Derived.Shelf.GgSortFunc.InsertionK
import Derived.Sort.Statements
namespace Go.Proofs.YteecfjkljmmecaaGreat
open Go.RowKit Go.Sort
section
variable {α : Type} [Inhabited α] {enc : α → List Value} {k : Nat}
theorem flat_at (hk : ∀ x, (enc x).length = k) (h0 : 0 < k) : ∀ (l : List α) (t : Nat), t < l.length * k → (l.flatMap enc)[t]? = some ((enc l[t / k]!)[t % k]!)
  | [], t, h => by simp at h
  | x :: r, t, h => by
    rw [List.flatMap_cons]
    by_cases ht : t < k
    · rw [List.getElem?_append_left (by rw [hk]; exact ht), Nat.div_eq_of_lt ht, Nat.mod_eq_of_lt ht]
      have hx : t < (enc x).length := by rw [hk]; exact ht
      simp only [List.getElem!_cons_zero]
      rw [List.getElem?_eq_getElem hx, getElem!_pos (enc x) t hx]
    · rw [List.getElem?_append_right (by rw [hk]; omega), hk]
      have e1 : t / k = (t - k) / k + 1 := by
        conv => lhs; rw [show t = t - k + k by omega]
        exact Nat.add_div_right _ h0
      have e2 : t % k = (t - k) % k := by
        conv => lhs; rw [show t = t - k + k by omega]
        exact Nat.add_mod_right _ _
      rw [e1, e2, flat_at hk h0 r (t - k) (by simp only [List.length_cons, Nat.add_mul, Nat.one_mul] at h; omega)]
      simp
omit [Inhabited α] in
theorem flat_len (hk : ∀ x, (enc x).length = k) (l : List α) : (l.flatMap enc).length = l.length * k := by
  induction l with
  | nil => simp
  | cons x r ih => rw [List.flatMap_cons, List.length_append, hk, ih, List.length_cons, Nat.add_mul]; omega
theorem flatK_toList (hk : ∀ x, (enc x).length = k) (h0 : 0 < k) (d : Array α) : (flatK enc k d).toList = d.toList.flatMap enc := by
  apply List.ext_getElem?
  intro t
  by_cases ht : t < d.size * k
  · rw [flat_at hk h0 d.toList t (by simpa using ht)]
    have := get_flatK enc k d t ht
    rw [getElem!_pos _ t (by simpa using ht)] at this
    have hlt : t / k < d.size := Nat.div_lt_of_lt_mul (by rw [Nat.mul_comm]; exact ht)
    rw [Array.getElem?_toList, Array.getElem?_eq_getElem (by simpa using ht), this, getElem!_pos d (t / k) hlt, getElem!_pos d.toList (t / k) (by simpa using hlt), Array.getElem_toList]
  · rw [List.getElem?_eq_none (by simp; omega), List.getElem?_eq_none (by rw [flat_len hk]; simp; omega)]
theorem holdsK_own (hk : ∀ x, (enc x).length = k) (h0 : 0 < k) {w : World} {base g c n : Nat} {e : TypeId} {xs : List α} (h : w.ownsRow base e k (.slice (some ⟨g, 0, none⟩) n c) n (xs.flatMap enc)) : HoldsK enc k w g 0 xs.toArray ∧ g < w.heap.size := by
  rcases h.2 with ⟨h, _⟩ | ⟨g', cap, cur, he, hb, hh, h1, h2, h3, h4⟩
  · cases h
  · injection he with he1 _ he2
    injection he1 with he1
    injection he1 with he1
    subst he1
    refine ⟨fun j hj => ?_, (Array.getElem?_eq_some_iff.1 hh).1⟩
    have hj' : j < xs.length * k := by simpa using hj
    have hjc : (xs.flatMap enc)[j]? = some ((flatK enc k xs.toArray)[j]!) := by
      rw [flat_at hk h0 xs j hj', get_flatK enc k xs.toArray j (by simpa using hj')]
      simp
    rw [← h4, List.getElem?_take] at hjc
    split at hjc
    · exact ⟨by simp only [World.cell?, hh]; simpa using hjc, by simp [World.frozen?, hh]⟩
    · cases hjc
theorem only_sorted {w : World} {g m : Nat} {os : Array Obj} (d : Array α) : Only (fun i => i = g) w (sortWorldK enc k w g 0 m d os) := by
  refine ⟨rfl, rfl, rfl, by simp [sortWorldK, putRowK, putRow, mapBlock, Sort.ahead], fun i hi hne => ?_⟩
  unfold sortWorldK
  simp only [grow, putRowK, putRow, mapBlock, Sort.ahead]
  rw [Array.getElem?_append_left (by simpa using hi), Array.getElem?_modify, if_neg (fun e => hne e.symm)]
theorem own_sorted (hk : ∀ x, (enc x).length = k) (h0 : 0 < k) {w : World} {base g c n m : Nat} {e : TypeId} {os : Array Obj} {xs : List α} {d : Array α} (hn : xs.length = n) (hd : d.size = n) (h : w.ownsRow base e k (.slice (some ⟨g, 0, none⟩) n c) n (xs.flatMap enc)) :
    (sortWorldK enc k w g 0 m d os).ownsRow base e k (.slice (some ⟨g, 0, none⟩) n c) n (d.toList.flatMap enc) := by
  refine ⟨by rw [flat_len hk]; simp [hd], .inr ?_⟩
  rcases h.2 with ⟨h, _⟩ | ⟨g', cap, cur, he, hb, hh, h1, h2, h3, h4⟩
  · cases h
  · injection he with he1 _ he2
    injection he1 with he1
    injection he1 with he1
    subst he1 he2
    have hlt := (Array.getElem?_eq_some_iff.1 hh).1
    have hnk : n * k ≤ cur.size := by
      have := congrArg List.length h4
      rw [flat_len hk, List.length_take, hn] at this
      simp at this; omega
    refine ⟨g, c, putCells id 0 (flatK enc k d) cur, rfl, hb, ?_, h1, h2, by simpa [putCells] using h3, ?_⟩
    · unfold sortWorldK
      simp only [grow, putRowK, putRow, mapBlock, Sort.ahead]
      rw [Array.getElem?_append_left (by simpa using hlt), Array.getElem?_modify, if_pos rfl, hh]
      rfl
    · rw [← flatK_toList hk h0]
      apply List.ext_getElem?
      intro j
      by_cases hj : j < n * k
      · rw [List.getElem?_take, if_pos hj, Array.getElem?_toList, Array.getElem?_toList]
        simp only [putCells, Array.getElem?_mapIdx]
        rw [Array.getElem?_eq_getElem (show j < cur.size by omega), Option.map_some, if_pos ⟨by omega, by simp [hd]; omega⟩]
        rw [Array.getElem?_eq_getElem (show j < (flatK enc k d).size by simp [hd]; omega), Nat.sub_zero, getElem!_pos (flatK enc k d) j (by simp [hd]; omega)]
        rfl
      · rw [List.getElem?_eq_none (by simp; omega), List.getElem?_eq_none (by simp [hd]; omega)]
theorem perm_of_in {d d' : Array α} (h : PermIn 0 d.size d d') : d'.toList.Perm d.toList := by
  obtain ⟨h1, _, h3⟩ := h
  rw [← h1] at h3
  have e1 : d'.extract 0 d'.size = d' := by simp
  have e2 : d.extract 0 d'.size = d := by rw [h1]; simp
  rwa [e1, e2] at h3
theorem sorted_of_in {lt : α → α → Bool} {d : Array α} (h : SortedIn lt 0 d.size d) : d.toList.Pairwise fun x y => lt y x = false := by
  rw [List.pairwise_iff_getElem]
  intro i j hi hj hij
  have := h i j (Nat.zero_le _) hij (by simpa using hj)
  rw [getElem!_pos d i (by simpa using hi), getElem!_pos d j (by simpa using hj)] at this
  simpa using this
end
end Go.Proofs.YteecfjkljmmecaaGreat
