/- THE ORDER OF ACCOUNTS: a strict weak order; a sorted row of entries with keys of their own is one. -/
import Derived.Test.YtoeokakcdfdjkaaCm
import Derived.Test.YtoeokakcdfdjkaaSr
namespace Go.Proofs.Ytoeokakcdfdjkaa
open Go.RowKit Go.Sort
theorem bytesLess_eq : ∀ (x y : List UInt8), Op.bytesLess x y = decide (x < y)
  | [], [] => by simp [Op.bytesLess]
  | _ :: _, [] => by simp [Op.bytesLess]
  | [], _ :: _ => by simp [Op.bytesLess]
  | a :: x, b :: y => by
    rw [Op.bytesLess, bytesLess_eq x y]
    simp only [List.cons_lt_cons_iff]
    by_cases h1 : a < b <;> by_cases h2 : a = b <;> by_cases h3 : x < y <;> simp [h1, h2, h3]
theorem tl_inj {a b : ByteArray} (h : a.toList = b.toList) : a = b := by
  rw [Lib.toList_data, Lib.toList_data] at h
  exact ByteArray.ext (Array.toList_inj.1 h)
/-- Less, as the model has it. -/
def sLt (a b : ByteArray) : Prop := Op.bytesLess a.toList b.toList = true
instance (a b : ByteArray) : Decidable (sLt a b) := by unfold sLt; infer_instance
theorem sLt_iff {a b : ByteArray} : sLt a b ↔ a.toList < b.toList := by unfold sLt; rw [bytesLess_eq]; simp
theorem sLt_irrefl (a : ByteArray) : ¬ sLt a a := by rw [sLt_iff]; exact List.lt_irrefl _
theorem sLt_trans {a b c : ByteArray} (h : sLt a b) (k : sLt b c) : sLt a c := by rw [sLt_iff] at *; exact List.lt_trans h k
theorem sLt_total {a b : ByteArray} (h : ¬ sLt a b) (hne : a ≠ b) : sLt b a := by
  rw [sLt_iff] at *
  have h1 : b.toList ≤ a.toList := List.not_lt.1 h
  rcases List.le_iff_lt_or_eq.1 h1 with h | h
  · exact h
  · exact absurd (tl_inj h).symm hne
theorem sLt_asymm {a b : ByteArray} (h : sLt a b) : ¬ sLt b a := fun k => sLt_irrefl _ (sLt_trans h k)
theorem scmp_neg {a b : ByteArray} : scmp a b < 0 ↔ sLt a b := by
  unfold scmp sLt
  split
  · rename_i h; simp [h]
  · rename_i h
    split <;> simp [h]
theorem scmp_zero {a b : ByteArray} : scmp a b = 0 ↔ a = b := by
  unfold scmp
  split
  · rename_i h
    constructor
    · omega
    · rintro rfl; exact absurd h (sLt_irrefl a)
  · split
    · rename_i h; simp [tl_inj h]
    · rename_i h
      constructor
      · omega
      · rintro rfl; exact absurd rfl h
theorem firstNot_two (x y : Int) : firstNot [x, y] = if x ≠ 0 then x else y := by
  unfold firstNot
  by_cases hx : x = 0
  · by_cases hy : y = 0 <;> simp [hx, hy]
  · simp [hx]
/-- Less, of two accounts. -/
def kLt (x y : Key) : Prop := sLt x.1 y.1 ∨ (x.1 = y.1 ∧ sLt x.2 y.2)
theorem entCf_neg {x y : Ent} : entCf x y < 0 ↔ kLt x.key y.key := by
  unfold entCf kLt Ent.key
  rw [firstNot_two]
  by_cases h : x.acct = y.acct
  · rw [if_neg (by simp [scmp_zero.2 h]), scmp_neg, h]
    simp [sLt_irrefl]
  · rw [if_pos (fun e => h (scmp_zero.1 e)), scmp_neg]
    simp [h]
theorem kLt_irrefl (x : Key) : ¬ kLt x x := fun h => h.elim (sLt_irrefl _) fun h => sLt_irrefl _ h.2
theorem kLt_trans {x y z : Key} (h : kLt x y) (k : kLt y z) : kLt x z := by
  unfold kLt at *
  rcases h with h | ⟨h1, h2⟩
  · rcases k with k | ⟨k1, k2⟩
    · exact .inl (sLt_trans h k)
    · exact .inl (k1 ▸ h)
  · rcases k with k | ⟨k1, k2⟩
    · exact .inl (h1.symm ▸ k)
    · exact .inr ⟨h1.trans k1, sLt_trans h2 k2⟩
theorem kLt_total {x y : Key} (h : ¬ kLt x y) (hne : x ≠ y) : kLt y x := by
  obtain ⟨x1, x2⟩ := x
  obtain ⟨y1, y2⟩ := y
  unfold kLt at *
  simp only [not_or, not_and] at h
  by_cases e : x1 = y1
  · subst e
    exact .inr ⟨rfl, sLt_total (h.2 rfl) fun e => hne (Prod.ext rfl e)⟩
  · exact .inl (sLt_total h.1 e)
theorem kLt_asymm {x y : Key} (h : kLt x y) : ¬ kLt y x := fun k => kLt_irrefl _ (kLt_trans h k)
theorem ltOf_ent {x y : Ent} : ltOf entCf x y = true ↔ kLt x.key y.key := by unfold ltOf; rw [decide_eq_true_iff]; exact entCf_neg
theorem ent_swo : SWO (ltOf entCf) where
  irrefl x := by rw [Bool.eq_false_iff]; exact fun h => kLt_irrefl _ (ltOf_ent.1 h)
  trans x y z h k := ltOf_ent.2 (kLt_trans (ltOf_ent.1 h) (ltOf_ent.1 k))
  ntrans x y z h k := by
    rw [Bool.eq_false_iff] at *
    intro hz
    have hz := ltOf_ent.1 hz
    have h : ¬ kLt x.key y.key := fun e => h (ltOf_ent.2 e)
    have k : ¬ kLt y.key z.key := fun e => k (ltOf_ent.2 e)
    by_cases e : x.key = y.key
    · exact k (e ▸ hz)
    · exact k (kLt_trans (kLt_total h e) hz)
/-- Rising, each account once. -/
def Rising (x : List Ent) : Prop := x.Pairwise fun a b => kLt a.key b.key
theorem rising_of {x : List Ent} (h : x.Pairwise fun a b => ltOf entCf b a = false) (hn : (x.map Ent.key).Nodup) : Rising x := by
  induction x with
  | nil => exact List.Pairwise.nil
  | cons e r ih =>
    rw [List.pairwise_cons] at h
    rw [List.map_cons, List.nodup_cons] at hn
    refine List.pairwise_cons.2 ⟨fun b hb => ?_, ih h.2 hn.2⟩
    have h1 : ¬ kLt b.key e.key := fun k => by have := h.1 b hb; rw [ltOf_ent.2 k] at this; cases this
    exact kLt_total h1 fun e' => hn.1 (e' ▸ List.mem_map.2 ⟨b, hb, rfl⟩)
theorem rising_one {x y : List Ent} (hx : Rising x) (hy : Rising y) (hp : x.Perm y) : x = y := by
  unfold Rising at hx hy
  exact List.Perm.eq_of_pairwise (fun a b _ _ h k => absurd k (kLt_asymm h)) hx hy hp
end Go.Proofs.Ytoeokakcdfdjkaa
