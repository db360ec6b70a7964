/- THE ORDER OF CLAIMANTS, PURE: by right, day, name, the greater sum, thing: a strict total order. -/
import Derived.Test.YteecfjkljmmecaaGreatFi
import Derived.Sort.Statements
namespace Go.Proofs.YteecfjkljmmecaaGreat
open Go.RowKit Go.Sort
/-- Below 0, 0, above 0: what a comparison tells. -/
theorem icmp_neg {a b : Int} : icmp a b < 0 ↔ a < b := by unfold icmp; split <;> (try split) <;> omega
theorem icmp_zero {a b : Int} : icmp a b = 0 ↔ a = b := by unfold icmp; split <;> (try split) <;> omega
theorem icmp_swap (a b : Int) : icmp b a = -icmp a b := by unfold icmp; split <;> (try split) <;> (try split) <;> omega
theorem icmp_bd (a b : Int) : -1 ≤ icmp a b ∧ icmp a b ≤ 1 := by unfold icmp; split <;> (try split) <;> omega
theorem cmpB_neg : ∀ {a b : List UInt8}, Lib.compareBytes a b < 0 ↔ a < b
  | [], [] => by simp [Lib.compareBytes]
  | [], _ :: _ => by simp [Lib.compareBytes]
  | _ :: _, [] => by simp [Lib.compareBytes]
  | a :: xs, b :: bs => by
    unfold Lib.compareBytes
    rw [List.cons_lt_cons_iff]
    by_cases h1 : a < b
    · simp [h1]
    · by_cases h2 : b < a
      · have h3 : a ≠ b := fun e => by subst e; exact h1 h2
        simp [h1, h2, h3]
      · have h3 : a = b := UInt8.le_antisymm (by simpa using h2) (by simpa using h1)
        subst h3
        simp [cmpB_neg (a := xs) (b := bs)]
theorem cmpB_swap : ∀ (a b : List UInt8), Lib.compareBytes b a = -Lib.compareBytes a b
  | [], [] => rfl
  | [], _ :: _ => rfl
  | _ :: _, [] => rfl
  | a :: xs, b :: bs => by
    unfold Lib.compareBytes
    by_cases h1 : a < b
    · have h2 : ¬ b < a := fun h2 => by simp only [UInt8.lt_iff_toNat_lt] at *; omega
      simp [h1, h2]
    · by_cases h2 : b < a
      · simp [h1, h2]
      · simp [h1, h2, cmpB_swap xs bs]
theorem cmpB_zero {a b : List UInt8} : Lib.compareBytes a b = 0 ↔ a = b := by
  constructor
  · intro h
    have h1 : ¬ a < b := fun h' => by have := cmpB_neg.2 h'; omega
    have h2 : ¬ b < a := fun h' => by have := cmpB_neg.2 h'; rw [cmpB_swap] at this; omega
    exact List.le_antisymm (List.not_lt.1 h2) (List.not_lt.1 h1)
  · rintro rfl
    have h1 : ¬ Lib.compareBytes a a < 0 := fun h' => List.lt_irrefl a (cmpB_neg.1 h')
    have h2 := cmpB_swap a a
    omega
theorem cmpB_bd : ∀ (a b : List UInt8), -1 ≤ Lib.compareBytes a b ∧ Lib.compareBytes a b ≤ 1
  | [], [] => by simp [Lib.compareBytes]
  | [], _ :: _ => by simp [Lib.compareBytes]
  | _ :: _, [] => by simp [Lib.compareBytes]
  | a :: xs, b :: bs => by
    unfold Lib.compareBytes
    split
    · omega
    · split
      · omega
      · exact cmpB_bd xs bs
def sLt (a b : ByteArray) : Prop := a.data.toList < b.data.toList
theorem ba_inj {a b : ByteArray} (h : a.data.toList = b.data.toList) : a = b := ByteArray.ext (Array.toList_inj.1 h)
theorem scmp_neg {a b : ByteArray} : scmp a b < 0 ↔ sLt a b := cmpB_neg
theorem scmp_zero {a b : ByteArray} : scmp a b = 0 ↔ a = b := ⟨fun h => ba_inj (cmpB_zero.1 h), fun h => by subst h; exact cmpB_zero.2 rfl⟩
theorem scmp_swap (a b : ByteArray) : scmp b a = -scmp a b := cmpB_swap _ _
theorem scmp_bd (a b : ByteArray) : -1 ≤ scmp a b ∧ scmp a b ≤ 1 := cmpB_bd _ _
theorem sLt_irrefl (a : ByteArray) : ¬ sLt a a := List.lt_irrefl _
theorem sLt_trans {a b c : ByteArray} (h : sLt a b) (k : sLt b c) : sLt a c := List.lt_trans h k
/-- Worse comes behind: what the first ground tells, as one number. -/
def cmpM (a b : Clm) : Int := (firstM a b).2
/-- a stands ahead of b. -/
structure Ahead (a b : Clm) : Prop where
  of : a.right < b.right ∨ (a.right = b.right ∧ (a.day < b.day ∨ (a.day = b.day ∧ (sLt a.name b.name ∨ (a.name = b.name ∧ (b.amt < a.amt ∨ (a.amt = b.amt ∧ sLt a.thing b.thing)))))))
def lex (x0 x1 x2 x3 x4 : Int) : Int := if x0 ≠ 0 then x0 else if x1 ≠ 0 then x1 else if x2 ≠ 0 then x2 else if x3 ≠ 0 then x3 else x4
theorem cmpM_lex (a b : Clm) : cmpM a b = lex (c0 a b) (c1 a b) (c2 a b) (c3 a b) (c4 a b) := by
  unfold cmpM firstM lex
  by_cases h0 : c0 a b = 0
  · by_cases h1 : c1 a b = 0
    · by_cases h2 : c2 a b = 0
      · by_cases h3 : c3 a b = 0
        · by_cases h4 : c4 a b = 0 <;> simp [h0, h1, h2, h3, h4]
        · simp [h0, h1, h2, h3]
      · simp [h0, h1, h2]
    · simp [h0, h1]
  · simp [h0]
theorem lex_neg (x0 x1 x2 x3 x4 : Int) : lex x0 x1 x2 x3 x4 < 0 ↔ x0 < 0 ∨ (x0 = 0 ∧ (x1 < 0 ∨ (x1 = 0 ∧ (x2 < 0 ∨ (x2 = 0 ∧ (x3 < 0 ∨ (x3 = 0 ∧ x4 < 0))))))) := by
  unfold lex
  split
  · omega
  · split
    · omega
    · split
      · omega
      · split <;> omega
theorem lex_zero (x0 x1 x2 x3 x4 : Int) : lex x0 x1 x2 x3 x4 = 0 ↔ x0 = 0 ∧ x1 = 0 ∧ x2 = 0 ∧ x3 = 0 ∧ x4 = 0 := by
  unfold lex
  split
  · omega
  · split
    · omega
    · split
      · omega
      · split <;> omega
theorem lex_swap (x0 x1 x2 x3 x4 : Int) : lex (-x0) (-x1) (-x2) (-x3) (-x4) = -lex x0 x1 x2 x3 x4 := by
  unfold lex
  repeat' split
  all_goals omega
theorem cmpM_neg {a b : Clm} : cmpM a b < 0 ↔ Ahead a b := by
  rw [cmpM_lex, lex_neg]
  unfold c0 c1 c2 c3 c4
  rw [icmp_neg, icmp_zero, icmp_neg, icmp_zero, scmp_neg, scmp_zero, icmp_neg, icmp_zero, scmp_neg]
  constructor
  · intro h
    refine ⟨?_⟩
    rcases h with h | ⟨h0, h | ⟨h1, h | ⟨h2, h | ⟨h3, h⟩⟩⟩⟩
    · exact .inl h
    · exact .inr ⟨h0, .inl h⟩
    · exact .inr ⟨h0, .inr ⟨h1, .inl h⟩⟩
    · exact .inr ⟨h0, .inr ⟨h1, .inr ⟨h2, .inl h⟩⟩⟩
    · exact .inr ⟨h0, .inr ⟨h1, .inr ⟨h2, .inr ⟨h3.symm, h⟩⟩⟩⟩
  · rintro ⟨h⟩
    rcases h with h | ⟨h0, h | ⟨h1, h | ⟨h2, h | ⟨h3, h⟩⟩⟩⟩
    · exact .inl h
    · exact .inr ⟨h0, .inl h⟩
    · exact .inr ⟨h0, .inr ⟨h1, .inl h⟩⟩
    · exact .inr ⟨h0, .inr ⟨h1, .inr ⟨h2, .inl h⟩⟩⟩
    · exact .inr ⟨h0, .inr ⟨h1, .inr ⟨h2, .inr ⟨h3.symm, h⟩⟩⟩⟩
theorem cmpM_swap (a b : Clm) : cmpM b a = -cmpM a b := by
  rw [cmpM_lex, cmpM_lex, ← lex_swap]
  unfold c0 c1 c2 c3 c4
  rw [icmp_swap a.right b.right, icmp_swap a.day b.day, scmp_swap a.name b.name, icmp_swap b.amt a.amt, scmp_swap a.thing b.thing]
theorem cmpM_zero {a b : Clm} : cmpM a b = 0 ↔ a = b := by
  rw [cmpM_lex, lex_zero]
  unfold c0 c1 c2 c3 c4
  rw [icmp_zero, icmp_zero, scmp_zero, icmp_zero, scmp_zero]
  constructor
  · rintro ⟨h0, h1, h2, h3, h4⟩
    obtain ⟨a1, a2, a3, a4, a5⟩ := a
    obtain ⟨b1, b2, b3, b4, b5⟩ := b
    simp only at h0 h1 h2 h3 h4
    rw [h0, h1, h2, h3, h4]
  · rintro rfl
    simp
theorem cmpM_bd (a b : Clm) : -1 ≤ cmpM a b ∧ cmpM a b ≤ 1 := by
  rw [cmpM_lex]
  have h0 := icmp_bd a.right b.right
  have h1 := icmp_bd a.day b.day
  have h2 := scmp_bd a.name b.name
  have h3 := icmp_bd b.amt a.amt
  have h4 := scmp_bd a.thing b.thing
  unfold lex c0 c1 c2 c3 c4
  repeat' split
  all_goals omega
theorem Ahead.irrefl (a : Clm) : ¬ Ahead a a := fun h => by have := cmpM_neg.2 h; rw [cmpM_zero.2 rfl] at this; omega
theorem Ahead.trans {a b c : Clm} (h : Ahead a b) (k : Ahead b c) : Ahead a c := by
  obtain ⟨h⟩ := h
  obtain ⟨k⟩ := k
  refine ⟨?_⟩
  rcases h with h | ⟨h0, h⟩
  · rcases k with k | ⟨k0, k⟩ <;> (left; omega)
  · rcases k with k | ⟨k0, k⟩
    · left; omega
    · right
      refine ⟨by omega, ?_⟩
      rcases h with h | ⟨h1, h⟩
      · rcases k with k | ⟨k1, k⟩ <;> (left; omega)
      · rcases k with k | ⟨k1, k⟩
        · left; omega
        · right
          refine ⟨by omega, ?_⟩
          rcases h with h | ⟨h2, h⟩
          · rcases k with k | ⟨k2, k⟩
            · left; exact sLt_trans h k
            · left; exact k2 ▸ h
          · rcases k with k | ⟨k2, k⟩
            · left; exact h2 ▸ k
            · right
              refine ⟨h2.trans k2, ?_⟩
              rcases h with h | ⟨h3, h⟩
              · rcases k with k | ⟨k3, k⟩ <;> (left; omega)
              · rcases k with k | ⟨k3, k⟩
                · left; omega
                · exact .inr ⟨by omega, sLt_trans h k⟩
theorem Ahead.total {a b : Clm} (h : ¬ Ahead a b) (hne : a ≠ b) : Ahead b a := by
  have h1 : ¬ cmpM a b < 0 := fun e => h (cmpM_neg.1 e)
  have h2 : cmpM a b ≠ 0 := fun e => hne (cmpM_zero.1 e)
  exact cmpM_neg.1 (by rw [cmpM_swap]; omega)
theorem Ahead.asymm {a b : Clm} (h : Ahead a b) : ¬ Ahead b a := fun k => Ahead.irrefl _ (h.trans k)
end Go.Proofs.YteecfjkljmmecaaGreat
