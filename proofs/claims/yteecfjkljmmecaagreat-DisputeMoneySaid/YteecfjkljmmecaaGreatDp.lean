/- PURE: two digits of a division (what math/bits.Div64 steps through), over Nat. -/
import Derived.Lib.Mul64
namespace Go.Proofs.YteecfjkljmmecaaGreat.Dv
theorem mulY (q yn1 yn0 B : Nat) : q * (yn1 * B + yn0) = q * yn1 * B + q * yn0 := by rw [Nat.mul_add, Nat.mul_assoc]
theorem brk {q yn1 yn0 r B u1 u32 : Nat} (hqr : q * yn1 + r = u32) (hr : B ≤ r) (hq : q ≤ B) (h0 : yn0 < B) : q * (yn1 * B + yn0) ≤ u32 * B + u1 := by
  have h1 : q * yn0 ≤ B * B := Nat.mul_le_mul hq (by omega)
  have h2 : B * B ≤ r * B := Nat.mul_le_mul_right B hr
  rw [mulY, ← hqr, Nat.add_mul]
  omega
theorem out {q yn1 yn0 r B u1 u32 : Nat} (hqr : q * yn1 + r = u32) (h : q * yn0 ≤ B * r + u1) : q * (yn1 * B + yn0) ≤ u32 * B + u1 := by
  rw [mulY, ← hqr, Nat.add_mul, Nat.mul_comm r B]
  omega
theorem big {q y B u1 u32 : Nat} (hb : B ≤ q) (hu : u32 < y) (hu1 : u1 < B) : u32 * B + u1 < q * y := by
  have h1 : (u32 + 1) * B ≤ y * B := Nat.mul_le_mul_right B hu
  have h2 : y * B ≤ y * q := Nat.mul_le_mul_left y hb
  rw [Nat.add_mul] at h1
  rw [Nat.mul_comm q y]
  omega
theorem tst {q yn1 yn0 r B u1 u32 : Nat} (hqr : q * yn1 + r = u32) (h : B * r + u1 < q * yn0) : u32 * B + u1 < q * (yn1 * B + yn0) := by
  rw [mulY, ← hqr, Nat.add_mul, Nat.mul_comm r B]
  omega
/-- One digit, settled. -/
theorem digit {q y N : Nat} (h : q * y ≤ N) (h' : N < (q + 1) * y) : N / y = q ∧ N % y = N - q * y := by
  have hy : 0 < y := by
    cases y with
    | zero => simp at h'
    | succ n => omega
  have e : N / y = q := by
    apply Nat.le_antisymm
    · exact Nat.le_of_lt_succ ((Nat.div_lt_iff_lt_mul hy).2 h')
    · exact (Nat.le_div_iff_mul_le hy).2 h
  refine ⟨e, ?_⟩
  have := Nat.div_add_mod N y
  rw [e, Nat.mul_comm] at this
  omega
theorem start {yn1 yn0 u1 u32 : Nat} (h1 : 2147483648 ≤ yn1) (h0 : yn0 < 4294967296) (hu : u32 < yn1 * 4294967296 + yn0) (hu1 : u1 < 4294967296) :
    u32 / yn1 * yn1 + u32 % yn1 = u32 ∧ u32 * 4294967296 + u1 < (u32 / yn1 + 1) * (yn1 * 4294967296 + yn0) ∧ u32 % yn1 < yn1 ∧ u32 / yn1 ≤ 4294967297 := by
  have e := Nat.div_add_mod' u32 yn1
  have hm : u32 % yn1 < yn1 := Nat.mod_lt _ (by omega)
  refine ⟨e, ?_, hm, ?_⟩
  · generalize u32 / yn1 = q at *
    rw [mulY, Nat.add_mul q 1 yn1, Nat.one_mul]
    generalize q * yn1 = p at *
    have : u32 * 4294967296 + u1 < (p + yn1) * 4294967296 := by omega
    exact Nat.lt_of_lt_of_le this (Nat.le_add_right _ _)
  · apply Nat.le_of_lt_succ
    rw [Nat.div_lt_iff_lt_mul (by omega)]
    omega
/-- A digit that is less than 2^32. -/
theorem small {y B u1 u32 : Nat} (hu : u32 < y) (hu1 : u1 < B) : (u32 * B + u1) / y < B := by
  rw [Nat.div_lt_iff_lt_mul (by omega)]
  exact big (Nat.le_refl B) hu hu1
/-- The two digits make the quotient; what is left is what is left. -/
theorem two {y U a b : Nat} {B : Nat} (hy : 0 < y) :
    (U * (B * B) + (a * B + b)) / y = (U * B + a) / y * B + ((U * B + a) % y * B + b) / y ∧ (U * (B * B) + (a * B + b)) % y = ((U * B + a) % y * B + b) % y := by
  have e := Nat.div_add_mod (U * B + a) y
  have f := Nat.div_add_mod ((U * B + a) % y * B + b) y
  have key : U * (B * B) + (a * B + b) = y * ((U * B + a) / y * B + ((U * B + a) % y * B + b) / y) + ((U * B + a) % y * B + b) % y := by
    have h1 : U * (B * B) + (a * B + b) = (U * B + a) * B + b := by rw [Nat.add_mul, Nat.mul_assoc]; omega
    rw [h1, Nat.mul_add, Nat.add_assoc, f]
    have h2 : (U * B + a) * B = (y * ((U * B + a) / y) + (U * B + a) % y) * B := by rw [e]
    rw [h2, Nat.add_mul, Nat.mul_assoc y]
    omega
  have hm : ((U * B + a) % y * B + b) % y < y := Nat.mod_lt _ hy
  generalize (U * B + a) / y * B + ((U * B + a) % y * B + b) / y = Q at *
  generalize ((U * B + a) % y * B + b) % y = R at *
  rw [key]
  constructor
  · rw [Nat.mul_add_div hy, Nat.div_eq_of_lt hm, Nat.add_zero]
  · rw [Nat.mul_add_mod, Nat.mod_eq_of_lt hm]
/-- Moved up, divided, moved down. -/
theorem scale {n y k : Nat} (hk : 0 < k) : n * k / (y * k) = n / y ∧ n * k % (y * k) / k = n % y := by
  constructor
  · exact Nat.mul_div_mul_right n y hk
  · rw [Nat.mul_mod_mul_right, Nat.mul_div_cancel _ hk]
end Go.Proofs.YteecfjkljmmecaaGreat.Dv
