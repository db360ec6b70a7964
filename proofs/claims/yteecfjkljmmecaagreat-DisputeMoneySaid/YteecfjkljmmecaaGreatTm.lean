/- WALK: the reference's Times. -/
import Derived.Test.YteecfjkljmmecaaGreatLs
namespace Go.Proofs.YteecfjkljmmecaaGreat
open Go.RowKit Go.Sort Go.Shelf
/-- What is left after the bits from n up. -/
structure Tim (a b c n q r : Nat) : Prop where
  eq : q * c + r = a / 2 ^ n * b
  lt : r < c
theorem Tim.le {a b c n q r : Nat} (h : Tim a b c n q r) (hb : b ≤ c) (hc : 0 < c) : q ≤ a := by
  have h1 := h.eq
  have h2 : a / 2 ^ n ≤ a := Nat.div_le_self _ _
  have h3 : q * c ≤ a * c := by
    have h4 : a / 2 ^ n * b ≤ a * c := Nat.mul_le_mul h2 hb
    omega
  exact Nat.le_of_mul_le_mul_right h3 hc
theorem Tim.done {a b c q r : Nat} (h : Tim a b c 0 q r) : q = a * b / c ∧ r = a * b % c := by
  have h1 := h.eq
  simp only [Nat.pow_zero, Nat.div_one] at h1
  rw [← h1]
  have hc : 0 < c := Nat.lt_of_le_of_lt (Nat.zero_le _) h.lt
  constructor
  · rw [Nat.mul_comm, Nat.mul_add_div hc, Nat.div_eq_of_lt h.lt, Nat.add_zero]
  · rw [Nat.mul_comm, Nat.mul_add_mod, Nat.mod_eq_of_lt h.lt]
theorem half_step (a n : Nat) : a / 2 ^ n = 2 * (a / 2 ^ (n + 1)) + a / 2 ^ n % 2 := by
  rw [Nat.pow_succ, ← Nat.div_div_eq_div_mul]
  omega
def dbl (c q r : Nat) : Nat × Nat := if c ≤ 2 * r then (2 * q + 1, 2 * r - c) else (2 * q, 2 * r)
theorem dbl_eq {c q r : Nat} (h : r < c) : (dbl c q r).1 * c + (dbl c q r).2 = 2 * (q * c + r) ∧ (dbl c q r).2 < c := by
  unfold dbl
  split
  · simp only [Nat.add_mul, Nat.mul_assoc]; omega
  · simp only [Nat.mul_assoc]; omega
def addb (b c q r : Nat) : Nat × Nat := if c ≤ r + b % c then (q + b / c + 1, r + b % c - c) else (q + b / c, r + b % c)
theorem addb_eq {b c q r : Nat} (h : r < c) : (addb b c q r).1 * c + (addb b c q r).2 = q * c + r + b ∧ (addb b c q r).2 < c := by
  have h1 : b / c * c + b % c = b := Nat.div_add_mod' b c
  have h2 : b % c < c := Nat.mod_lt _ (by omega)
  unfold addb
  split
  · simp only [Nat.add_mul]; omega
  · simp only [Nat.add_mul]; omega
theorem Tim.zero {a b c n q r : Nat} (h : Tim a b c (n + 1) q r) (hb : a / 2 ^ n % 2 = 0) : Tim a b c n (dbl c q r).1 (dbl c q r).2 := by
  obtain ⟨h1, h2⟩ := dbl_eq (q := q) h.lt
  refine ⟨?_, h2⟩
  rw [h1, h.eq, half_step a n, hb]
  simp [Nat.mul_assoc]
theorem Tim.one {a b c n q r : Nat} (h : Tim a b c (n + 1) q r) (hb : a / 2 ^ n % 2 = 1) : Tim a b c n (addb b c (dbl c q r).1 (dbl c q r).2).1 (addb b c (dbl c q r).1 (dbl c q r).2).2 := by
  obtain ⟨h1, h2⟩ := dbl_eq (q := q) h.lt
  obtain ⟨h3, h4⟩ := addb_eq (b := b) (q := (dbl c q r).1) h2
  refine ⟨?_, h4⟩
  rw [h3, h1, h.eq, half_step a n, hb, Nat.add_mul, Nat.mul_assoc, Nat.one_mul]
theorem i64_and1 (n : Int) : bits .and .i64 n 1 = n % 2 := by
  have h1 : (BitVec.ofInt 64 1).toNat = 2 ^ 1 - 1 := by decide
  have key : (BitVec.ofInt 64 n &&& BitVec.ofInt 64 1).toNat = (n % ((2 ^ 64 : Nat) : Int)).toNat % 2 ^ 1 := by
    rw [BitVec.toNat_and, BitVec.toNat_ofInt, h1, Nat.and_two_pow_sub_one_eq_mod]
  show IntKind.i64.wrap ((BitVec.ofInt 64 n &&& BitVec.ofInt 64 1).toNat : Nat) = n % 2
  rw [key, IntKind.wrap_i64]
  omega
theorem bit_at (a m : Nat) : bits BinOp.and IntKind.i64 ((a : Int) / 2 ^ m) 1 = ((a / 2 ^ m % 2 : Nat) : Int) := by
  rw [i64_and1]
  simp
set_option maxHeartbeats 8000000 in
set_option maxRecDepth 100000 in
theorem times_any (w : World) (a b c : Nat) (ha : a ≤ 1099511627776) (hb : b ≤ c) (hc : 0 < c) (hc2 : c ≤ 1000000000000000000) : Calls Tryz.prog 50 #[.int .i64 (a : Int), .int .i64 (b : Int), .int .i64 (c : Int)] w fun e w' => e = .returned (.tuple #[.int .i64 ((a * b / c : Nat) : Int), .int .i64 ((a * b % c : Nat) : Int)]) ∧ w = w' := by
  have hbq : ((b : Int) / (c : Int)) = ((b / c : Nat) : Int) := (Int.natCast_ediv b c).symm
  have hbr : ((b : Int) % (c : Int)) = ((b % c : Nat) : Int) := (Int.natCast_emod b c).symm
  have l1 : b / c ≤ 1 := by
    rw [Nat.div_le_iff_le_mul hc]
    omega
  have l2 : b % c < c := Nat.mod_lt _ hc
  have hA : Hid (∀ q r : Nat, addb b c q r = if c ≤ r + b % c then (q + b / c + 1, r + b % c - c) else (q + b / c, r + b % c)) := Lib.hid fun q r => rfl
  have hT1 := Lib.hid (fun n q r (h : Tim a b c (n + 1) q r) (hb : a / 2 ^ n % 2 = 1) => Tim.one h hb)
  generalize b / c = bq at *
  generalize b % c = br at *
  go_enter Tryz.func50, Tryz.ntmps50
  go_wp2
  go_loopg [8, 9, 10] (63) (fun g v8 v9 v10 wr => ∃ n q r : Nat, v10 = .int .i64 ((n : Int) - 1) ∧ v8 = .int .i64 (q : Int) ∧ v9 = .int .i64 (r : Int) ∧ g = n ∧ n ≤ 63 ∧ r < c ∧ q ≤ 1099511627776 ∧ Hid (Tim a b c n q r) ∧ w = wr)
  case atStart => exact ⟨63, 0, 0, rfl, rfl, rfl, rfl, by omega, hc, by omega, Lib.hid ⟨by rw [Nat.div_eq_of_lt (by omega)]; simp, hc⟩, rfl⟩
  case round =>
    obtain ⟨n, q, r, rfl, rfl, rfl, hgn, hg, hrc, hq, hT, rfl⟩ := hrel
    by_cases hn : 0 < n
    · obtain ⟨m, rfl⟩ : ∃ m, n = m + 1 := ⟨n - 1, by omega⟩
      have hm : ((m + 1 : Nat) : Int) - 1 = (m : Int) := by omega
      rw [hm]
      clear hm hn
      have hD : Hid (dbl c q r = if c ≤ 2 * r then (2 * q + 1, 2 * r - c) else (2 * q, 2 * r)) := Lib.hid rfl
      by_cases hbit : a / 2 ^ m % 2 = 1
      · have z : (bits BinOp.and IntKind.i64 ((a : Int) / 2 ^ m) 1 == 1) = true := by rw [bit_at, hbit]; rfl
        have hN0 := hT1.out m q r hT.out hbit
        clear hbit
        by_cases h1 : c ≤ 2 * r
        · have hD' := hD.out
          rw [if_pos h1] at hD'
          rw [hD'] at hN0
          by_cases h2 : c ≤ 2 * r - c + br
          · rw [hA.out, if_pos h2] at hN0
            have hN := Lib.hid hN0
            clear hN0 hD' hD
            have hw := Lib.hid (show Tim a b c m _ _ from hN.out)
            go_wp2
            go_roundg (m)
            case measure => omega
            case rel => exact ⟨m, _, _, rfl, congrArg (Value.int .i64) (by omega), congrArg (Value.int .i64) (by omega), rfl, by omega, hw.out.lt, Nat.le_trans (hw.out.le hb hc) ha, hw, rfl⟩
          · rw [hA.out, if_neg h2] at hN0
            have hN := Lib.hid hN0
            clear hN0 hD' hD
            have hw := Lib.hid (show Tim a b c m _ _ from hN.out)
            go_wp2
            go_roundg (m)
            case measure => omega
            case rel => exact ⟨m, _, _, rfl, congrArg (Value.int .i64) (by omega), congrArg (Value.int .i64) (by omega), rfl, by omega, hw.out.lt, Nat.le_trans (hw.out.le hb hc) ha, hw, rfl⟩
        · have hD' := hD.out
          rw [if_neg h1] at hD'
          rw [hD'] at hN0
          by_cases h2 : c ≤ 2 * r + br
          · rw [hA.out, if_pos h2] at hN0
            have hN := Lib.hid hN0
            clear hN0 hD' hD
            have hw := Lib.hid (show Tim a b c m _ _ from hN.out)
            go_wp2
            go_roundg (m)
            case measure => omega
            case rel => exact ⟨m, _, _, rfl, congrArg (Value.int .i64) (by omega), congrArg (Value.int .i64) (by omega), rfl, by omega, hw.out.lt, Nat.le_trans (hw.out.le hb hc) ha, hw, rfl⟩
          · rw [hA.out, if_neg h2] at hN0
            have hN := Lib.hid hN0
            clear hN0 hD' hD
            have hw := Lib.hid (show Tim a b c m _ _ from hN.out)
            go_wp2
            go_roundg (m)
            case measure => omega
            case rel => exact ⟨m, _, _, rfl, congrArg (Value.int .i64) (by omega), congrArg (Value.int .i64) (by omega), rfl, by omega, hw.out.lt, Nat.le_trans (hw.out.le hb hc) ha, hw, rfl⟩
      · have hb0 : a / 2 ^ m % 2 = 0 := by omega
        have z : (bits BinOp.and IntKind.i64 ((a : Int) / 2 ^ m) 1 == 1) = false := by rw [bit_at, hb0]; rfl
        have hN0 := hT.out.zero hb0
        clear hbit hb0
        by_cases h1 : c ≤ 2 * r
        · have hD' := hD.out
          rw [if_pos h1] at hD'
          rw [hD'] at hN0
          have hN := Lib.hid hN0
          clear hN0 hD' hD
          have hw := Lib.hid (show Tim a b c m _ _ from hN.out)
          go_wp2
          go_roundg (m)
          case measure => omega
          case rel => exact ⟨m, _, _, rfl, congrArg (Value.int .i64) (by omega), congrArg (Value.int .i64) (by omega), rfl, by omega, hw.out.lt, Nat.le_trans (hw.out.le hb hc) ha, hw, rfl⟩
        · have hD' := hD.out
          rw [if_neg h1] at hD'
          rw [hD'] at hN0
          have hN := Lib.hid hN0
          clear hN0 hD' hD
          have hw := Lib.hid (show Tim a b c m _ _ from hN.out)
          go_wp2
          go_roundg (m)
          case measure => omega
          case rel => exact ⟨m, _, _, rfl, congrArg (Value.int .i64) (by omega), congrArg (Value.int .i64) (by omega), rfl, by omega, hw.out.lt, Nat.le_trans (hw.out.le hb hc) ha, hw, rfl⟩
    · have hn0 : n = 0 := by omega
      subst hn0
      obtain ⟨e1, e2⟩ := hT.out.done
      have hE := Lib.hid (And.intro e1 e2)
      clear e1 e2
      go_wp2
      go_ret2
      exact ⟨by rw [hE.out.1, hE.out.2]; rfl, rfl⟩
end Go.Proofs.YteecfjkljmmecaaGreat
