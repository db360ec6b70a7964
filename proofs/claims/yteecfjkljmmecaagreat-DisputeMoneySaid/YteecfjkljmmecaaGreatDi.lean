/- WALK: math/bits.Div64. -/
import Derived.Test.YteecfjkljmmecaaGreatDp
import Derived.Test.YteecfjkljmmecaaGreatSbo
import Derived.Test.YteecfjkljmmecaaGreatNm
import Derived.Lib.ItoaNum
import Derived.BigQuiet
import Derived.Deep.CutBlock
namespace Go.Proofs.YteecfjkljmmecaaGreat
open Go.RowKit Go.Sort Go.Shelf
section
variable (w : World)
theorem lz_any (y : Nat) (h0 : y ≠ 0) (h1 : y < 18446744073709551616) : ∃ s : Nat, s ≤ 63 ∧ y * 2 ^ s < 18446744073709551616 ∧ 9223372036854775808 ≤ y * 2 ^ s ∧ ∀ w : World, Calls Tryz.prog 77 #[.int .u64 (y : Int)] w fun e w' => e = .returned (.int .i64 (s : Int)) ∧ w' = w := by
  have hb := Lib.bitLenAux_bounds 64 y (by omega) h0
  have hl : Lib.bitLen y ≤ 64 := Lib.bitLen_le y 64 (by omega) (by omega)
  have e : Lib.bitLen y = Lib.bitLenAux 64 y := rfl
  rw [← e] at hb
  obtain ⟨a, b, c⟩ := hb
  generalize hL : Lib.bitLen y = L at *
  have p1 : 2 ^ L * 2 ^ (64 - L) = 2 ^ 64 := by rw [← Nat.pow_add]; congr 1; omega
  have p2 : 2 ^ (L - 1) * 2 ^ (64 - L) = 2 ^ 63 := by rw [← Nat.pow_add]; congr 1; omega
  have hp : 0 < 2 ^ (64 - L) := Nat.two_pow_pos _
  refine ⟨64 - L, by omega, ?_, ?_, fun w => ?_⟩
  · have := Nat.mul_lt_mul_of_pos_right c hp
    omega
  · have := Nat.mul_le_mul_right (2 ^ (64 - L)) b
    omega
  · have h := Any.bits_LeadingZeros64 Tryz.lz77 (y : Int) w (by omega) (by omega)
    rw [Int.toNat_natCast, hL] at h
    have e2 : (64 : Int) - (L : Int) = ((64 - L : Nat) : Int) := by omega
    rw [e2] at h
    exact h
theorem mul_any (x y : Nat) (hx : x < 18446744073709551616) (hy : y < 18446744073709551616) : Calls Tryz.prog 42 #[.int .u64 (x : Int), .int .u64 (y : Int)] w fun e w' => e = .returned (.tuple #[.int .u64 ((x * y / 18446744073709551616 : Nat) : Int), .int .u64 ((x * y % 18446744073709551616 : Nat) : Int)]) ∧ w' = w :=
  Any.bits_Mul64 Tryz.mul42 x y hx hy w
def DivPost (n y : Nat) (w : World) (e : Ending) (w' : World) : Prop := e = .returned (.tuple #[.int .u64 ((n / y : Nat) : Int), .int .u64 ((n % y : Nat) : Int)]) ∧ Grows w w'
theorem div0_any (lo y : Nat) (hy : y ≠ 0) (h1 : lo < 18446744073709551616) (h2 : y < 18446744073709551616) : Calls Tryz.prog 43 #[.int .u64 0, .int .u64 (lo : Int), .int .u64 (y : Int)] w (DivPost lo y w) := by
  have hq : lo / y ≤ lo := Nat.div_le_self _ _
  have hr : lo % y < y := Nat.mod_lt _ (by omega)
  have hP : Hid (∀ a b W, a = ((lo / y : Nat) : Int) → b = ((lo % y : Nat) : Int) → Grows w W → DivPost lo y w (.returned (.tuple #[.int .u64 a, .int .u64 b])) W) := Lib.hid fun a b W ha hb hg => ⟨by rw [ha, hb], hg⟩
  go_enter Tryz.func43, Tryz.ntmps43
  have hy0 : ¬ (y : Int) = 0 := by omega
  go_wp2
  go_quiet (fail)
  go_wp2
  go_ret2
  refine hP.out _ _ _ ?_ (by omega) ((Grows.refl w).drewN _)
  rw [← Int.natCast_ediv, IntKind.wrap_u64]
  generalize lo / y = m at *
  omega
theorem or_add (a b s : Nat) (hb : b < 2 ^ s) : a * 2 ^ s ||| b = a * 2 ^ s + b := by
  rw [Nat.mul_comm, Nat.two_pow_add_eq_or_of_lt hb]
theorem e_shl (y s : Nat) (h : y * 2 ^ s < 18446744073709551616) : IntKind.u64.wrap ((y : Int) * 2 ^ s) = ((y * 2 ^ s : Nat) : Int) := by
  have e : (y : Int) * 2 ^ s = ((y * 2 ^ s : Nat) : Int) := by simp
  rw [e, IntKind.wrap_u64]
  omega
theorem e_shlm (y s : Nat) : IntKind.u64.wrap ((y : Int) * 2 ^ s) = ((y * 2 ^ s % 18446744073709551616 : Nat) : Int) := by
  have e : (y : Int) * 2 ^ s = ((y * 2 ^ s : Nat) : Int) := by simp
  rw [e, IntKind.wrap_u64]
  omega
theorem e_shr (y s : Nat) : (y : Int) / 2 ^ s = ((y / 2 ^ s : Nat) : Int) := by simp
theorem e_mul (a b : Nat) (h : a * b < 18446744073709551616) : IntKind.u64.wrap ((a : Int) * (b : Int)) = ((a * b : Nat) : Int) := by
  rw [← Int.natCast_mul, IntKind.wrap_u64]
  omega
theorem e_quo (a b : Nat) (h : a < 18446744073709551616) : IntKind.u64.wrap ((a : Int).tdiv (b : Int)) = ((a / b : Nat) : Int) := by
  have hq : a / b ≤ a := Nat.div_le_self _ _
  rw [← Int.ofNat_tdiv, IntKind.wrap_u64]
  generalize a / b = m at *
  omega
set_option maxRecDepth 4000 in
set_option maxHeartbeats 2000000 in
theorem div1_any (hi lo y : Nat) (h0 : hi ≠ 0) (h1 : lo < 18446744073709551616) (h2 : y < 18446744073709551616) (h3 : hi < y) : Calls Tryz.prog 43 #[.int .u64 (hi : Int), .int .u64 (lo : Int), .int .u64 (y : Int)] w (DivPost (hi * 18446744073709551616 + lo) y w) := by
  obtain ⟨s, hs, hy1, hy2, hlz⟩ := lz_any y (by omega) h2
  have hLz := Lib.hid hlz
  clear hlz
  have hP : Hid (∀ a b W, a = (((hi * 18446744073709551616 + lo) / y : Nat) : Int) → b = (((hi * 18446744073709551616 + lo) % y : Nat) : Int) → W = w → DivPost (hi * 18446744073709551616 + lo) y w (.returned (.tuple #[.int .u64 a, .int .u64 b])) W) := Lib.hid fun a b W ha hb hg => ⟨by rw [ha, hb], by rw [hg]; exact Grows.refl w⟩
  have hp : 0 < 2 ^ s := Nat.two_pow_pos s
  have hhi : hi * 2 ^ s + 2 ^ s ≤ y * 2 ^ s := by
    rw [← Nat.succ_mul]
    exact Nat.mul_le_mul_right _ h3
  have hlo : lo / 2 ^ (64 - s) < 2 ^ s := by
    rw [Nat.div_lt_iff_lt_mul (Nat.two_pow_pos _), ← Nat.pow_add, show s + (64 - s) = 64 by omega]
    omega
  have e1 := e_shl y s hy1
  have e1a := e_shl hi s (by omega)
  have e1b := e_shlm lo s
  have e1c := e_shr lo (64 - s)
  obtain ⟨Y, hY⟩ : ∃ Y, Y = y * 2 ^ s := ⟨_, rfl⟩
  obtain ⟨U, hU⟩ : ∃ U, U = hi * 2 ^ s + lo / 2 ^ (64 - s) := ⟨_, rfl⟩
  obtain ⟨L, hL⟩ : ∃ L, L = lo * 2 ^ s % 18446744073709551616 := ⟨_, rfl⟩
  have hLB : L < 18446744073709551616 := by omega
  have e4 : bits .or .u64 ((hi * 2 ^ s : Nat) : Int) ((lo / 2 ^ (64 - s) : Nat) : Int) = (U : Int) := by
    rw [bits_or_u64_nat _ _ (by omega) (by omega), or_add _ _ _ hlo, hU]
  have hn : (hi * 18446744073709551616 + lo) * 2 ^ s = U * 18446744073709551616 + L := by
    have p1 : 2 ^ (64 - s) * 2 ^ s = 18446744073709551616 := by rw [← Nat.pow_add, show 64 - s + s = 64 by omega]
    have hd := Nat.div_add_mod lo (2 ^ (64 - s))
    have hr : lo % 2 ^ (64 - s) * 2 ^ s < 18446744073709551616 := by
      have := Nat.mul_lt_mul_of_pos_right (Nat.mod_lt lo (Nat.two_pow_pos (64 - s))) hp
      omega
    have hx : lo * 2 ^ s = lo / 2 ^ (64 - s) * 18446744073709551616 + lo % 2 ^ (64 - s) * 2 ^ s := by
      conv => lhs; rw [← hd]
      rw [Nat.add_mul, Nat.mul_right_comm, p1, Nat.mul_comm]
    rw [Nat.add_mul, hL, hU, hx, Nat.add_mul, Nat.mul_right_comm]
    omega
  rw [← hY] at e1 hy1 hy2 hhi
  rw [← hL] at e1b
  have hUY : U < Y := by omega
  have hZ := Dv.scale (n := hi * 18446744073709551616 + lo) (y := y) hp
  rw [hn, ← hY] at hZ
  have hZi := Lib.hid hZ
  clear hZ hn hU
  obtain ⟨y1, hy1'⟩ : ∃ y1, y1 = Y / 4294967296 := ⟨_, rfl⟩
  obtain ⟨y0, hy0'⟩ : ∃ y0, y0 = Y % 4294967296 := ⟨_, rfl⟩
  obtain ⟨a, ha⟩ : ∃ a, a = L / 4294967296 := ⟨_, rfl⟩
  obtain ⟨b, hb⟩ : ∃ b, b = L % 4294967296 := ⟨_, rfl⟩
  have e2 : (Y : Int) / 4294967296 = (y1 : Int) := by omega
  have e3 : bits .and .u64 (Y : Int) 4294967295 = (y0 : Int) := by rw [Mul64.maskN Y hy1, hy0']
  have e6 : (L : Int) / 4294967296 = (a : Int) := by omega
  have e7 : bits .and .u64 (L : Int) 4294967295 = (b : Int) := by rw [Mul64.maskN L hLB, hb]
  have hYe : Y = y1 * 4294967296 + y0 := by omega
  have hLe : L = a * 4294967296 + b := by omega
  have hd : ¬ IntKind.u64.wrap (↑y * 2 ^ s) / 4294967296 = 0 := by rw [e1]; omega
  obtain ⟨q1, q2, q3, q4⟩ := Dv.start (yn1 := y1) (yn0 := y0) (u1 := a) (u32 := U) (by omega) (by omega) (by omega) (by omega)
  have e8 := e_quo U y1 (by omega)
  have e8a := e_mul (U / y1) y1 (by omega)
  have e9 : IntKind.u64.wrap ((U : Int) - ((U / y1 * y1 : Nat) : Int)) = ((U % y1 : Nat) : Int) := by rw [IntKind.wrap_u64]; omega
  have hE := Lib.hid (And.intro e1 (And.intro e1a (And.intro e1b (And.intro e1c (And.intro e2 (And.intro e3 (And.intro e4 (And.intro e6 (And.intro e7 (And.intro e8 (And.intro e8a e9)))))))))))
  clear e1 e1a e1b e1c e2 e3 e4 e6 e7 e8 e8a e9
  go_enter Tryz.func43, Tryz.ntmps43
  go_upto_block 0 with (first | (go_at_call 77; refine (hLz.out _).mono ?_; clear hLz; rintro e w' ⟨rfl, rfl⟩))
  obtain ⟨e1, e1a, e1b, e1c, e2, e3, e4, e6, e7, e8, e8a, e9⟩ := hE.out
  set_option maxRecDepth 100000 in simp only [e1, e1a, e1b, e1c, e4, e2, e3, e6, e7, e8, e8a, e9]
  generalize U / y1 = Q0 at *
  generalize U % y1 = R0 at *
  have hy1B : y1 < 4294967296 := by omega
  have hy1C : 2147483648 ≤ y1 := by omega
  have hy0B : y0 < 4294967296 := by omega
  have haB : a < 4294967296 := by omega
  have hbB : b < 4294967296 := by omega
  have hF := Lib.hid (And.intro hYe (And.intro hLe hY))
  have hQ := Lib.hid (And.intro q1 (And.intro q2 (And.intro q3 q4)))
  clear e1 e1a e1b e1c e2 e3 e4 e6 e7 e8 e8a e9 hd hE hYe hLe hL ha hb hy1' hy0' hhi hlo hp q1 q2 q3 q4
  clear hY
  go_cut [15, 16] from 67 to 85 (fun v15 v16 wx => ∃ q : Nat, v15 = .int .u64 q ∧ wx = w' ∧ Hid (q * Y ≤ U * 4294967296 + a ∧ U * 4294967296 + a < (q + 1) * Y))
  case first =>
    go_wp2_with fail
    go_loopg [15, 16] (Q0) (fun g v15 v16 wr => ∃ r : Nat, v15 = .int .u64 (g : Int) ∧ v16 = .int .u64 (r : Int) ∧ g * y1 + r = U ∧ Hid (U * 4294967296 + a < (g + 1) * Y) ∧ r < 4294967296 ∧ g ≤ 4294967297 ∧ w' = wr)
    case atStart => exact ⟨R0, rfl, rfl, hQ.out.1, Lib.hid (by rw [hF.out.1]; exact hQ.out.2.1), by have := hQ.out.2.2.1; omega, hQ.out.2.2.2, rfl⟩
    case round =>
      obtain ⟨r, rfl, rfl, k1, k2, k3, k4, rfl⟩ := hrel
      have hst : Hid (U * 4294967296 + a < gk * Y → 1 ≤ gk ∧ (gk - 1) * y1 + (r + y1) = U ∧ U * 4294967296 + a < (gk - 1 + 1) * Y) := Lib.hid fun h => by
        cases gk with
        | zero => simp at h
        | succ n =>
          rw [Nat.add_mul, Nat.one_mul] at k1
          exact ⟨by omega, by simp only [Nat.add_sub_cancel]; omega, by simpa using h⟩
      have hk1 := Lib.hid k1
      clear k1
      by_cases hq : (4294967296 : Int) ≤ (gk : Int)
      · obtain ⟨hp1, hp2, hp3⟩ := hst.out (Dv.big (u1 := a) (by omega) hUY haB)
        have hst2 := Lib.hid hp3
        have hst1 := Lib.hid hp2
        clear hst hp2 hp3
        by_cases hx : (4294967296 : Int) ≤ (r : Int) + (y1 : Int)
        · go_wp2_with fail
          go_meet
          exact ⟨gk - 1, congrArg (Value.int .u64) (by omega), rfl, Lib.hid ⟨by rw [hF.out.1]; exact Dv.brk hst1.out (by omega) (by omega) hy0B, hst2.out⟩⟩
        · go_wp2_with fail
          go_roundg (gk - 1)
          case measure => omega
          case rel => exact ⟨r + y1, congrArg (Value.int .u64) (by omega), congrArg (Value.int .u64) (by omega), hst1.out, hst2, by omega, by omega, rfl⟩
      · have hm : gk * y0 ≤ 4294967295 * 4294967295 := Nat.mul_le_mul (by omega) (by omega)
        have hmI : (gk : Int) * (y0 : Int) = ((gk * y0 : Nat) : Int) := (Int.natCast_mul _ _).symm
        have hm1 : (0 : Int) ≤ (gk : Int) * (y0 : Int) := by omega
        have hm2 : (gk : Int) * (y0 : Int) < 18446744073709551616 := by omega
        by_cases hc : (4294967296 : Int) * (r : Int) + (a : Int) < (gk : Int) * (y0 : Int)
        · obtain ⟨hp1, hp2, hp3⟩ := hst.out (by rw [hF.out.1]; exact Dv.tst hk1.out (by omega))
          have hst2 := Lib.hid hp3
          have hst1 := Lib.hid hp2
          clear hst hp2 hp3 hmI hm
          by_cases hx : (4294967296 : Int) ≤ (r : Int) + (y1 : Int)
          · go_wp2_with fail
            go_meet
            exact ⟨gk - 1, congrArg (Value.int .u64) (by omega), rfl, Lib.hid ⟨by rw [hF.out.1]; exact Dv.brk hst1.out (by omega) (by omega) hy0B, hst2.out⟩⟩
          · go_wp2_with fail
            go_roundg (gk - 1)
            case measure => omega
            case rel => exact ⟨r + y1, congrArg (Value.int .u64) (by omega), congrArg (Value.int .u64) (by omega), hst1.out, hst2, by omega, by omega, rfl⟩
        · have hO := Lib.hid (Dv.out (u1 := a) hk1.out (show gk * y0 ≤ 4294967296 * r + a by omega))
          clear hst hmI hm
          go_wp2_with fail
          go_meet
          exact ⟨gk, rfl, rfl, Lib.hid ⟨by rw [hF.out.1]; exact hO.out, k2.out⟩⟩
  case rest =>
    obtain ⟨q, rfl, rfl, hq⟩ := hcut
    obtain ⟨V, hV⟩ : ∃ V, V = U * 4294967296 + a - q * Y := ⟨_, rfl⟩
    obtain ⟨d1, d2⟩ := Dv.digit hq.out.1 hq.out.2
    have hVY : V < Y := by
      rw [hV, ← d2]
      exact Nat.mod_lt _ (by omega)
    have eV : IntKind.u64.wrap (IntKind.u64.wrap (IntKind.u64.wrap ((U : Int) * 4294967296) + (a : Int)) - IntKind.u64.wrap ((q : Int) * (Y : Int))) = (V : Int) := by
      have hqY : (q : Int) * (Y : Int) = ((q * Y : Nat) : Int) := (Int.natCast_mul _ _).symm
      have := hq.out.1
      rw [hqY]
      generalize q * Y = M at *
      simp only [IntKind.wrap_u64]
      omega
    obtain ⟨p1, p2, p3, p4⟩ := Dv.start (yn1 := y1) (yn0 := y0) (u1 := b) (u32 := V) hy1C hy0B (by rw [← hF.out.1]; exact hVY) hbB
    have f8 := e_quo V y1 (by omega)
    have f8a := e_mul (V / y1) y1 (by omega)
    have f9 : IntKind.u64.wrap ((V : Int) - ((V / y1 * y1 : Nat) : Int)) = ((V % y1 : Nat) : Int) := by
      generalize V / y1 * y1 = M at *
      generalize V % y1 = M' at *
      rw [IntKind.wrap_u64]
      omega
    have hE2 := Lib.hid (And.intro eV (And.intro f8 (And.intro f8a f9)))
    have hQ2 := Lib.hid (And.intro p1 (And.intro p2 (And.intro p3 p4)))
    have hD := Lib.hid (And.intro d1 (And.intro d2 hV))
    clear eV f8 f8a f9 p1 p2 p3 p4 d1 d2 hV
    go_upto_block 2 with fail
    obtain ⟨eV, f8, f8a, f9⟩ := hE2.out
    set_option maxRecDepth 100000 in simp only [eV, f8, f8a, f9]
    clear eV f8 f8a f9 hE2
    go_cut [18, 16] from 102 to 120 (fun v18 v16 wx => ∃ q : Nat, v18 = .int .u64 q ∧ wx = wc ∧ Hid (q * Y ≤ V * 4294967296 + b ∧ V * 4294967296 + b < (q + 1) * Y))
    case first =>
      go_wp2_with fail
      go_loopg [18, 16] (V / y1) (fun g v18 v16 wr => ∃ r : Nat, v18 = .int .u64 (g : Int) ∧ v16 = .int .u64 (r : Int) ∧ g * y1 + r = V ∧ Hid (V * 4294967296 + b < (g + 1) * Y) ∧ r < 4294967296 ∧ g ≤ 4294967297 ∧ wc = wr)
      case atStart => exact ⟨V % y1, rfl, rfl, hQ2.out.1, Lib.hid (by rw [hF.out.1]; exact hQ2.out.2.1), by have := hQ2.out.2.2.1; omega, hQ2.out.2.2.2, rfl⟩
      case round =>
        obtain ⟨r, rfl, rfl, k1, k2, k3, k4, rfl⟩ := hrel
        have hst : Hid (V * 4294967296 + b < gk * Y → 1 ≤ gk ∧ (gk - 1) * y1 + (r + y1) = V ∧ V * 4294967296 + b < (gk - 1 + 1) * Y) := Lib.hid fun h => by
          cases gk with
          | zero => simp at h
          | succ n =>
            rw [Nat.add_mul, Nat.one_mul] at k1
            exact ⟨by omega, by simp only [Nat.add_sub_cancel]; omega, by simpa using h⟩
        have hk1 := Lib.hid k1
        clear k1
        by_cases hq : (4294967296 : Int) ≤ (gk : Int)
        · obtain ⟨hp1, hp2, hp3⟩ := hst.out (Dv.big (u1 := b) (by omega) hVY hbB)
          have hst2 := Lib.hid hp3
          have hst1 := Lib.hid hp2
          clear hst hp2 hp3
          by_cases hx : (4294967296 : Int) ≤ (r : Int) + (y1 : Int)
          · go_wp2_with fail
            go_meet
            exact ⟨gk - 1, congrArg (Value.int .u64) (by omega), rfl, Lib.hid ⟨by rw [hF.out.1]; exact Dv.brk hst1.out (by omega) (by omega) hy0B, hst2.out⟩⟩
          · go_wp2_with fail
            go_roundg (gk - 1)
            case measure => omega
            case rel => exact ⟨r + y1, congrArg (Value.int .u64) (by omega), congrArg (Value.int .u64) (by omega), hst1.out, hst2, by omega, by omega, rfl⟩
        · have hm : gk * y0 ≤ 4294967295 * 4294967295 := Nat.mul_le_mul (by omega) (by omega)
          have hmI : (gk : Int) * (y0 : Int) = ((gk * y0 : Nat) : Int) := (Int.natCast_mul _ _).symm
          have hm1 : (0 : Int) ≤ (gk : Int) * (y0 : Int) := by omega
          have hm2 : (gk : Int) * (y0 : Int) < 18446744073709551616 := by omega
          by_cases hc : (4294967296 : Int) * (r : Int) + (b : Int) < (gk : Int) * (y0 : Int)
          · obtain ⟨hp1, hp2, hp3⟩ := hst.out (by rw [hF.out.1]; exact Dv.tst hk1.out (by omega))
            have hst2 := Lib.hid hp3
            have hst1 := Lib.hid hp2
            clear hst hp2 hp3 hmI hm
            by_cases hx : (4294967296 : Int) ≤ (r : Int) + (y1 : Int)
            · go_wp2_with fail
              go_meet
              exact ⟨gk - 1, congrArg (Value.int .u64) (by omega), rfl, Lib.hid ⟨by rw [hF.out.1]; exact Dv.brk hst1.out (by omega) (by omega) hy0B, hst2.out⟩⟩
            · go_wp2_with fail
              go_roundg (gk - 1)
              case measure => omega
              case rel => exact ⟨r + y1, congrArg (Value.int .u64) (by omega), congrArg (Value.int .u64) (by omega), hst1.out, hst2, by omega, by omega, rfl⟩
          · have hO := Lib.hid (Dv.out (u1 := b) hk1.out (show gk * y0 ≤ 4294967296 * r + b by omega))
            clear hst hmI hm
            go_wp2_with fail
            go_meet
            exact ⟨gk, rfl, rfl, Lib.hid ⟨by rw [hF.out.1]; exact hO.out, k2.out⟩⟩
    case rest =>
      obtain ⟨q', rfl, rfl, hq'⟩ := hcut
      obtain ⟨c1, c2⟩ := Dv.digit hq'.out.1 hq'.out.2
      obtain ⟨d1, d2, hV⟩ := hD.out
      have t1 := (Dv.two (y := Y) (U := U) (a := a) (b := b) (B := 4294967296) (by omega)).1
      have t2 := (Dv.two (y := Y) (U := U) (a := a) (b := b) (B := 4294967296) (by omega)).2
      have s1 := Dv.small (B := 4294967296) hUY haB
      have s2 := Dv.small (B := 4294967296) hVY hbB
      rw [d2, ← hV] at t1 t2
      rw [d1, c1] at t1
      rw [c2] at t2
      rw [d1] at s1
      rw [c1] at s2
      have hZ := hZi.out
      rw [hF.out.2.1, show (18446744073709551616 : Nat) = 4294967296 * 4294967296 from rfl, t1, t2] at hZ
      have hq2 := hq'.out.1
      have hVR := (Dv.digit hq'.out.1 hq'.out.2).2
      have hR1 : V * 4294967296 + b - q' * Y < Y := by
        rw [← c2]
        exact Nat.mod_lt _ (by omega)
      have eR : IntKind.u64.wrap (IntKind.u64.wrap (IntKind.u64.wrap ((V : Int) * 4294967296) + (b : Int)) - IntKind.u64.wrap ((q' : Int) * (Y : Int))) = ((V * 4294967296 + b - q' * Y : Nat) : Int) := by
        have hqY : (q' : Int) * (Y : Int) = ((q' * Y : Nat) : Int) := (Int.natCast_mul _ _).symm
        rw [hqY]
        generalize q' * Y = M at *
        simp only [IntKind.wrap_u64]
        omega
      have eQ : IntKind.u64.wrap (IntKind.u64.wrap ((q : Int) * 4294967296) + (q' : Int)) = ((q * 4294967296 + q' : Nat) : Int) := by
        simp only [IntKind.wrap_u64]
        omega
      have hE3 := Lib.hid (And.intro eR (And.intro eQ hZ))
      clear eR eQ hZ hq2 hVR hR1 t1 t2 d1 d2 hV s1 s2 c1 c2
      go_wp2
      go_ret2
      obtain ⟨eR, eQ, z1, z2⟩ := hE3.out
      refine hP.out _ _ _ ?_ ?_ rfl
      · rw [eQ, z1]
      · rw [eR, e_shr, z2]
theorem div_any (hi lo y : Nat) (h1 : lo < 18446744073709551616) (h2 : y < 18446744073709551616) (h3 : hi < y) : Calls Tryz.prog 43 #[.int .u64 (hi : Int), .int .u64 (lo : Int), .int .u64 (y : Int)] w (DivPost (hi * 18446744073709551616 + lo) y w) := by
  cases hi with
  | zero => simpa using div0_any w lo y (by omega) h1 h2
  | succ n => exact div1_any w (n + 1) lo y (by omega) h1 h2 h3
end
end Go.Proofs.YteecfjkljmmecaaGreat
