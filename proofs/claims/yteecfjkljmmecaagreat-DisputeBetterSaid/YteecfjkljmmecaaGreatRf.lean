/- WALKS: the reference's sign, Better. -/
import Derived.Test.YteecfjkljmmecaaGreatLo
import Derived.Sort.Walk0
import Derived.WalkLawsBesides
namespace Go.Proofs.YteecfjkljmmecaaGreat
open Go.RowKit Go.Sort Go.Shelf
def sgnB (b : Bool) : Int := if b = true then 1 else -1
theorem sign_any (b : Bool) (w : World) : Calls Tryz.prog 24 #[.bool b] w fun e w' => e = .returned (.int .i64 (sgnB b)) ∧ w = w' := by
  cases b
  · go_enter Tryz.func24, Tryz.ntmps24
    go_wp2
    go_ret
    exact ⟨rfl, rfl⟩
  · go_enter Tryz.func24, Tryz.ntmps24
    go_wp2
    go_ret
    exact ⟨rfl, rfl⟩
theorem sgn_icmp {a b : Int} (h : a ≠ b) : sgnB (decide (a < b)) = -icmp a b := by
  unfold sgnB icmp
  by_cases hl : a < b
  · simp [hl]
  · have : b < a := by omega
    simp [hl, this]
theorem sgn_scmp {a b : ByteArray} (h : a ≠ b) : sgnB (Op.bytesLess a.toList b.toList) = -scmp a b := by
  rw [bytesLess_eq, ByteArray.toList_eq, ByteArray.toList_eq]
  have h1 := scmp_neg (a := a) (b := b)
  have h2 := mt scmp_zero.1 h
  have h3 := scmp_bd a b
  unfold sgnB sLt at *
  by_cases hl : a.data.toList < b.data.toList
  · have := h1.2 hl
    simp [hl]
    omega
  · have : ¬ scmp a b < 0 := fun e => hl (h1.1 e)
    simp [hl]
    omega
theorem str_same {a b : ByteArray} (h : a = b) : (a.toList == b.toList) = true := by rw [h]; simp
theorem str_other {a b : ByteArray} (h : a ≠ b) : (a.toList == b.toList) = false := by
  rw [Bool.eq_false_iff]
  intro he
  exact h (ba_tl (by simpa using he))
def RefPost (a b : Clm) (w : World) (e : Ending) (w' : World) : Prop := e = .returned (.tuple #[.int .i64 (-cmpM a b), .string (firstM a b).1]) ∧ Only (fun _ => False) w w'
theorem RefPost.of {a b : Clm} {w w' : World} {n : Int} {t : ByteArray} (hn : n = -cmpM a b) (ht : t = (firstM a b).1) (ho : Only (fun _ => False) w w') : RefPost a b w (.returned (.tuple #[.int .i64 n, .string t])) w' := ⟨by rw [hn, ht], ho⟩
theorem boxes2 (w : World) (a b : Clm) : (∀ (j : Nat) u, (cEnc a)[j]? = some u → ((w.alloc (.cells #[.string a.name, .string a.thing, .int .i64 a.right, .int .i64 a.day, .int .i64 a.amt] 23)).alloc (.cells #[.string b.name, .string b.thing, .int .i64 b.right, .int .i64 b.day, .int .i64 b.amt] 23)).cell? ⟨w.heap.size, j, none⟩ = some u) ∧
    (∀ (j : Nat) u, (cEnc b)[j]? = some u → ((w.alloc (.cells #[.string a.name, .string a.thing, .int .i64 a.right, .int .i64 a.day, .int .i64 a.amt] 23)).alloc (.cells #[.string b.name, .string b.thing, .int .i64 b.right, .int .i64 b.day, .int .i64 b.amt] 23)).cell? ⟨w.heap.size + 1, j, none⟩ = some u) := by
  refine ⟨fun j u hj => ((Only.refl (fun _ => False) _).alloc _).cellF (box_new w a j u hj), fun j u hj => ?_⟩
  have := box_new (w.alloc (.cells #[.string a.name, .string a.thing, .int .i64 a.right, .int .i64 a.day, .int .i64 a.amt] 23)) b j u hj
  simpa only [World.size_alloc] using this
set_option maxHeartbeats 8000000 in
set_option maxRecDepth 100000 in
theorem refBetter_any (a b : Clm) (w : World) : Calls Tryz.prog 12 #[cVal a, cVal b] w (RefPost a b w) := by
  have hP := Lib.hid (fun n t W => RefPost.of (a := a) (b := b) (w := w) (w' := W) (n := n) (t := t))
  have r0 := Lib.hid (fun h => first_0 (a := a) (b := b) h)
  have r1 := Lib.hid (fun h => first_1 (a := a) (b := b) h)
  have r2 := Lib.hid (fun h => first_2 (a := a) (b := b) h)
  have r3 := Lib.hid (fun h => first_3 (a := a) (b := b) h)
  have r4 := Lib.hid (fun h => first_4 (a := a) (b := b) h)
  have r5 := Lib.hid (fun h => first_5 (a := a) (b := b) h)
  have e0 : c0 a b = 0 ↔ a.right = b.right := icmp_zero
  have e1 : c1 a b = 0 ↔ a.day = b.day := icmp_zero
  have e2 : c2 a b = 0 ↔ a.name = b.name := scmp_zero
  have e3 : c3 a b = 0 ↔ b.amt = a.amt := icmp_zero
  have e4 : c4 a b = 0 ↔ a.thing = b.thing := scmp_zero
  have hC : Hid (∀ p, firstM a b = p → (firstM a b).1 = p.1 ∧ cmpM a b = p.2) := Lib.hid fun p h => by unfold cmpM; rw [h]; exact ⟨rfl, rfl⟩
  by_cases h0 : a.right = b.right
  · by_cases h1 : a.day = b.day
    · by_cases h2 : a.name = b.name
      · by_cases h3 : a.amt = b.amt
        · by_cases h4 : a.thing = b.thing
          · obtain ⟨u1, u2⟩ := hC.out _ (r5.out (e0.2 h0) (e1.2 h1) (e2.2 h2) (e3.2 h3.symm) (e4.2 h4))
            have hU := Lib.hid (And.intro u1 u2)
            have z0 : (a.right != b.right) = false := by simpa using h0
            have z1 : (a.day != b.day) = false := by simpa using h1
            have z2 := str_same h2
            have z3 : (a.amt != b.amt) = false := by simpa using h3
            have z4 := str_same h4
            clear e0 e1 e2 e3 e4 h0 h1 h2 h3 h4 u1 u2 r0 r1 r2 r3 r4 r5 hC
            obtain ⟨a1, a2, a3, a4, a5⟩ := a
            obtain ⟨b1, b2, b3, b4, b5⟩ := b
            simp only [cVal] at *
            go_enter Tryz.func12, Tryz.ntmps12
            go_wp2
            go_ret2
            exact hP.out _ _ _ (by rw [hU.out.2]; rfl) (by rw [hU.out.1]; rfl) (((Only.refl _ _).alloc _).alloc _)
          · obtain ⟨u1, u2⟩ := hC.out _ (r4.out (e0.2 h0) (e1.2 h1) (e2.2 h2) (e3.2 h3.symm) (mt e4.1 h4))
            have hU := Lib.hid (And.intro u1 (u2.trans (show c4 a b = - -scmp a.thing b.thing by unfold c4; omega)))
            have hS := Lib.hid (sgn_scmp h4)
            have z0 : (a.right != b.right) = false := by simpa using h0
            have z1 : (a.day != b.day) = false := by simpa using h1
            have z2 := str_same h2
            have z3 : (a.amt != b.amt) = false := by simpa using h3
            have z4 := str_other h4
            clear e0 e1 e2 e3 e4 h0 h1 h2 h3 h4 u1 u2 r0 r1 r2 r3 r4 r5 hC
            obtain ⟨a1, a2, a3, a4, a5⟩ := a
            obtain ⟨b1, b2, b3, b4, b5⟩ := b
            simp only [cVal] at *
            go_enter Tryz.func12, Tryz.ntmps12
            go_wp2_with (go_at_call 24; refine (sign_any _ _).mono ?_; rintro e w1 ⟨rfl, rfl⟩)
            go_ret2
            exact hP.out _ _ _ (by rw [hU.out.2, hS.out]; simp) (by rw [hU.out.1]; rfl) (((Only.refl _ _).alloc _).alloc _)
        · obtain ⟨u1, u2⟩ := hC.out _ (r3.out (e0.2 h0) (e1.2 h1) (e2.2 h2) (mt e3.1 (fun e => h3 e.symm)))
          have hU := Lib.hid (And.intro u1 (u2.trans (show c3 a b = - -icmp b.amt a.amt by unfold c3; omega)))
          have hS := Lib.hid (sgn_icmp (fun e => h3 e.symm : b.amt ≠ a.amt))
          have z0 : (a.right != b.right) = false := by simpa using h0
          have z1 : (a.day != b.day) = false := by simpa using h1
          have z2 := str_same h2
          have z3 : (a.amt != b.amt) = true := by simpa using h3
          clear e0 e1 e2 e3 e4 h0 h1 h2 h3 u1 u2 r0 r1 r2 r3 r4 r5 hC
          obtain ⟨a1, a2, a3, a4, a5⟩ := a
          obtain ⟨b1, b2, b3, b4, b5⟩ := b
          simp only [cVal] at *
          go_enter Tryz.func12, Tryz.ntmps12
          go_wp2_with (go_at_call 24; refine (sign_any _ _).mono ?_; rintro e w1 ⟨rfl, rfl⟩)
          go_ret2
          exact hP.out _ _ _ (by rw [hU.out.2, hS.out]; simp) (by rw [hU.out.1]; rfl) (((Only.refl _ _).alloc _).alloc _)
      · obtain ⟨u1, u2⟩ := hC.out _ (r2.out (e0.2 h0) (e1.2 h1) (mt e2.1 h2))
        have hU := Lib.hid (And.intro u1 (u2.trans (show c2 a b = - -scmp a.name b.name by unfold c2; omega)))
        have hS := Lib.hid (sgn_scmp h2)
        have z0 : (a.right != b.right) = false := by simpa using h0
        have z1 : (a.day != b.day) = false := by simpa using h1
        have z2 := str_other h2
        clear e0 e1 e2 e3 e4 h0 h1 h2 u1 u2 r0 r1 r2 r3 r4 r5 hC
        obtain ⟨a1, a2, a3, a4, a5⟩ := a
        obtain ⟨b1, b2, b3, b4, b5⟩ := b
        simp only [cVal] at *
        go_enter Tryz.func12, Tryz.ntmps12
        go_wp2_with (go_at_call 24; refine (sign_any _ _).mono ?_; rintro e w1 ⟨rfl, rfl⟩)
        go_ret2
        exact hP.out _ _ _ (by rw [hU.out.2, hS.out]; simp) (by rw [hU.out.1]; rfl) (((Only.refl _ _).alloc _).alloc _)
    · obtain ⟨u1, u2⟩ := hC.out _ (r1.out (e0.2 h0) (mt e1.1 h1))
      have hU := Lib.hid (And.intro u1 (u2.trans (show c1 a b = - -icmp a.day b.day by unfold c1; omega)))
      have hS := Lib.hid (sgn_icmp h1)
      have z0 : (a.right != b.right) = false := by simpa using h0
      have z1 : (a.day != b.day) = true := by simpa using h1
      clear e0 e1 e2 e3 e4 h0 h1 u1 u2 r0 r1 r2 r3 r4 r5 hC
      obtain ⟨a1, a2, a3, a4, a5⟩ := a
      obtain ⟨b1, b2, b3, b4, b5⟩ := b
      simp only [cVal] at *
      go_enter Tryz.func12, Tryz.ntmps12
      go_wp2_with (go_at_call 24; refine (sign_any _ _).mono ?_; rintro e w1 ⟨rfl, rfl⟩)
      go_ret2
      exact hP.out _ _ _ (by rw [hU.out.2, hS.out]; simp) (by rw [hU.out.1]; rfl) (((Only.refl _ _).alloc _).alloc _)
  · obtain ⟨u1, u2⟩ := hC.out _ (r0.out (mt e0.1 h0))
    have hU := Lib.hid (And.intro u1 (u2.trans (show c0 a b = - -icmp a.right b.right by unfold c0; omega)))
    have hS := Lib.hid (sgn_icmp h0)
    have z0 : (a.right != b.right) = true := by simpa using h0
    clear e0 e1 e2 e3 e4 h0 u1 u2 r0 r1 r2 r3 r4 r5 hC
    obtain ⟨a1, a2, a3, a4, a5⟩ := a
    obtain ⟨b1, b2, b3, b4, b5⟩ := b
    simp only [cVal] at *
    go_enter Tryz.func12, Tryz.ntmps12
    go_wp2_with (go_at_call 24; refine (sign_any _ _).mono ?_; rintro e w1 ⟨rfl, rfl⟩)
    go_ret2
    exact hP.out _ _ _ (by rw [hU.out.2, hS.out]; simp) (by rw [hU.out.1]; rfl) (((Only.refl _ _).alloc _).alloc _)
end Go.Proofs.YteecfjkljmmecaaGreat
