/- WALK: the reference's Rank. -/
import Derived.Test.YteecfjkljmmecaaGreatRp
namespace Go.Proofs.YteecfjkljmmecaaGreat
open Go.RowKit Go.Sort Go.Shelf
attribute [local go_sem high] slice_from
theorem own_none24 (w : World) : (w.alloc (.cells #[] 23)).ownsRow w.heap.size 23 5 (.slice (some ⟨w.heap.size, 0, none⟩) 0 0) (([] : List Clm).length) (([] : List Clm).flatMap cEnc) :=
  ⟨rfl, .inr ⟨w.heap.size, 0, #[], rfl, Nat.le_refl _, heap_alloc_new _ _, Nat.le_refl _, Nat.zero_le _, rfl, rfl⟩⟩
theorem own_cap {w : World} {base n c : Nat} {e : TypeId} {size : Nat} {A : Option Addr} {xs : List Value} (h : w.ownsRow base e size (.slice A n c) n xs) : n ≤ c := by
  rcases h.2 with ⟨h1, h2⟩ | ⟨g, cap, cur, h1, _, _, h2, _⟩
  · injection h1 with _ _ h3; omega
  · injection h1 with _ _ h3; omega
theorem ReadsC.grown {w w' : World} {v : Value} {xs : List Clm} {row : Option Nat} (h : ReadsC w v xs) (hg : w.grownBy w' row) (hne : ∀ b, v.ownBlock = some b → row ≠ some b) : ReadsC w' v xs :=
  h.only (F := fun i => row = some i) (Only.of_grown hg fun _ hk => hk) fun _ b hb e => hne b hb e
def RefRankPost (xs : List Clm) (w : World) (e : Ending) (w' : World) : Prop := ∃ v', e = .returned v' ∧ w'.ownsRow w.heap.size 23 5 v' xs.length ((refRank xs).flatMap cEnc) ∧ Only (fun _ => False) w w'
theorem reads_new {w W : World} (_h : Only (fun _ => False) w W) (c : Clm) : ReadsC (W.alloc (.cells #[.string c.name, .string c.thing, .int .i64 c.right, .int .i64 c.day, .int .i64 c.amt] 23)) (.slice (some ⟨W.heap.size, 0, none⟩) 1 1) [c] := reads_alloc W [c] 1
set_option maxHeartbeats 32000000 in
set_option maxRecDepth 100000 in
theorem refRank_any (w : World) {v : Value} {xs : List Clm} (h : ReadsC w v xs) (hl : xs.length ≤ 4096) : Calls Tryz.prog 17 #[v] w (RefRankPost xs w) := by
  have hX0 := Lib.hid h
  obtain ⟨A, c, rfl, _⟩ := h
  go_enter Tryz.func17, Tryz.ntmps17
  go_wp2
  generalize hw1 : w.alloc (Obj.cells #[] 23) = w1
  have hN : Hid (w1.ownsRow w.heap.size 23 5 (.slice (some ⟨w.heap.size, 0, none⟩) 0 0) (refRank (xs.take 0)).length ((refRank (xs.take 0)).flatMap cEnc)) := Lib.hid (by subst hw1; exact own_none24 w)
  have ho1 : Only (fun _ => False) w w1 := by subst hw1; exact (Only.refl _ _).alloc _
  clear hw1
  go_loopg [3, 4] (xs.length) (fun g v3 v4 wr => ∃ i : Nat, v4 = .int .i64 (i : Int) ∧ i + g = xs.length ∧ Only (fun _ => False) w wr ∧ Hid (wr.ownsRow w.heap.size 23 5 v3 (refRank (xs.take i)).length ((refRank (xs.take i)).flatMap cEnc)))
  case atStart => exact ⟨0, rfl, by omega, ho1, hN⟩
  case round =>
    obtain ⟨i, rfl, hg, ho, hown⟩ := hrel
    by_cases hi : i < xs.length
    · obtain ⟨x, hx0⟩ : ∃ c, xs[i]? = some c := ⟨xs[i], List.getElem?_eq_getElem hi⟩
      have hx := Lib.hid hx0
      obtain ⟨oA, oc, rfl⟩ := own_sl hown.out
      have hoc := own_cap hown.out
      have hOut := Lib.hid (ReadsC.of_own hown.out)
      have hXw := Lib.hid (hX0.out.quiet ho)
      obtain ⟨bx, ox, rfl⟩ := clm_some hXw.out (show 0 < xs.length by omega)
      have hol : (refRank (xs.take i)).length ≤ i := by rw [refRank_length, List.length_take]; omega
      generalize hout : refRank (xs.take i) = out at *
      have hou := Lib.hid hout
      clear hx0 hout hN
      obtain ⟨x1, x2, x3, x4, x5⟩ := x
      generalize wr = wo at *
      go_wp2
      go_loopg [5] (out.length) (fun g v5 wr => ∃ k : Nat, v5 = .int .i64 (k : Int) ∧ k + g = out.length ∧ Only (fun _ => False) wo wr ∧ Hid (∀ j y, j < k → out[j]? = some y → ¬ -cmpM y ⟨x1, x2, x3, x4, x5⟩ < 0))
      case atStart => exact ⟨0, rfl, by omega, Only.refl _ _, Lib.hid (fun j y hj => by omega)⟩
      case round =>
        obtain ⟨k, rfl, hgk, hoi, hbef⟩ := hrel
        by_cases hk : k < out.length
        · obtain ⟨y, hy⟩ : ∃ c, out[k]? = some c := ⟨out[k], List.getElem?_eq_getElem hk⟩
          obtain ⟨by', oy, rfl⟩ := clm_some hOut.out (show 0 < out.length by omega)
          obtain ⟨k0, k1, k2, k3, k4⟩ := clm_read wr hXw.out hoi hx.out
          obtain ⟨m0, m1, m2, m3, m4⟩ := clm_read wr hOut.out hoi hy
          have hRf := Lib.hid (fun W => refBetter_any y ⟨x1, x2, x3, x4, x5⟩ W)
          unfold RefPost at hRf
          have hY := Lib.hid hy
          have hnb := Lib.hid (rfl : -cmpM y ⟨x1, x2, x3, x4, x5⟩ = -cmpM y ⟨x1, x2, x3, x4, x5⟩)
          have hstep : Hid (¬ -cmpM y ⟨x1, x2, x3, x4, x5⟩ < 0 → ∀ j z, j < k + 1 → out[j]? = some z → ¬ -cmpM z ⟨x1, x2, x3, x4, x5⟩ < 0) := Lib.hid fun hn j z hj hz => by
            by_cases e : j = k
            · subst e
              rw [hy] at hz
              injection hz with hz
              subst hz
              exact hn
            · exact hbef.out j z (by omega) hz
          have hstop : Hid (-cmpM y ⟨x1, x2, x3, x4, x5⟩ < 0 → insAt out ⟨x1, x2, x3, x4, x5⟩ = k) := Lib.hid fun hn => insAt_eq (by omega) hbef.out fun z hz => by
            rw [hy] at hz
            injection hz with hz
            subst hz
            exact hn
          clear hy hnb
          generalize -cmpM y ⟨x1, x2, x3, x4, x5⟩ = nb at *
          generalize (firstM y ⟨x1, x2, x3, x4, x5⟩).1 = tx at *
          clear hY
          obtain ⟨y1, y2, y3, y4, y5⟩ := y
          simp only [cVal] at k0 k1 k2 k3 k4 m0 m1 m2 m3 m4 hRf
          have u0 : ∀ W, Only (fun _ => False) wr.drew W → W.cell? ⟨by', oy + k * 5, none⟩ = some (.string y1) := fun W hW => hW.cellF m0
          have u1 : ∀ W, Only (fun _ => False) wr.drew W → W.cell? ⟨by', oy + k * 5 + 1, none⟩ = some (.string y2) := fun W hW => hW.cellF m1
          have u2 : ∀ W, Only (fun _ => False) wr.drew W → W.cell? ⟨by', oy + k * 5 + 2, none⟩ = some (.int .i64 y3) := fun W hW => hW.cellF m2
          have u3 : ∀ W, Only (fun _ => False) wr.drew W → W.cell? ⟨by', oy + k * 5 + 3, none⟩ = some (.int .i64 y4) := fun W hW => hW.cellF m3
          have u4 : ∀ W, Only (fun _ => False) wr.drew W → W.cell? ⟨by', oy + k * 5 + 4, none⟩ = some (.int .i64 y5) := fun W hW => hW.cellF m4
          have t0 : ∀ W, Only (fun _ => False) wr.drew W → W.cell? ⟨bx, ox + i * 5, none⟩ = some (.string x1) := fun W hW => hW.cellF k0
          have t1 : ∀ W, Only (fun _ => False) wr.drew W → W.cell? ⟨bx, ox + i * 5 + 1, none⟩ = some (.string x2) := fun W hW => hW.cellF k1
          have t2 : ∀ W, Only (fun _ => False) wr.drew W → W.cell? ⟨bx, ox + i * 5 + 2, none⟩ = some (.int .i64 x3) := fun W hW => hW.cellF k2
          have t3 : ∀ W, Only (fun _ => False) wr.drew W → W.cell? ⟨bx, ox + i * 5 + 3, none⟩ = some (.int .i64 x4) := fun W hW => hW.cellF k3
          have t4 : ∀ W, Only (fun _ => False) wr.drew W → W.cell? ⟨bx, ox + i * 5 + 4, none⟩ = some (.int .i64 x5) := fun W hW => hW.cellF k4
          clear m0 m1 m2 m3 m4 k0 k1 k2 k3 k4
          go_wp2
          have hO := Only.refl (fun _ => False) wr.drew
          have hoD := Lib.hid hoi.drew
          refine wp_region_ord (.read 0 (.read 1 (.read 2 (.read 3 (.read 4 (.read 5 (.read 6 (.read 7 (.turn 8 (.read 9 (.read 10 (.read 11 (.read 12 (.read 13 .stop)))))))))))))) (Only (fun _ => False) wr.drew) (by kernel_rfl) (by kernel_rfl) (by kernel_rfl) (by first | exact Only.refl _ _ | assumption) ?_
          refine wpOrd_reads (v := ?_) rfl rfl (fun _ _ _ h => h) ?_ ?_
          rotate_left
          · intro W hW; go_simp; try with_reducible rfl
          go_frame
          refine wpOrd_reads (v := ?_) rfl rfl (fun _ _ _ h => h) ?_ ?_
          rotate_left
          · intro W hW; go_simp; try with_reducible rfl
          go_frame
          refine wpOrd_reads (v := ?_) rfl rfl (fun _ _ _ h => h) ?_ ?_
          rotate_left
          · intro W hW; go_simp; try with_reducible rfl
          go_frame
          refine wpOrd_reads (v := ?_) rfl rfl (fun _ _ _ h => h) ?_ ?_
          rotate_left
          · intro W hW; go_simp; try with_reducible rfl
          go_frame
          refine wpOrd_reads (v := ?_) rfl rfl (fun _ _ _ h => h) ?_ ?_
          rotate_left
          · intro W hW; go_simp; try with_reducible rfl
          go_frame
          refine wpOrd_reads (v := ?_) rfl rfl (fun _ _ _ h => h) ?_ ?_
          rotate_left
          · intro W hW; go_simp; try with_reducible rfl
          go_frame
          refine wpOrd_reads (v := ?_) rfl rfl (fun _ _ _ h => h) ?_ ?_
          rotate_left
          · intro W hW; go_simp; try with_reducible rfl
          go_frame
          refine wpOrd_reads (v := ?_) rfl rfl (fun _ _ _ h => h) ?_ ?_
          rotate_left
          · intro W hW; go_simp; try with_reducible rfl
          go_frame
          refine wpOrd_turns rfl ?_
          go_wp2_with (go_at_call 12; refine (hRf.out _).mono ?_; rintro e wc ⟨rfl, hoc'⟩)
          have hO := hO.trans hoc' fun _ _ => id
          refine ⟨hO, ?_⟩
          refine wpOrd_reads (v := ?_) rfl rfl (fun _ _ _ h => h) ?_ ?_
          rotate_left
          · intro W hW; go_simp; try with_reducible rfl
          go_frame
          refine wpOrd_reads (v := ?_) rfl rfl (fun _ _ _ h => h) ?_ ?_
          rotate_left
          · intro W hW; go_simp; try with_reducible rfl
          go_frame
          refine wpOrd_reads (v := ?_) rfl rfl (fun _ _ _ h => h) ?_ ?_
          rotate_left
          · intro W hW; go_simp; try with_reducible rfl
          go_frame
          refine wpOrd_reads (v := ?_) rfl rfl (fun _ _ _ h => h) ?_ ?_
          rotate_left
          · intro W hW; go_simp; try with_reducible rfl
          go_frame
          refine wpOrd_reads (v := ?_) rfl rfl (fun _ _ _ h => h) ?_ ?_
          rotate_left
          · intro W hW; go_simp; try with_reducible rfl
          go_frame
          refine wpOrd_nil ?_
          clear u0 u1 u2 u3 u4 t0 t1 t2 t3 t4 hoi
          have hoi := hoD.out.trans hO fun _ _ => id
          generalize wc = wr at hoi ⊢
          by_cases hn : nb < 0
          · have hka := Lib.hid (hstop.out hn)
            have hkl : k ≤ out.length := by omega
            clear hO hoD
            go_wp2
            have hXi := Lib.hid (hXw.out.quiet hoi)
            have hOi := Lib.hid (hOut.out.quiet hoi)
            obtain ⟨k0, k1, k2, k3, k4⟩ := clm_read wr hXi.out (Only.refl _ _) hx.out
            have hOd := Lib.hid (ReadsC.drop hOi.out hoc hkl)
            have hOt := Lib.hid (ReadsC.take (c' := oc) hOi.out hkl)
            have hkc : (k : Int) ≤ (oc : Int) := by omega
            have hio := Lib.hid (ho.trans hoi fun _ _ => id).drew
            clear hoi hOut hXw ho
            have hXd := Lib.hid (hOd.out.quiet (Only.refl _ _).drew)
            have hXt := Lib.hid (hOt.out.quiet (Only.refl _ _).drew)
            have j0 : ∀ W, Only (fun _ => False) wr.drew W → W.cell? ⟨bx, ox + i * 5, none⟩ = some (.string x1) := fun W hW => hW.cellF k0
            have j1 : ∀ W, Only (fun _ => False) wr.drew W → W.cell? ⟨bx, ox + i * 5 + 1, none⟩ = some (.string x2) := fun W hW => hW.cellF k1
            have j2 : ∀ W, Only (fun _ => False) wr.drew W → W.cell? ⟨bx, ox + i * 5 + 2, none⟩ = some (.int .i64 x3) := fun W hW => hW.cellF k2
            have j3 : ∀ W, Only (fun _ => False) wr.drew W → W.cell? ⟨bx, ox + i * 5 + 3, none⟩ = some (.int .i64 x4) := fun W hW => hW.cellF k3
            have j4 : ∀ W, Only (fun _ => False) wr.drew W → W.cell? ⟨bx, ox + i * 5 + 4, none⟩ = some (.int .i64 x5) := fun W hW => hW.cellF k4
            clear k0 k1 k2 k3 k4 hOd hOt
            have hO := Only.refl (fun _ => False) wr.drew
            refine wp_region_ord (.read 1 (.read 2 (.read 3 (.read 5 (.read 6 (.read 7 (.read 8 (.read 11 (.read 12 (.read 13 (.fork 0 9 (.fork 4 9 (.turn 9 (.turn 10 (.turn 14 (.read 15 .stop)))) (.turn 4 (.turn 10 (.turn 14 (.read 15 .stop))))) (.turn 0 (.turn 4 (.turn 10 (.turn 14 (.read 15 .stop)))))))))))))))) (Only (fun _ => False) wr.drew) (by kernel_rfl) (by kernel_rfl) (by kernel_rfl) (by first | exact Only.refl _ _ | assumption) ?_
            refine wpOrd_reads (v := ?_) rfl rfl (fun _ _ _ h => h) ?_ ?_
            rotate_left
            · intro W hW; go_simp; try with_reducible rfl
            go_frame
            refine wpOrd_reads (v := ?_) rfl rfl (fun _ _ _ h => h) ?_ ?_
            rotate_left
            · intro W hW; go_simp; try with_reducible rfl
            go_frame
            refine wpOrd_reads (v := ?_) rfl rfl (fun _ _ _ h => h) ?_ ?_
            rotate_left
            · intro W hW; go_simp; try with_reducible rfl
            go_frame
            refine wpOrd_reads (v := ?_) rfl rfl (fun _ _ _ h => h) ?_ ?_
            rotate_left
            · intro W hW; go_simp; try with_reducible rfl
            go_frame
            refine wpOrd_reads (v := ?_) rfl rfl (fun _ _ _ h => h) ?_ ?_
            rotate_left
            · intro W hW; go_simp; try with_reducible rfl
            go_frame
            refine wpOrd_reads (v := ?_) rfl rfl (fun _ _ _ h => h) ?_ ?_
            rotate_left
            · intro W hW; go_simp; try with_reducible rfl
            go_frame
            refine wpOrd_reads (v := ?_) rfl rfl (fun _ _ _ h => h) ?_ ?_
            rotate_left
            · intro W hW; go_simp; try with_reducible rfl
            go_frame
            refine wpOrd_reads (v := ?_) rfl rfl (fun _ _ _ h => h) ?_ ?_
            rotate_left
            · intro W hW; go_simp; try with_reducible rfl
            go_frame
            refine wpOrd_reads (v := ?_) rfl rfl (fun _ _ _ h => h) ?_ ?_
            rotate_left
            · intro W hW; go_simp; try with_reducible rfl
            go_frame
            refine wpOrd_reads (v := ?_) rfl rfl (fun _ _ _ h => h) ?_ ?_
            rotate_left
            · intro W hW; go_simp; try with_reducible rfl
            go_frame
            refine wpOrd_forks ?_ ?_
            · refine wpOrd_turns rfl ?_
              go_wp2
              have hR0 := ownsRow_base (own_none24 _) hO.size
              try rw [World.size_alloc] at hR0
              try rw [World.size_drew] at hR0
              have hR := Lib.hid hR0
              clear hR0
              try have hS := Lib.hid (hS.out.quiet ((Only.refl _ _).alloc (.cells #[] 23)))
              have hO := hO.alloc (.cells #[] 23)
              refine ⟨hO, ?_⟩
              refine wpOrd_forks ?_ ?_
              · refine wpOrd_turns rfl ?_
                refine wpList_append_clms rfl _ _ rfl (ps := []) (ys := out.take k) rfl hR.out rfl (hXt.out.quiet hO) (by simp; omega) hO.size ?_
                intro v3 w3 hR1 hg3 hb3
                have hO := hO.grown hg3 (fun i hi hlt => by have := (hR.out.lt i hi).1; simp only [World.size_drew] at hlt; omega)
                try have hS := Lib.hid (hS.out.grown hg3 fun b hb e => by injection hb with hb; injection e with e; simp only at hb e; omega)
                have hR := Lib.hid hR1
                refine wpList_nil ⟨hO, ?_⟩
                refine wpOrd_turns rfl ?_
                go_wp2
                have hS0 := reads_new hO ⟨x1, x2, x3, x4, x5⟩
                try rw [World.size_alloc] at hS0
                try rw [World.size_drew] at hS0
                have hS := Lib.hid hS0
                clear hS0
                try have hR := Lib.hid (hR.out.alloc (.cells #[.string x1, .string x2, .int .i64 x3, .int .i64 x4, .int .i64 x5] 23))
                have hO := hO.alloc (.cells #[.string x1, .string x2, .int .i64 x3, .int .i64 x4, .int .i64 x5] 23)
                refine ⟨hO, ?_⟩
                refine wpOrd_turns rfl ?_
                refine wpList_append_clms rfl _ _ rfl (ps := [] ++ out.take k) (ys := [⟨x1, x2, x3, x4, x5⟩]) rfl hR.out (xv := .slice (some ⟨_, 0, none⟩) 1 1) rfl hS.out (by simp; omega) hO.size ?_
                intro v4 w4 hR2 hg4 hb4
                have hO := hO.grown hg4 (fun i hi hlt => by have := (hR.out.lt i hi).1; simp only [World.size_drew] at hlt; omega)
                have hR := Lib.hid hR2
                refine wpList_nil ⟨hO, ?_⟩
                refine wpOrd_turns rfl ?_
                refine wpList_append_clms rfl _ _ rfl (ps := [] ++ out.take k ++ [⟨x1, x2, x3, x4, x5⟩]) (ys := out.drop k) rfl hR.out rfl (hXd.out.quiet hO) (by simp; omega) hO.size ?_
                intro v5 w5 hR3 hg5 hb5
                have hO := hO.grown hg5 (fun i hi hlt => by have := (hR.out.lt i hi).1; simp only [World.size_drew] at hlt; omega)
                have hR := Lib.hid hR3
                refine wpList_nil ⟨hO, ?_⟩
                refine wpOrd_reads (v := ?_) rfl rfl (fun _ _ _ h => h) ?_ ?_
                rotate_left
                · intro W hW; go_simp; try with_reducible rfl
                go_frame
                refine wpOrd_nil ?_
                clear j0 j1 j2 j3 j4
                go_wp2
                go_roundg (xs.length - (i + 1))
                case measure => omega
                case rel =>
                  refine ⟨i + 1, by simp, by omega, hio.out.trans hO fun _ _ => id, Lib.hid ?_⟩
                  have hR' := hR.out
                  have e1 : [] ++ out.take k ++ [⟨x1, x2, x3, x4, x5⟩] ++ out.drop k = refRank (xs.take (i + 1)) := by rw [refRank_step hx.out, hou.out]; unfold insM; rw [hka.out, List.nil_append]
                  rw [e1] at hR'
                  exact ownsRow_base hR' hio.out.size
              · refine wpOrd_turns rfl ?_
                go_wp2
                have hS0 := reads_new hO ⟨x1, x2, x3, x4, x5⟩
                try rw [World.size_alloc] at hS0
                try rw [World.size_drew] at hS0
                have hS := Lib.hid hS0
                clear hS0
                try have hR := Lib.hid (hR.out.alloc (.cells #[.string x1, .string x2, .int .i64 x3, .int .i64 x4, .int .i64 x5] 23))
                have hO := hO.alloc (.cells #[.string x1, .string x2, .int .i64 x3, .int .i64 x4, .int .i64 x5] 23)
                refine ⟨hO, ?_⟩
                refine wpOrd_turns rfl ?_
                refine wpList_append_clms rfl _ _ rfl (ps := []) (ys := out.take k) rfl hR.out rfl (hXt.out.quiet hO) (by simp; omega) hO.size ?_
                intro v3 w3 hR1 hg3 hb3
                have hO := hO.grown hg3 (fun i hi hlt => by have := (hR.out.lt i hi).1; simp only [World.size_drew] at hlt; omega)
                try have hS := Lib.hid (hS.out.grown hg3 fun b hb e => by injection hb with hb; injection e with e; simp only at hb e; omega)
                have hR := Lib.hid hR1
                refine wpList_nil ⟨hO, ?_⟩
                refine wpOrd_turns rfl ?_
                refine wpList_append_clms rfl _ _ rfl (ps := [] ++ out.take k) (ys := [⟨x1, x2, x3, x4, x5⟩]) rfl hR.out (xv := .slice (some ⟨_, 0, none⟩) 1 1) rfl hS.out (by simp; omega) hO.size ?_
                intro v4 w4 hR2 hg4 hb4
                have hO := hO.grown hg4 (fun i hi hlt => by have := (hR.out.lt i hi).1; simp only [World.size_drew] at hlt; omega)
                have hR := Lib.hid hR2
                refine wpList_nil ⟨hO, ?_⟩
                refine wpOrd_turns rfl ?_
                refine wpList_append_clms rfl _ _ rfl (ps := [] ++ out.take k ++ [⟨x1, x2, x3, x4, x5⟩]) (ys := out.drop k) rfl hR.out rfl (hXd.out.quiet hO) (by simp; omega) hO.size ?_
                intro v5 w5 hR3 hg5 hb5
                have hO := hO.grown hg5 (fun i hi hlt => by have := (hR.out.lt i hi).1; simp only [World.size_drew] at hlt; omega)
                have hR := Lib.hid hR3
                refine wpList_nil ⟨hO, ?_⟩
                refine wpOrd_reads (v := ?_) rfl rfl (fun _ _ _ h => h) ?_ ?_
                rotate_left
                · intro W hW; go_simp; try with_reducible rfl
                go_frame
                refine wpOrd_nil ?_
                clear j0 j1 j2 j3 j4
                go_wp2
                go_roundg (xs.length - (i + 1))
                case measure => omega
                case rel =>
                  refine ⟨i + 1, by simp, by omega, hio.out.trans hO fun _ _ => id, Lib.hid ?_⟩
                  have hR' := hR.out
                  have e1 : [] ++ out.take k ++ [⟨x1, x2, x3, x4, x5⟩] ++ out.drop k = refRank (xs.take (i + 1)) := by rw [refRank_step hx.out, hou.out]; unfold insM; rw [hka.out, List.nil_append]
                  rw [e1] at hR'
                  exact ownsRow_base hR' hio.out.size
            · refine wpOrd_turns rfl ?_
              go_wp2
              have hS0 := reads_new hO ⟨x1, x2, x3, x4, x5⟩
              try rw [World.size_alloc] at hS0
              try rw [World.size_drew] at hS0
              have hS := Lib.hid hS0
              clear hS0
              try have hR := Lib.hid (hR.out.alloc (.cells #[.string x1, .string x2, .int .i64 x3, .int .i64 x4, .int .i64 x5] 23))
              have hO := hO.alloc (.cells #[.string x1, .string x2, .int .i64 x3, .int .i64 x4, .int .i64 x5] 23)
              refine ⟨hO, ?_⟩
              refine wpOrd_turns rfl ?_
              go_wp2
              have hR0 := ownsRow_base (own_none24 _) hO.size
              try rw [World.size_alloc] at hR0
              try rw [World.size_drew] at hR0
              have hR := Lib.hid hR0
              clear hR0
              try have hS := Lib.hid (hS.out.quiet ((Only.refl _ _).alloc (.cells #[] 23)))
              have hO := hO.alloc (.cells #[] 23)
              refine ⟨hO, ?_⟩
              refine wpOrd_turns rfl ?_
              refine wpList_append_clms rfl _ _ rfl (ps := []) (ys := out.take k) rfl hR.out rfl (hXt.out.quiet hO) (by simp; omega) hO.size ?_
              intro v3 w3 hR1 hg3 hb3
              have hO := hO.grown hg3 (fun i hi hlt => by have := (hR.out.lt i hi).1; simp only [World.size_drew] at hlt; omega)
              try have hS := Lib.hid (hS.out.grown hg3 fun b hb e => by injection hb with hb; injection e with e; simp only at hb e; omega)
              have hR := Lib.hid hR1
              refine wpList_nil ⟨hO, ?_⟩
              refine wpOrd_turns rfl ?_
              refine wpList_append_clms rfl _ _ rfl (ps := [] ++ out.take k) (ys := [⟨x1, x2, x3, x4, x5⟩]) rfl hR.out (xv := .slice (some ⟨_, 0, none⟩) 1 1) rfl hS.out (by simp; omega) hO.size ?_
              intro v4 w4 hR2 hg4 hb4
              have hO := hO.grown hg4 (fun i hi hlt => by have := (hR.out.lt i hi).1; simp only [World.size_drew] at hlt; omega)
              have hR := Lib.hid hR2
              refine wpList_nil ⟨hO, ?_⟩
              refine wpOrd_turns rfl ?_
              refine wpList_append_clms rfl _ _ rfl (ps := [] ++ out.take k ++ [⟨x1, x2, x3, x4, x5⟩]) (ys := out.drop k) rfl hR.out rfl (hXd.out.quiet hO) (by simp; omega) hO.size ?_
              intro v5 w5 hR3 hg5 hb5
              have hO := hO.grown hg5 (fun i hi hlt => by have := (hR.out.lt i hi).1; simp only [World.size_drew] at hlt; omega)
              have hR := Lib.hid hR3
              refine wpList_nil ⟨hO, ?_⟩
              refine wpOrd_reads (v := ?_) rfl rfl (fun _ _ _ h => h) ?_ ?_
              rotate_left
              · intro W hW; go_simp; try with_reducible rfl
              go_frame
              refine wpOrd_nil ?_
              clear j0 j1 j2 j3 j4
              go_wp2
              go_roundg (xs.length - (i + 1))
              case measure => omega
              case rel =>
                refine ⟨i + 1, by simp, by omega, hio.out.trans hO fun _ _ => id, Lib.hid ?_⟩
                have hR' := hR.out
                have e1 : [] ++ out.take k ++ [⟨x1, x2, x3, x4, x5⟩] ++ out.drop k = refRank (xs.take (i + 1)) := by rw [refRank_step hx.out, hou.out]; unfold insM; rw [hka.out, List.nil_append]
                rw [e1] at hR'
                exact ownsRow_base hR' hio.out.size
          · have hst := Lib.hid (hstep.out (by omega))
            clear hO hoD
            go_wp2
            go_roundg (out.length - (k + 1))
            case measure => omega
            case rel => exact ⟨k + 1, by simp, by omega, hoi, hst⟩
        · have hke : k = out.length := by omega
          have hka : Hid (insAt out ⟨x1, x2, x3, x4, x5⟩ = k) := Lib.hid (insAt_eq (by omega) hbef.out fun z hz => by have := (List.getElem?_eq_some_iff.1 hz).1; omega)
          have hkl : k ≤ out.length := by omega
          have hKE := Lib.hid hke
          clear hke
          go_wp2
          have hXi := Lib.hid (hXw.out.quiet hoi)
          have hOi := Lib.hid (hOut.out.quiet hoi)
          obtain ⟨k0, k1, k2, k3, k4⟩ := clm_read wr hXi.out (Only.refl _ _) hx.out
          have hOd := Lib.hid (ReadsC.drop hOi.out hoc hkl)
          have hOt := Lib.hid (ReadsC.take (c' := oc) hOi.out hkl)
          have hkc : (k : Int) ≤ (oc : Int) := by omega
          have hio := Lib.hid (ho.trans hoi fun _ _ => id).drew
          clear hoi hOut hXw ho
          have hXd := Lib.hid (hOd.out.quiet (Only.refl _ _).drew)
          have hXt := Lib.hid (hOt.out.quiet (Only.refl _ _).drew)
          have j0 : ∀ W, Only (fun _ => False) wr.drew W → W.cell? ⟨bx, ox + i * 5, none⟩ = some (.string x1) := fun W hW => hW.cellF k0
          have j1 : ∀ W, Only (fun _ => False) wr.drew W → W.cell? ⟨bx, ox + i * 5 + 1, none⟩ = some (.string x2) := fun W hW => hW.cellF k1
          have j2 : ∀ W, Only (fun _ => False) wr.drew W → W.cell? ⟨bx, ox + i * 5 + 2, none⟩ = some (.int .i64 x3) := fun W hW => hW.cellF k2
          have j3 : ∀ W, Only (fun _ => False) wr.drew W → W.cell? ⟨bx, ox + i * 5 + 3, none⟩ = some (.int .i64 x4) := fun W hW => hW.cellF k3
          have j4 : ∀ W, Only (fun _ => False) wr.drew W → W.cell? ⟨bx, ox + i * 5 + 4, none⟩ = some (.int .i64 x5) := fun W hW => hW.cellF k4
          clear k0 k1 k2 k3 k4 hOd hOt
          have hO := Only.refl (fun _ => False) wr.drew
          refine wp_region_ord (.read 1 (.read 2 (.read 3 (.read 5 (.read 6 (.read 7 (.read 8 (.read 11 (.read 12 (.read 13 (.fork 0 9 (.fork 4 9 (.turn 9 (.turn 10 (.turn 14 (.read 15 .stop)))) (.turn 4 (.turn 10 (.turn 14 (.read 15 .stop))))) (.turn 0 (.turn 4 (.turn 10 (.turn 14 (.read 15 .stop)))))))))))))))) (Only (fun _ => False) wr.drew) (by kernel_rfl) (by kernel_rfl) (by kernel_rfl) (by first | exact Only.refl _ _ | assumption) ?_
          refine wpOrd_reads (v := ?_) rfl rfl (fun _ _ _ h => h) ?_ ?_
          rotate_left
          · intro W hW; go_simp; try with_reducible rfl
          go_frame
          refine wpOrd_reads (v := ?_) rfl rfl (fun _ _ _ h => h) ?_ ?_
          rotate_left
          · intro W hW; go_simp; try with_reducible rfl
          go_frame
          refine wpOrd_reads (v := ?_) rfl rfl (fun _ _ _ h => h) ?_ ?_
          rotate_left
          · intro W hW; go_simp; try with_reducible rfl
          go_frame
          refine wpOrd_reads (v := ?_) rfl rfl (fun _ _ _ h => h) ?_ ?_
          rotate_left
          · intro W hW; go_simp; try with_reducible rfl
          go_frame
          refine wpOrd_reads (v := ?_) rfl rfl (fun _ _ _ h => h) ?_ ?_
          rotate_left
          · intro W hW; go_simp; try with_reducible rfl
          go_frame
          refine wpOrd_reads (v := ?_) rfl rfl (fun _ _ _ h => h) ?_ ?_
          rotate_left
          · intro W hW; go_simp; try with_reducible rfl
          go_frame
          refine wpOrd_reads (v := ?_) rfl rfl (fun _ _ _ h => h) ?_ ?_
          rotate_left
          · intro W hW; go_simp; try with_reducible rfl
          go_frame
          refine wpOrd_reads (v := ?_) rfl rfl (fun _ _ _ h => h) ?_ ?_
          rotate_left
          · intro W hW; go_simp; try with_reducible rfl
          go_frame
          refine wpOrd_reads (v := ?_) rfl rfl (fun _ _ _ h => h) ?_ ?_
          rotate_left
          · intro W hW; go_simp; try with_reducible rfl
          go_frame
          refine wpOrd_reads (v := ?_) rfl rfl (fun _ _ _ h => h) ?_ ?_
          rotate_left
          · intro W hW; go_simp; try with_reducible rfl
          go_frame
          refine wpOrd_forks ?_ ?_
          · refine wpOrd_turns rfl ?_
            go_wp2
            have hR0 := ownsRow_base (own_none24 _) hO.size
            try rw [World.size_alloc] at hR0
            try rw [World.size_drew] at hR0
            have hR := Lib.hid hR0
            clear hR0
            try have hS := Lib.hid (hS.out.quiet ((Only.refl _ _).alloc (.cells #[] 23)))
            have hO := hO.alloc (.cells #[] 23)
            refine ⟨hO, ?_⟩
            refine wpOrd_forks ?_ ?_
            · refine wpOrd_turns rfl ?_
              refine wpList_append_clms rfl _ _ rfl (ps := []) (ys := out.take k) rfl hR.out rfl (hXt.out.quiet hO) (by simp; omega) hO.size ?_
              intro v3 w3 hR1 hg3 hb3
              have hO := hO.grown hg3 (fun i hi hlt => by have := (hR.out.lt i hi).1; simp only [World.size_drew] at hlt; omega)
              try have hS := Lib.hid (hS.out.grown hg3 fun b hb e => by injection hb with hb; injection e with e; simp only at hb e; omega)
              have hR := Lib.hid hR1
              refine wpList_nil ⟨hO, ?_⟩
              refine wpOrd_turns rfl ?_
              go_wp2
              have hS0 := reads_new hO ⟨x1, x2, x3, x4, x5⟩
              try rw [World.size_alloc] at hS0
              try rw [World.size_drew] at hS0
              have hS := Lib.hid hS0
              clear hS0
              try have hR := Lib.hid (hR.out.alloc (.cells #[.string x1, .string x2, .int .i64 x3, .int .i64 x4, .int .i64 x5] 23))
              have hO := hO.alloc (.cells #[.string x1, .string x2, .int .i64 x3, .int .i64 x4, .int .i64 x5] 23)
              refine ⟨hO, ?_⟩
              refine wpOrd_turns rfl ?_
              refine wpList_append_clms rfl _ _ rfl (ps := [] ++ out.take k) (ys := [⟨x1, x2, x3, x4, x5⟩]) rfl hR.out (xv := .slice (some ⟨_, 0, none⟩) 1 1) rfl hS.out (by simp; omega) hO.size ?_
              intro v4 w4 hR2 hg4 hb4
              have hO := hO.grown hg4 (fun i hi hlt => by have := (hR.out.lt i hi).1; simp only [World.size_drew] at hlt; omega)
              have hR := Lib.hid hR2
              refine wpList_nil ⟨hO, ?_⟩
              refine wpOrd_turns rfl ?_
              refine wpList_append_clms rfl _ _ rfl (ps := [] ++ out.take k ++ [⟨x1, x2, x3, x4, x5⟩]) (ys := out.drop k) rfl hR.out rfl (hXd.out.quiet hO) (by simp; omega) hO.size ?_
              intro v5 w5 hR3 hg5 hb5
              have hO := hO.grown hg5 (fun i hi hlt => by have := (hR.out.lt i hi).1; simp only [World.size_drew] at hlt; omega)
              have hR := Lib.hid hR3
              refine wpList_nil ⟨hO, ?_⟩
              refine wpOrd_reads (v := ?_) rfl rfl (fun _ _ _ h => h) ?_ ?_
              rotate_left
              · intro W hW; go_simp; try with_reducible rfl
              go_frame
              refine wpOrd_nil ?_
              clear j0 j1 j2 j3 j4
              go_wp2
              go_roundg (xs.length - (i + 1))
              case measure => omega
              case rel =>
                refine ⟨i + 1, by simp, by omega, hio.out.trans hO fun _ _ => id, Lib.hid ?_⟩
                have hR' := hR.out
                have e1 : [] ++ out.take k ++ [⟨x1, x2, x3, x4, x5⟩] ++ out.drop k = refRank (xs.take (i + 1)) := by rw [refRank_step hx.out, hou.out]; unfold insM; rw [hka.out, List.nil_append]
                rw [e1] at hR'
                exact ownsRow_base hR' hio.out.size
            · refine wpOrd_turns rfl ?_
              go_wp2
              have hS0 := reads_new hO ⟨x1, x2, x3, x4, x5⟩
              try rw [World.size_alloc] at hS0
              try rw [World.size_drew] at hS0
              have hS := Lib.hid hS0
              clear hS0
              try have hR := Lib.hid (hR.out.alloc (.cells #[.string x1, .string x2, .int .i64 x3, .int .i64 x4, .int .i64 x5] 23))
              have hO := hO.alloc (.cells #[.string x1, .string x2, .int .i64 x3, .int .i64 x4, .int .i64 x5] 23)
              refine ⟨hO, ?_⟩
              refine wpOrd_turns rfl ?_
              refine wpList_append_clms rfl _ _ rfl (ps := []) (ys := out.take k) rfl hR.out rfl (hXt.out.quiet hO) (by simp; omega) hO.size ?_
              intro v3 w3 hR1 hg3 hb3
              have hO := hO.grown hg3 (fun i hi hlt => by have := (hR.out.lt i hi).1; simp only [World.size_drew] at hlt; omega)
              try have hS := Lib.hid (hS.out.grown hg3 fun b hb e => by injection hb with hb; injection e with e; simp only at hb e; omega)
              have hR := Lib.hid hR1
              refine wpList_nil ⟨hO, ?_⟩
              refine wpOrd_turns rfl ?_
              refine wpList_append_clms rfl _ _ rfl (ps := [] ++ out.take k) (ys := [⟨x1, x2, x3, x4, x5⟩]) rfl hR.out (xv := .slice (some ⟨_, 0, none⟩) 1 1) rfl hS.out (by simp; omega) hO.size ?_
              intro v4 w4 hR2 hg4 hb4
              have hO := hO.grown hg4 (fun i hi hlt => by have := (hR.out.lt i hi).1; simp only [World.size_drew] at hlt; omega)
              have hR := Lib.hid hR2
              refine wpList_nil ⟨hO, ?_⟩
              refine wpOrd_turns rfl ?_
              refine wpList_append_clms rfl _ _ rfl (ps := [] ++ out.take k ++ [⟨x1, x2, x3, x4, x5⟩]) (ys := out.drop k) rfl hR.out rfl (hXd.out.quiet hO) (by simp; omega) hO.size ?_
              intro v5 w5 hR3 hg5 hb5
              have hO := hO.grown hg5 (fun i hi hlt => by have := (hR.out.lt i hi).1; simp only [World.size_drew] at hlt; omega)
              have hR := Lib.hid hR3
              refine wpList_nil ⟨hO, ?_⟩
              refine wpOrd_reads (v := ?_) rfl rfl (fun _ _ _ h => h) ?_ ?_
              rotate_left
              · intro W hW; go_simp; try with_reducible rfl
              go_frame
              refine wpOrd_nil ?_
              clear j0 j1 j2 j3 j4
              go_wp2
              go_roundg (xs.length - (i + 1))
              case measure => omega
              case rel =>
                refine ⟨i + 1, by simp, by omega, hio.out.trans hO fun _ _ => id, Lib.hid ?_⟩
                have hR' := hR.out
                have e1 : [] ++ out.take k ++ [⟨x1, x2, x3, x4, x5⟩] ++ out.drop k = refRank (xs.take (i + 1)) := by rw [refRank_step hx.out, hou.out]; unfold insM; rw [hka.out, List.nil_append]
                rw [e1] at hR'
                exact ownsRow_base hR' hio.out.size
          · refine wpOrd_turns rfl ?_
            go_wp2
            have hS0 := reads_new hO ⟨x1, x2, x3, x4, x5⟩
            try rw [World.size_alloc] at hS0
            try rw [World.size_drew] at hS0
            have hS := Lib.hid hS0
            clear hS0
            try have hR := Lib.hid (hR.out.alloc (.cells #[.string x1, .string x2, .int .i64 x3, .int .i64 x4, .int .i64 x5] 23))
            have hO := hO.alloc (.cells #[.string x1, .string x2, .int .i64 x3, .int .i64 x4, .int .i64 x5] 23)
            refine ⟨hO, ?_⟩
            refine wpOrd_turns rfl ?_
            go_wp2
            have hR0 := ownsRow_base (own_none24 _) hO.size
            try rw [World.size_alloc] at hR0
            try rw [World.size_drew] at hR0
            have hR := Lib.hid hR0
            clear hR0
            try have hS := Lib.hid (hS.out.quiet ((Only.refl _ _).alloc (.cells #[] 23)))
            have hO := hO.alloc (.cells #[] 23)
            refine ⟨hO, ?_⟩
            refine wpOrd_turns rfl ?_
            refine wpList_append_clms rfl _ _ rfl (ps := []) (ys := out.take k) rfl hR.out rfl (hXt.out.quiet hO) (by simp; omega) hO.size ?_
            intro v3 w3 hR1 hg3 hb3
            have hO := hO.grown hg3 (fun i hi hlt => by have := (hR.out.lt i hi).1; simp only [World.size_drew] at hlt; omega)
            try have hS := Lib.hid (hS.out.grown hg3 fun b hb e => by injection hb with hb; injection e with e; simp only at hb e; omega)
            have hR := Lib.hid hR1
            refine wpList_nil ⟨hO, ?_⟩
            refine wpOrd_turns rfl ?_
            refine wpList_append_clms rfl _ _ rfl (ps := [] ++ out.take k) (ys := [⟨x1, x2, x3, x4, x5⟩]) rfl hR.out (xv := .slice (some ⟨_, 0, none⟩) 1 1) rfl hS.out (by simp; omega) hO.size ?_
            intro v4 w4 hR2 hg4 hb4
            have hO := hO.grown hg4 (fun i hi hlt => by have := (hR.out.lt i hi).1; simp only [World.size_drew] at hlt; omega)
            have hR := Lib.hid hR2
            refine wpList_nil ⟨hO, ?_⟩
            refine wpOrd_turns rfl ?_
            refine wpList_append_clms rfl _ _ rfl (ps := [] ++ out.take k ++ [⟨x1, x2, x3, x4, x5⟩]) (ys := out.drop k) rfl hR.out rfl (hXd.out.quiet hO) (by simp; omega) hO.size ?_
            intro v5 w5 hR3 hg5 hb5
            have hO := hO.grown hg5 (fun i hi hlt => by have := (hR.out.lt i hi).1; simp only [World.size_drew] at hlt; omega)
            have hR := Lib.hid hR3
            refine wpList_nil ⟨hO, ?_⟩
            refine wpOrd_reads (v := ?_) rfl rfl (fun _ _ _ h => h) ?_ ?_
            rotate_left
            · intro W hW; go_simp; try with_reducible rfl
            go_frame
            refine wpOrd_nil ?_
            clear j0 j1 j2 j3 j4
            go_wp2
            go_roundg (xs.length - (i + 1))
            case measure => omega
            case rel =>
              refine ⟨i + 1, by simp, by omega, hio.out.trans hO fun _ _ => id, Lib.hid ?_⟩
              have hR' := hR.out
              have e1 : [] ++ out.take k ++ [⟨x1, x2, x3, x4, x5⟩] ++ out.drop k = refRank (xs.take (i + 1)) := by rw [refRank_step hx.out, hou.out]; unfold insM; rw [hka.out, List.nil_append]
              rw [e1] at hR'
              exact ownsRow_base hR' hio.out.size
    · have hie : i = xs.length := by omega
      subst hie
      rw [List.take_length] at hown
      have hrl := refRank_length xs
      rw [hrl] at hown
      clear hrl
      go_wp2
      go_ret
      exact ⟨_, rfl, hown.out, ho⟩
end Go.Proofs.YteecfjkljmmecaaGreat
