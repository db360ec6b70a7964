/- WALKS: alike, at two ledgers that read as the same. -/
import Derived.Test.YtoeokakcdfdjkaaWu
namespace Go.Proofs.Ytoeokakcdfdjkaa
open Go.RowKit Go.Shelf
attribute [local go_sem high] eqHold
theorem keys_one {ks js : List ByteArray} (hp : ks.Perm js) (h1 : (ks.map bl).Pairwise (· ≤ ·)) (h2 : (js.map bl).Pairwise (· ≤ ·)) : ks = js := by
  have h : ks.map bl = js.map bl := List.Perm.eq_of_pairwise (fun a b _ _ h k => List.le_antisymm h k) h1 h2 (hp.map _)
  refine List.map_inj_right (f := bl) (fun x y e => ?_) |>.1 h
  exact ByteArray.ext (Array.toList_inj.1 e)
theorem holdCells_at {xs : List HoldD} {i : Nat} {e : HoldD} (h : xs[i]? = some e) : (holdCells xs)[4 * i]? = some (.string e.id) ∧ (holdCells xs)[4 * i + 1]? = some (.string e.acct) ∧ (holdCells xs)[4 * i + 2]? = some (.string e.cur) ∧ (holdCells xs)[4 * i + 3]? = some (.int .i64 e.amt) := by
  induction xs generalizing i with
  | nil => simp at h
  | cons x r ih =>
    cases i with
    | zero => simp at h; subst h; simp [holdCells]
    | succ i =>
      have := ih (i := i) (by simpa using h)
      have e1 : 4 * (i + 1) = 4 * i + 4 := by omega
      rw [e1]
      simpa [holdCells] using this
def HoldRow (w : World) (v : Value) (xs : List HoldD) : Prop := ∃ A c, v = .slice A xs.length c ∧ ∀ i e, xs[i]? = some e → ∃ b, A = some ⟨b, 0, none⟩ ∧
    w.cell? ⟨b, i * 4, none⟩ = some (.string e.id) ∧ w.cell? ⟨b, i * 4 + 1, none⟩ = some (.string e.acct) ∧ w.cell? ⟨b, i * 4 + 2, none⟩ = some (.string e.cur) ∧ w.cell? ⟨b, i * 4 + 3, none⟩ = some (.int .i64 e.amt)
theorem HoldRow.of {w : World} {base : Nat} {v : Value} {xs : List HoldD} (h : w.ownsRow base 66 4 v xs.length (holdCells xs)) : HoldRow w v xs := by
  obtain ⟨A, c, rfl⟩ := own_sl h
  refine ⟨A, c, rfl, fun i e he => ?_⟩
  have hlt : i < xs.length := (List.getElem?_eq_some_iff.1 he).1
  obtain ⟨B, hB⟩ : ∃ B, xs.length = B + 1 := ⟨xs.length - 1, by omega⟩
  rw [hB] at h
  obtain ⟨g, c', he', hcell⟩ := own_first h
  injection he' with he1 _ he2
  subst he1
  obtain ⟨k0, k1, k2, k3⟩ := holdCells_at he
  have e1 : i * 4 = 4 * i := by omega
  rw [e1]
  exact ⟨g, rfl, hcell _ _ k0, hcell _ _ k1, hcell _ _ k2, hcell _ _ k3⟩
theorem HoldRow.quiet {w w' : World} {v : Value} {xs : List HoldD} (h : HoldRow w v xs) (ho : Only (fun _ => False) w w') : HoldRow w' v xs := by
  obtain ⟨A, c, rfl, hr⟩ := h
  refine ⟨A, c, rfl, fun i e he => ?_⟩
  obtain ⟨b, rfl, k0, k1, k2, k3⟩ := hr i e he
  exact ⟨b, rfl, ho.keeps k0 not_false, ho.keeps k1 not_false, ho.keeps k2 not_false, ho.keeps k3 not_false⟩
section
variable {w : World} {la lb : Loc} {S : Led}
set_option maxHeartbeats 8000000 in
set_option maxRecDepth 100000 in
theorem alike_any (ha : LAt w la S) (hb : LAt w lb S) (G : Good S) (hA : S.A.length ≤ 100000) (hP : S.P.length ≤ 100000) (hH : S.H.length ≤ 100000) (hpe : ∀ p ∈ S.P, p.ents.length ≤ 100000) (hk : ∀ k ∈ akeys S.H, k.size ≤ 1000000) :
    Calls Try.prog 23 #[.pointer (some ⟨la.lb, 0, none⟩), .pointer (some ⟨lb.lb, 0, none⟩)] w (SamePost w) := by
  have hAa := Lib.hid (fun V (hV : Only (fun _ => False) w V) => accounts_any (ha.quiet hV) hA)
  have hAb := Lib.hid (fun V (hV : Only (fun _ => False) w V) => accounts_any (hb.quiet hV) hA)
  have hHa := Lib.hid (fun V (hV : Only (fun _ => False) w V) => holds_any (ha.quiet hV) hk hH)
  have hHb := Lib.hid (fun V (hV : Only (fun _ => False) w V) => holds_any (hb.quiet hV) hk hH)
  have hPa := Lib.hid (fun V (hV : Only (fun _ => False) w V) => posts_any (ha.quiet hV) hP hpe)
  have hPb := Lib.hid (fun V (hV : Only (fun _ => False) w V) => posts_any (hb.quiet hV) hP hpe)
  have hFa := Lib.hid (fun V (hV : Only (fun _ => False) w V) => freeOf_any (ha.quiet hV) G)
  have hFb := Lib.hid (fun V (hV : Only (fun _ => False) w V) => freeOf_any (hb.quiet hV) G)
  have hl : Hid (∀ xs : List Ent, xs.Perm (entsOf S.A) → xs.length ≤ 100000) := Lib.hid fun xs hp => by have := hp.length_eq; simp [entsOf] at this; omega
  have hPE := Lib.hid hpe
  have hhl : Hid (∀ ks : List ByteArray, ks.Perm (akeys S.H) → ks.length ≤ 100000) := Lib.hid fun ks hp => by have := hp.length_eq; simp [akeys] at this; omega
  clear hpe
  have ho := Only.refl (fun _ => False) w
  go_enter Try.func23, Try.ntmps23
  go_wp2_with (first
    | (go_at_call 20; have hc := hAa.out _ ho; clear hAa; refine hc.mono ?_; clear hc; rintro e w1 ⟨va, xs, rfl, hxp, hxr, hxo, ho1⟩; have hxe := ReadsEnts.of_own hxo; clear hxo; have ho' := ho.andThen ho1; clear ho; have ho := ho'; clear ho')
    | (go_at_call 20; have hc := hAb.out _ ho; clear hAb; refine hc.mono ?_; clear hc; rintro e w2 ⟨vb, ys, rfl, hyp, hyr, hyo, ho2⟩; have hye := ReadsEnts.of_own hyo; clear hyo; have ho' := ho.andThen ho2; clear ho; have ho := ho'; clear ho'; obtain rfl := rising_one hxr hyr (hxp.trans hyp.symm); have hxe' := hxe.only ho2 (fun _ _ => id); clear hxe ho1 ho2 hyp hyr)
    | (go_at_call 30; have hc := hHa.out _ ho; clear hHa; refine hc.mono ?_; clear hc; rintro e w3 ⟨ua, ks, rfl, hkp, hkr, hko, ho3⟩; have hke := HoldRow.of (xs := ks.map (holdOr S.H)) (by simpa using hko); clear hko; have ho' := ho.andThen ho3; clear ho; have ho := ho'; clear ho')
    | (go_at_call 30; have hc := hHb.out _ ho; clear hHb; refine hc.mono ?_; clear hc; rintro e w4 ⟨ub, js, rfl, hjp, hjr, hjo, ho4⟩; have hje := HoldRow.of (xs := js.map (holdOr S.H)) (by simpa using hjo); clear hjo; have ho' := ho.andThen ho4; clear ho; have ho := ho'; clear ho'; obtain rfl := keys_one (hkp.trans hjp.symm) hkr hjr)
    | (go_at_call 19; have hc := hPa.out _ ho; clear hPa; refine hc.mono ?_; clear hc; rintro e w5 ⟨pa, rfl, hpa, ho5⟩; have ho' := ho.andThen ho5; clear ho; have ho := ho'; clear ho')
    | (go_at_call 19; have hc := hPb.out _ ho; clear hPb; refine hc.mono ?_; clear hc; rintro e w6 ⟨pb, rfl, hpb, ho6⟩; have ho' := ho.andThen ho6; clear ho; have ho := ho'; clear ho'))
  have h26 := ((ho3.andThen ho4).andThen ho5).andThen ho6
  have hX1 := Lib.hid (hxe'.only h26 fun _ _ => id)
  have hX2 := Lib.hid (hye.only h26 fun _ _ => id)
  have hK1 := Lib.hid (((hke.quiet ho4).quiet ho5).quiet ho6)
  have hK2 := Lib.hid ((hje.quiet ho5).quiet ho6)
  have hP1 := Lib.hid (hpa.quiet ho6)
  have hP2 := Lib.hid hpb
  have hxl := hl.out xs hxp
  have hkl : (ks.map (holdOr S.H)).length ≤ 100000 := by rw [List.length_map]; exact hhl.out ks hkp
  clear hxp hxr hye hxe' hkp hkr hke hjp hjr hje hpa hpb ho3 ho4 ho5 ho6 h26 hl hhl
  generalize ks.map (holdOr S.H) = hs at *
  have hS := Lib.hid (fun V (hV : Only (fun _ => False) w6 V) => same_any (hX1.out.only hV fun _ _ => id) (hX2.out.only hV fun _ _ => id) hxl)
  obtain ⟨xA, xc, rfl, _⟩ := hX1.out
  obtain ⟨yA, yc, rfl, _⟩ := hX2.out
  obtain ⟨kA, kc, rfl, _⟩ := hK1.out
  obtain ⟨jA, jc, rfl, _⟩ := hK2.out
  obtain ⟨pA, pc, rfl, _⟩ := hP1.out.cells
  obtain ⟨qA, qc, rfl, _⟩ := hP2.out.cells
  go_wp2_with (go_at_call 45; have hc := hS.out _ (Only.refl _ _); clear hS; refine hc.mono ?_; clear hc; rintro e w7 ⟨rfl, ho7⟩)
  have hoa := ho.andThen ho7
  go_loopg [50] (hs.length) (fun g v50 wr => ∃ i : Nat, v50 = .int .i64 (i : Int) ∧ i + g = hs.length ∧ Only (fun _ => False) w6 wr)
  case atStart => exact ⟨0, rfl, by omega, ho7⟩
  case round =>
    clear ho7 hoa
    obtain ⟨i, rfl, hg, ho7⟩ := hrel
    by_cases hi : i < hs.length
    · obtain ⟨x, hx⟩ : ∃ x, hs[i]? = some x := ⟨hs[i], List.getElem?_eq_getElem hi⟩
      obtain ⟨A', c', hA', hr⟩ := hK1.out.quiet ho7
      obtain ⟨A3, c3, hB', hs'⟩ := hK2.out.quiet ho7
      injection hA' with hA1 hA2 hA3
      injection hB' with hB1 hB2 hB3
      subst hA1 hA3 hB1 hB3
      obtain ⟨b, rfl, k0, k1, k2, k3⟩ := hr i x hx
      obtain ⟨b', rfl, j0, j1, j2, j3⟩ := hs' i x hx
      obtain ⟨x1, x2, x3, x4⟩ := x
      simp only at k0 k1 k2 k3 j0 j1 j2 j3
      clear hr hs' hx hA2 hB2
      go_wp2
      go_quiet (fail)
      go_wp2
      go_roundg (hs.length - (i + 1))
      case measure => omega
      case rel => exact ⟨i + 1, by simp, by omega, ho7.drewN _⟩
    · go_wp2
      have ho8 := ho7
      go_loopg [65] (S.P.length) (fun g v65 wr => ∃ i : Nat, v65 = .int .i64 (i : Int) ∧ i + g = S.P.length ∧ Only (fun _ => False) w6 wr)
      case atStart => exact ⟨0, rfl, by omega, ho8⟩
      case round =>
        clear ho7 ho8 hg hi
        obtain ⟨i, rfl, hg, ho7⟩ := hrel
        by_cases hi : i < S.P.length
        · obtain ⟨x, hx⟩ : ∃ x, S.P[i]? = some x := ⟨S.P[i], List.getElem?_eq_getElem hi⟩
          obtain ⟨A', c', hA', hr⟩ := (hP1.out.quiet ho7).cells
          obtain ⟨A3, c3, hB', hs'⟩ := (hP2.out.quiet ho7).cells
          injection hA' with hA1 hA2 hA3
          injection hB' with hB1 hB2 hB3
          subst hA1 hA3 hB1 hB3
          obtain ⟨b, v1, rfl, k0, k1, k2, hre1⟩ := hr i x hx
          obtain ⟨b', v2, rfl, j0, j1, j2, hre2⟩ := hs' i x hx
          have hxl2 := hPE.out x (List.mem_of_getElem? hx)
          obtain ⟨x1, x2, x3⟩ := x
          simp only at k0 k1 k2 j0 j1 j2 hre1 hre2 hxl2
          have hS2 := Lib.hid (fun V (hV : Only (fun _ => False) wr V) => same_any (hre1.only hV fun _ _ => id) (hre2.only hV fun _ _ => id) hxl2)
          obtain ⟨eA, ec, rfl, _⟩ := hre1
          obtain ⟨fA, fc, rfl, _⟩ := hre2
          clear hr hs' hx hA2 hB2
          have od := (Only.refl (fun _ => False) wr).drew
          have q0 : ∀ V, Only (fun _ => False) wr.drew V → V.cell? ⟨b, i * 3, none⟩ = some (.int .i64 x1) := fun V hV => (od.andThen hV).keeps k0 not_false
          have q1 : ∀ V, Only (fun _ => False) wr.drew V → V.cell? ⟨b, i * 3 + 1, none⟩ = some (.string x2) := fun V hV => (od.andThen hV).keeps k1 not_false
          have q2 : ∀ V, Only (fun _ => False) wr.drew V → V.cell? ⟨b, i * 3 + 2, none⟩ = some (.slice eA x3.length ec) := fun V hV => (od.andThen hV).keeps k2 not_false
          have r0 : ∀ V, Only (fun _ => False) wr.drew V → V.cell? ⟨b', i * 3, none⟩ = some (.int .i64 x1) := fun V hV => (od.andThen hV).keeps j0 not_false
          have r1 : ∀ V, Only (fun _ => False) wr.drew V → V.cell? ⟨b', i * 3 + 1, none⟩ = some (.string x2) := fun V hV => (od.andThen hV).keeps j1 not_false
          have r2 : ∀ V, Only (fun _ => False) wr.drew V → V.cell? ⟨b', i * 3 + 2, none⟩ = some (.slice fA x3.length fc) := fun V hV => (od.andThen hV).keeps j2 not_false
          clear k0 k1 k2 j0 j1 j2
          go_wp2
          refine wp_region_ord (.read 0 (.read 1 (.read 2 (.read 3 (.read 4 (.read 5 (.read 6 (.read 7 (.read 8 (.read 9 (.read 10 (.read 11 (.read 12 (.read 13 (.read 14 (.read 15 (.read 16 (.read 17 (.read 18 (.read 19 (.read 20 (.read 21 (.read 22 (.read 23 (.read 24 (.read 25 (.read 26 (.read 27 (.read 28 (.read 29 (.read 30 (.read 31 (.read 32 (.read 33 (.read 34 (.turn 35 (.read 36 (.read 37 .stop)))))))))))))))))))))))))))))))))))))) (Only (fun _ => False) _) (by kernel_rfl) (by kernel_rfl) (by kernel_rfl) (by first | exact Only.refl _ _ | assumption) ?_
          refine wpOrd_reads (v := ?_) rfl rfl (fun _ _ _ h => h) ?_ ?_
          rotate_left
          · intro W hW; go_simp; try with_reducible rfl
          go_frame
          refine wpOrd_reads (v := ?_) rfl rfl (fun _ _ _ h => h) ?_ ?_
          rotate_left
          · intro W hW; go_simp; try with_reducible rfl
          go_frame
          refine wpOrd_reads (v := ?_) rfl rfl (fun _ _ _ h => h) ?_ ?_
          rotate_left
          · intro W hW; go_simp; try with_reducible rfl
          go_frame
          refine wpOrd_reads (v := ?_) rfl rfl (fun _ _ _ h => h) ?_ ?_
          rotate_left
          · intro W hW; go_simp; try with_reducible rfl
          go_frame
          refine wpOrd_reads (v := ?_) rfl rfl (fun _ _ _ h => h) ?_ ?_
          rotate_left
          · intro W hW; go_simp; try with_reducible rfl
          go_frame
          refine wpOrd_reads (v := ?_) rfl rfl (fun _ _ _ h => h) ?_ ?_
          rotate_left
          · intro W hW; go_simp; try with_reducible rfl
          go_frame
          refine wpOrd_reads (v := ?_) rfl rfl (fun _ _ _ h => h) ?_ ?_
          rotate_left
          · intro W hW; go_simp; try with_reducible rfl
          go_frame
          refine wpOrd_reads (v := ?_) rfl rfl (fun _ _ _ h => h) ?_ ?_
          rotate_left
          · intro W hW; go_simp; try with_reducible rfl
          go_frame
          refine wpOrd_reads (v := ?_) rfl rfl (fun _ _ _ h => h) ?_ ?_
          rotate_left
          · intro W hW; go_simp; try with_reducible rfl
          go_frame
          refine wpOrd_reads (v := ?_) rfl rfl (fun _ _ _ h => h) ?_ ?_
          rotate_left
          · intro W hW; go_simp; try with_reducible rfl
          go_frame
          refine wpOrd_reads (v := ?_) rfl rfl (fun _ _ _ h => h) ?_ ?_
          rotate_left
          · intro W hW; go_simp; try with_reducible rfl
          go_frame
          refine wpOrd_reads (v := ?_) rfl rfl (fun _ _ _ h => h) ?_ ?_
          rotate_left
          · intro W hW; go_simp; try with_reducible rfl
          go_frame
          first | (refine wpOrd_passed rfl (by rfl) (fun _ _ _ h => h) ?_) | (refine wpOrd_guarded (v := ?_) rfl (by rfl) (fun _ _ _ h => h) ?_ ?_; rotate_left; (focus (intro W hW; go_simp; try with_reducible rfl)))
          go_frame
          first | (refine wpOrd_passed rfl (by rfl) (fun _ _ _ h => h) ?_) | (refine wpOrd_guarded (v := ?_) rfl (by rfl) (fun _ _ _ h => h) ?_ ?_; rotate_left; (focus (intro W hW; go_simp; try with_reducible rfl)))
          go_frame
          first | (refine wpOrd_passed rfl (by rfl) (fun _ _ _ h => h) ?_) | (refine wpOrd_guarded (v := ?_) rfl (by rfl) (fun _ _ _ h => h) ?_ ?_; rotate_left; (focus (intro W hW; go_simp; try with_reducible rfl)))
          go_frame
          first | (refine wpOrd_passed rfl (by rfl) (fun _ _ _ h => h) ?_) | (refine wpOrd_guarded (v := ?_) rfl (by rfl) (fun _ _ _ h => h) ?_ ?_; rotate_left; (focus (intro W hW; go_simp; try with_reducible rfl)))
          go_frame
          first | (refine wpOrd_passed rfl (by rfl) (fun _ _ _ h => h) ?_) | (refine wpOrd_guarded (v := ?_) rfl (by rfl) (fun _ _ _ h => h) ?_ ?_; rotate_left; (focus (intro W hW; go_simp; try with_reducible rfl)))
          go_frame
          first | (refine wpOrd_passed rfl (by rfl) (fun _ _ _ h => h) ?_) | (refine wpOrd_guarded (v := ?_) rfl (by rfl) (fun _ _ _ h => h) ?_ ?_; rotate_left; (focus (intro W hW; go_simp; try with_reducible rfl)))
          go_frame
          first | (refine wpOrd_passed rfl (by rfl) (fun _ _ _ h => h) ?_) | (refine wpOrd_guarded (v := ?_) rfl (by rfl) (fun _ _ _ h => h) ?_ ?_; rotate_left; (focus (intro W hW; go_simp; try with_reducible rfl)))
          go_frame
          first | (refine wpOrd_passed rfl (by rfl) (fun _ _ _ h => h) ?_) | (refine wpOrd_guarded (v := ?_) rfl (by rfl) (fun _ _ _ h => h) ?_ ?_; rotate_left; (focus (intro W hW; go_simp; try with_reducible rfl)))
          go_frame
          first | (refine wpOrd_passed rfl (by rfl) (fun _ _ _ h => h) ?_) | (refine wpOrd_guarded (v := ?_) rfl (by rfl) (fun _ _ _ h => h) ?_ ?_; rotate_left; (focus (intro W hW; go_simp; try with_reducible rfl)))
          go_frame
          first | (refine wpOrd_passed rfl (by rfl) (fun _ _ _ h => h) ?_) | (refine wpOrd_guarded (v := ?_) rfl (by rfl) (fun _ _ _ h => h) ?_ ?_; rotate_left; (focus (intro W hW; go_simp; try with_reducible rfl)))
          go_frame
          first | (refine wpOrd_passed rfl (by rfl) (fun _ _ _ h => h) ?_) | (refine wpOrd_guarded (v := ?_) rfl (by rfl) (fun _ _ _ h => h) ?_ ?_; rotate_left; (focus (intro W hW; go_simp; try with_reducible rfl)))
          go_frame
          refine wpOrd_reads (v := ?_) rfl rfl (fun _ _ _ h => h) ?_ ?_
          rotate_left
          · intro W hW; go_simp; try with_reducible rfl
          go_frame
          refine wpOrd_reads (v := ?_) rfl rfl (fun _ _ _ h => h) ?_ ?_
          rotate_left
          · intro W hW; go_simp; try with_reducible rfl
          go_frame
          first | (refine wpOrd_passed rfl (by rfl) (fun _ _ _ h => h) ?_) | (refine wpOrd_guarded (v := ?_) rfl (by rfl) (fun _ _ _ h => h) ?_ ?_; rotate_left; (focus (intro W hW; go_simp; try with_reducible rfl)))
          go_frame
          first | (refine wpOrd_passed rfl (by rfl) (fun _ _ _ h => h) ?_) | (refine wpOrd_guarded (v := ?_) rfl (by rfl) (fun _ _ _ h => h) ?_ ?_; rotate_left; (focus (intro W hW; go_simp; try with_reducible rfl)))
          go_frame
          first | (refine wpOrd_passed rfl (by rfl) (fun _ _ _ h => h) ?_) | (refine wpOrd_guarded (v := ?_) rfl (by rfl) (fun _ _ _ h => h) ?_ ?_; rotate_left; (focus (intro W hW; go_simp; try with_reducible rfl)))
          go_frame
          first | (refine wpOrd_passed rfl (by rfl) (fun _ _ _ h => h) ?_) | (refine wpOrd_guarded (v := ?_) rfl (by rfl) (fun _ _ _ h => h) ?_ ?_; rotate_left; (focus (intro W hW; go_simp; try with_reducible rfl)))
          go_frame
          first | (refine wpOrd_passed rfl (by rfl) (fun _ _ _ h => h) ?_) | (refine wpOrd_guarded (v := ?_) rfl (by rfl) (fun _ _ _ h => h) ?_ ?_; rotate_left; (focus (intro W hW; go_simp; try with_reducible rfl)))
          go_frame
          first | (refine wpOrd_passed rfl (by rfl) (fun _ _ _ h => h) ?_) | (refine wpOrd_guarded (v := ?_) rfl (by rfl) (fun _ _ _ h => h) ?_ ?_; rotate_left; (focus (intro W hW; go_simp; try with_reducible rfl)))
          go_frame
          first | (refine wpOrd_passed rfl (by rfl) (fun _ _ _ h => h) ?_) | (refine wpOrd_guarded (v := ?_) rfl (by rfl) (fun _ _ _ h => h) ?_ ?_; rotate_left; (focus (intro W hW; go_simp; try with_reducible rfl)))
          go_frame
          first | (refine wpOrd_passed rfl (by rfl) (fun _ _ _ h => h) ?_) | (refine wpOrd_guarded (v := ?_) rfl (by rfl) (fun _ _ _ h => h) ?_ ?_; rotate_left; (focus (intro W hW; go_simp; try with_reducible rfl)))
          go_frame
          first | (refine wpOrd_passed rfl (by rfl) (fun _ _ _ h => h) ?_) | (refine wpOrd_guarded (v := ?_) rfl (by rfl) (fun _ _ _ h => h) ?_ ?_; rotate_left; (focus (intro W hW; go_simp; try with_reducible rfl)))
          go_frame
          first | (refine wpOrd_passed rfl (by rfl) (fun _ _ _ h => h) ?_) | (refine wpOrd_guarded (v := ?_) rfl (by rfl) (fun _ _ _ h => h) ?_ ?_; rotate_left; (focus (intro W hW; go_simp; try with_reducible rfl)))
          go_frame
          refine wpOrd_turns rfl ?_
          go_wp2_with (go_at_call 45; have hc := hS2.out _ od; refine hc.mono ?_; clear hc; rintro e w8 ⟨rfl, ho8⟩)
          refine ⟨ho8, ?_⟩
          first | (refine wpOrd_passed rfl (by rfl) (fun _ _ _ h => h) ?_) | (refine wpOrd_guarded (v := ?_) rfl (by rfl) (fun _ _ _ h => h) ?_ ?_; rotate_left; (focus (intro W hW; go_simp; try with_reducible rfl)))
          go_frame
          refine wpOrd_reads (v := ?_) rfl rfl (fun _ _ _ h => h) ?_ ?_
          rotate_left
          · intro W hW; go_simp; try with_reducible rfl
          go_frame
          refine wpOrd_nil ?_
          go_wp2
          go_roundg (S.P.length - (i + 1))
          case measure => omega
          case rel => exact ⟨i + 1, by simp, by omega, (ho7.andThen od).andThen ho8⟩
        · go_wp2
          have ho8 := ho7
          go_loopg [109] (xs.length) (fun g v109 wr => ∃ i : Nat, v109 = .int .i64 (i : Int) ∧ i + g = xs.length ∧ Only (fun _ => False) w6 wr)
          case atStart => exact ⟨0, rfl, by omega, ho8⟩
          case round =>
            clear ho7 ho8 hg hi
            obtain ⟨i, rfl, hg, ho7⟩ := hrel
            by_cases hi : i < xs.length
            · obtain ⟨x, hx⟩ : ∃ x, xs[i]? = some x := ⟨xs[i], List.getElem?_eq_getElem hi⟩
              obtain ⟨A', c', hA', hr⟩ := (hX1.out.only ho7 fun _ _ => id).cells
              injection hA' with hA1 hA2 hA3
              subst hA1 hA3
              obtain ⟨b, off, rfl, k0, k1, k2⟩ := hr i x hx
              obtain ⟨x1, x2, x3⟩ := x
              simp only at k0 k1 k2
              clear hr hx hA2
              have od := (Only.refl (fun _ => False) wr).drew
              have q0 : ∀ V, Only (fun _ => False) wr.drew V → V.cell? ⟨b, off + i * 3, none⟩ = some (.string x1) := fun V hV => (od.andThen hV).keeps k0 not_false
              have q1 : ∀ V, Only (fun _ => False) wr.drew V → V.cell? ⟨b, off + i * 3 + 1, none⟩ = some (.string x2) := fun V hV => (od.andThen hV).keeps k1 not_false
              have hF1 := Lib.hid (fun V (hV : Only (fun _ => False) wr V) => hFa.out V ((ho.andThen ho7).andThen hV) x1 x2)
              have hF2 := Lib.hid (fun V (hV : Only (fun _ => False) wr V) => hFb.out V ((ho.andThen ho7).andThen hV) x1 x2)
              generalize (acctOr S.A (x1, x2)).free = fr at hF1 hF2
              generalize (aget S.A (x1, x2)).isSome = is at hF1 hF2
              go_wp2
              refine wp_region_ord (.read 0 (.read 1 (.read 2 (.read 3 (.read 4 (.read 5 (.read 6 (.read 7 (.read 8 (.read 9 (.read 10 (.turn 11 (.read 12 (.read 13 (.read 14 (.read 15 (.read 16 .stop))))))))))))))))) (Only (fun _ => False) _) (by kernel_rfl) (by kernel_rfl) (by kernel_rfl) (by first | exact Only.refl _ _ | assumption) ?_
              refine wpOrd_reads (v := ?_) rfl rfl (fun _ _ _ h => h) ?_ ?_
              rotate_left
              · intro W hW; go_simp; try with_reducible rfl
              go_frame
              refine wpOrd_reads (v := ?_) rfl rfl (fun _ _ _ h => h) ?_ ?_
              rotate_left
              · intro W hW; go_simp; try with_reducible rfl
              go_frame
              refine wpOrd_reads (v := ?_) rfl rfl (fun _ _ _ h => h) ?_ ?_
              rotate_left
              · intro W hW; go_simp; try with_reducible rfl
              go_frame
              refine wpOrd_reads (v := ?_) rfl rfl (fun _ _ _ h => h) ?_ ?_
              rotate_left
              · intro W hW; go_simp; try with_reducible rfl
              go_frame
              refine wpOrd_reads (v := ?_) rfl rfl (fun _ _ _ h => h) ?_ ?_
              rotate_left
              · intro W hW; go_simp; try with_reducible rfl
              go_frame
              refine wpOrd_reads (v := ?_) rfl rfl (fun _ _ _ h => h) ?_ ?_
              rotate_left
              · intro W hW; go_simp; try with_reducible rfl
              go_frame
              refine wpOrd_reads (v := ?_) rfl rfl (fun _ _ _ h => h) ?_ ?_
              rotate_left
              · intro W hW; go_simp; try with_reducible rfl
              go_frame
              refine wpOrd_reads (v := ?_) rfl rfl (fun _ _ _ h => h) ?_ ?_
              rotate_left
              · intro W hW; go_simp; try with_reducible rfl
              go_frame
              refine wpOrd_reads (v := ?_) rfl rfl (fun _ _ _ h => h) ?_ ?_
              rotate_left
              · intro W hW; go_simp; try with_reducible rfl
              go_frame
              refine wpOrd_reads (v := ?_) rfl rfl (fun _ _ _ h => h) ?_ ?_
              rotate_left
              · intro W hW; go_simp; try with_reducible rfl
              go_frame
              refine wpOrd_reads (v := ?_) rfl rfl (fun _ _ _ h => h) ?_ ?_
              rotate_left
              · intro W hW; go_simp; try with_reducible rfl
              go_frame
              refine wpOrd_turns rfl ?_
              go_wp2_with (go_at_call 18; have hc := hF1.out _ od; refine hc.mono ?_; clear hc; rintro e w8 ⟨rfl, ho8⟩)
              refine ⟨ho8, ?_⟩
              refine wpOrd_reads (v := ?_) rfl rfl (fun _ _ _ h => h) ?_ ?_
              rotate_left
              · intro W hW; go_simp; try with_reducible rfl
              go_frame
              refine wpOrd_reads (v := ?_) rfl rfl (fun _ _ _ h => h) ?_ ?_
              rotate_left
              · intro W hW; go_simp; try with_reducible rfl
              go_frame
              refine wpOrd_reads (v := ?_) rfl rfl (fun _ _ _ h => h) ?_ ?_
              rotate_left
              · intro W hW; go_simp; try with_reducible rfl
              go_frame
              refine wpOrd_reads (v := ?_) rfl rfl (fun _ _ _ h => h) ?_ ?_
              rotate_left
              · intro W hW; go_simp; try with_reducible rfl
              go_frame
              refine wpOrd_reads (v := ?_) rfl rfl (fun _ _ _ h => h) ?_ ?_
              rotate_left
              · intro W hW; go_simp; try with_reducible rfl
              go_frame
              refine wpOrd_nil ?_
              go_wp2
              have oe := (Only.refl (fun _ => False) w8).drew
              have p0 : ∀ V, Only (fun _ => False) w8.drew V → V.cell? ⟨b, off + i * 3, none⟩ = some (.string x1) := fun V hV => q0 V ((ho8.andThen oe).andThen hV)
              have p1 : ∀ V, Only (fun _ => False) w8.drew V → V.cell? ⟨b, off + i * 3 + 1, none⟩ = some (.string x2) := fun V hV => q1 V ((ho8.andThen oe).andThen hV)
              clear q0 q1 k0 k1 k2
              refine wp_region_ord (.read 0 (.read 1 (.read 2 (.read 3 (.read 4 (.read 5 (.read 6 (.read 7 (.read 8 (.read 9 (.read 10 (.turn 11 (.read 12 (.read 13 (.read 14 (.read 15 (.read 16 .stop))))))))))))))))) (Only (fun _ => False) _) (by kernel_rfl) (by kernel_rfl) (by kernel_rfl) (by first | exact Only.refl _ _ | assumption) ?_
              refine wpOrd_reads (v := ?_) rfl rfl (fun _ _ _ h => h) ?_ ?_
              rotate_left
              · intro W hW; go_simp; try with_reducible rfl
              go_frame
              refine wpOrd_reads (v := ?_) rfl rfl (fun _ _ _ h => h) ?_ ?_
              rotate_left
              · intro W hW; go_simp; try with_reducible rfl
              go_frame
              refine wpOrd_reads (v := ?_) rfl rfl (fun _ _ _ h => h) ?_ ?_
              rotate_left
              · intro W hW; go_simp; try with_reducible rfl
              go_frame
              refine wpOrd_reads (v := ?_) rfl rfl (fun _ _ _ h => h) ?_ ?_
              rotate_left
              · intro W hW; go_simp; try with_reducible rfl
              go_frame
              refine wpOrd_reads (v := ?_) rfl rfl (fun _ _ _ h => h) ?_ ?_
              rotate_left
              · intro W hW; go_simp; try with_reducible rfl
              go_frame
              refine wpOrd_reads (v := ?_) rfl rfl (fun _ _ _ h => h) ?_ ?_
              rotate_left
              · intro W hW; go_simp; try with_reducible rfl
              go_frame
              refine wpOrd_reads (v := ?_) rfl rfl (fun _ _ _ h => h) ?_ ?_
              rotate_left
              · intro W hW; go_simp; try with_reducible rfl
              go_frame
              refine wpOrd_reads (v := ?_) rfl rfl (fun _ _ _ h => h) ?_ ?_
              rotate_left
              · intro W hW; go_simp; try with_reducible rfl
              go_frame
              refine wpOrd_reads (v := ?_) rfl rfl (fun _ _ _ h => h) ?_ ?_
              rotate_left
              · intro W hW; go_simp; try with_reducible rfl
              go_frame
              refine wpOrd_reads (v := ?_) rfl rfl (fun _ _ _ h => h) ?_ ?_
              rotate_left
              · intro W hW; go_simp; try with_reducible rfl
              go_frame
              refine wpOrd_reads (v := ?_) rfl rfl (fun _ _ _ h => h) ?_ ?_
              rotate_left
              · intro W hW; go_simp; try with_reducible rfl
              go_frame
              refine wpOrd_turns rfl ?_
              go_wp2_with (go_at_call 18; have hc := hF2.out _ ((od.andThen ho8).andThen oe); refine hc.mono ?_; clear hc; rintro e w9 ⟨rfl, ho9⟩)
              refine ⟨ho9, ?_⟩
              refine wpOrd_reads (v := ?_) rfl rfl (fun _ _ _ h => h) ?_ ?_
              rotate_left
              · intro W hW; go_simp; try with_reducible rfl
              go_frame
              refine wpOrd_reads (v := ?_) rfl rfl (fun _ _ _ h => h) ?_ ?_
              rotate_left
              · intro W hW; go_simp; try with_reducible rfl
              go_frame
              refine wpOrd_reads (v := ?_) rfl rfl (fun _ _ _ h => h) ?_ ?_
              rotate_left
              · intro W hW; go_simp; try with_reducible rfl
              go_frame
              refine wpOrd_reads (v := ?_) rfl rfl (fun _ _ _ h => h) ?_ ?_
              rotate_left
              · intro W hW; go_simp; try with_reducible rfl
              go_frame
              refine wpOrd_reads (v := ?_) rfl rfl (fun _ _ _ h => h) ?_ ?_
              rotate_left
              · intro W hW; go_simp; try with_reducible rfl
              go_frame
              refine wpOrd_nil ?_
              go_wp2
              go_roundg (xs.length - (i + 1))
              case measure => omega
              case rel => exact ⟨i + 1, by simp, by omega, (((ho7.andThen od).andThen ho8).andThen oe).andThen ho9⟩
            · go_wp2
              go_ret
              exact ⟨rfl, ho.andThen ho7⟩
end
end Go.Proofs.Ytoeokakcdfdjkaa
