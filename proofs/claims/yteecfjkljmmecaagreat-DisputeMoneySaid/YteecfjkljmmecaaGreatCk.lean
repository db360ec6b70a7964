/- WALKS: Few, and the references' Same, Same, Awards. -/
import Derived.Test.YteecfjkljmmecaaGreatAw
import Derived.Test.YteecfjkljmmecaaGreatMw
import Derived.Laws.StructEq
import Derived.Deep.QuietTactic
import Derived.Laws.Strings
import Derived.BigQuiet
namespace Go.Proofs.YteecfjkljmmecaaGreat
open Go.RowKit Go.Sort Go.Shelf
section
variable {P : Program} {d : Nat} {xs ys : Array Value} {f : Field} {fs : List Field} {a b : Value} {r s : Bool} {w : World}
/-- One field, and those behind it. -/
theorem fields_cons (hn : (f.name == "_") = false) (ha : (part f.type xs f.offset).run P w = .ok a w) (hb : (part f.type ys f.offset).run P w = .ok b w) (he : (Op.equalIn d f.type a b).run P w = .ok r w) (hr : (Op.eqFields d xs ys fs).run P w = .ok s w) :
    (Op.eqFields d xs ys (f :: fs)).run P w = .ok (r && s) w := by
  have hn' : f.name ≠ "_" := by simpa using hn
  rw [Op.eqFields, if_pos hn']
  simp only [Sem.run_bind, ha, hb, he, Result.andThen_ok]
  cases r
  · simp
  · simpa using hr
theorem fields_nil : (Op.eqFields d xs ys []).run P w = .ok true w := by simp [Op.eqFields]
theorem fields_all {t : TypeId} {fs : Array Field} (hu : P.underlying t = some (.struct fs)) (hp : P.stoodInHeld t = false) (h : (Op.eqFields d xs ys fs.toList).run P w = .ok r w) : (Op.equalIn (d + 1) t (.agg xs) (.agg ys)).run P w = .ok r w := by
  have hf : P.fieldsOf t = fs := by simp [Program.fieldsOf, hu]
  rw [run_equalIn_struct (P := P) w d t xs ys (by rw [hf]; exact hu) hp, hf]
  exact h
end
theorem eqClm (d : Nat) (w : World) (x0 y0 x1 y1 : ByteArray) (x2 y2 x3 y3 x4 y4 : Int) :
    (Op.equalIn (d + 2) 23 (.agg #[.string x0, .string x1, .int .i64 x2, .int .i64 x3, .int .i64 x4]) (.agg #[.string y0, .string y1, .int .i64 y2, .int .i64 y3, .int .i64 y4])).run Tryz.prog w = .ok (x0.toList == y0.toList && (x1.toList == y1.toList && (x2 == y2 && (x3 == y3 && (x4 == y4 && true))))) w := by
  refine fields_all Tryz.underlying23 (by kernel_rfl) ?_
  refine fields_cons (by rfl) (by go_simp; rfl) (by go_simp; rfl) (by go_simp) ?_
  refine fields_cons (by rfl) (by go_simp; rfl) (by go_simp; rfl) (by go_simp) ?_
  refine fields_cons (by rfl) (by go_simp; rfl) (by go_simp; rfl) (by go_simp) ?_
  refine fields_cons (by rfl) (by go_simp; rfl) (by go_simp; rfl) (by go_simp) ?_
  exact fields_cons (by rfl) (by go_simp; rfl) (by go_simp; rfl) (by go_simp) fields_nil
theorem eqAwd (d : Nat) (w : World) (x0 y0 x1 y1 : ByteArray) :
    (Op.equalIn (d + 2) 49 (.agg #[.string x0, .string x1]) (.agg #[.string y0, .string y1])).run Tryz.prog w = .ok (x0.toList == y0.toList && (x1.toList == y1.toList && true)) w := by
  refine fields_all Tryz.underlying49 (by kernel_rfl) ?_
  refine fields_cons (by rfl) (by go_simp; rfl) (by go_simp; rfl) (by go_simp) ?_
  exact fields_cons (by rfl) (by go_simp; rfl) (by go_simp; rfl) (by go_simp) fields_nil
theorem Only.drewN {F : Nat → Prop} {a b : World} (h : Only F a b) (n : Nat) : Only F a (b.drewN n) := ⟨h.os, h.tape, h.output, h.size, h.block⟩
/-- What is read is of the reach. -/
def Reach (xs : List Clm) : Prop := ∀ x ∈ xs, x.name.size ≤ 140737488351232 ∧ x.thing.size ≤ 140737488351232
theorem Reach.short {xs : List Clm} (h : Reach xs) : Short xs := fun x hx => by have := h x hx; omega
theorem ba_tl {a b : ByteArray} (h : a.toList = b.toList) : a = b := by rw [ByteArray.toList_eq, ByteArray.toList_eq] at h; exact ba_inj h
def eqA (x y : ByteArray × ByteArray) : Bool := decide (x = y)
noncomputable def eqC (x y : Clm) : Bool := @decide (x = y) (Classical.propDecidable _)
theorem eqC_iff {x y : Clm} : eqC x y = true ↔ x = y := by unfold eqC; rw [@decide_eq_true_iff _ (Classical.propDecidable _)]
theorem eqA_iff {x y : ByteArray × ByteArray} : eqA x y = true ↔ x = y := by unfold eqA; rw [decide_eq_true_iff]
theorem eqAwd' (d : Nat) (w : World) (x0 y0 x1 y1 : ByteArray) :
    (Op.equalIn (d + 2) 49 (.agg #[.string x0, .string x1]) (.agg #[.string y0, .string y1])).run Tryz.prog w = .ok (eqA (x0, x1) (y0, y1)) w := by
  rw [eqAwd]
  congr 1
  rw [Bool.eq_iff_iff, eqA_iff, Prod.mk.injEq]
  simp only [Bool.and_true, Bool.and_eq_true, beq_iff_eq]
  exact ⟨fun h => ⟨ba_tl h.1, ba_tl h.2⟩, fun h => ⟨by rw [h.1], by rw [h.2]⟩⟩
theorem eqClm' (d : Nat) (w : World) (x0 y0 x1 y1 : ByteArray) (x2 y2 x3 y3 x4 y4 : Int) :
    (Op.equalIn (d + 2) 23 (.agg #[.string x0, .string x1, .int .i64 x2, .int .i64 x3, .int .i64 x4]) (.agg #[.string y0, .string y1, .int .i64 y2, .int .i64 y3, .int .i64 y4])).run Tryz.prog w = .ok (eqC ⟨x0, x1, x2, x3, x4⟩ ⟨y0, y1, y2, y3, y4⟩) w := by
  rw [eqClm]
  congr 1
  rw [Bool.eq_iff_iff, eqC_iff, Clm.mk.injEq]
  simp only [Bool.and_true, Bool.and_eq_true, beq_iff_eq]
  exact ⟨fun h => ⟨ba_tl h.1, ba_tl h.2.1, h.2.2⟩, fun h => ⟨by rw [h.1], by rw [h.2.1], h.2.2⟩⟩
attribute [local go_sem high] eqAwd' eqClm'
def fewX (c : Clm) : Bool := decide (c.name.size + c.thing.size ≤ 100)
def fewM (xs : List Clm) : Bool := decide (xs.length ≤ 41) && xs.all fewX
def TellPost (b : Bool) (w : World) (e : Ending) (w' : World) : Prop := e = .returned (.bool b) ∧ Only (fun _ => False) w w'
theorem few_no {xs : List Clm} {i : Nat} {x : Clm} (hx : xs[i]? = some x) (h : fewX x = false) : fewM xs = false := by
  unfold fewM
  rw [Bool.and_eq_false_iff]
  right
  rw [List.all_eq_false]
  exact ⟨x, List.mem_of_getElem? hx, by simp [h]⟩
set_option maxHeartbeats 4000000 in
set_option maxRecDepth 100000 in
theorem few_any (w : World) {v : Value} {xs : List Clm} (h : ReadsC w v xs) (hs : Reach xs) (hl : xs.length ≤ 9223372036854775807) : Calls Tryz.prog 11 #[v] w (TellPost (fewM xs) w) := by
  have hX := Lib.hid h
  have hS := Lib.hid hs
  have hP : Hid (∀ b W, fewM xs = b → Only (fun _ => False) w W → TellPost (fewM xs) w (.returned (.bool b)) W) := Lib.hid fun b W hb h => ⟨by rw [hb], h⟩
  obtain ⟨A, c, rfl, _⟩ := h
  clear hs
  go_enter Tryz.func11, Tryz.ntmps11
  go_wp2
  go_loopg [3] (xs.length) (fun g v3 wr => ∃ i : Nat, v3 = .int .i64 (i : Int) ∧ i + g = xs.length ∧ i ≤ 41 ∧ Only (fun _ => False) w wr ∧ Hid ((xs.take i).all fewX = true))
  case atStart => exact ⟨0, rfl, by omega, by omega, Only.refl _ _, Lib.hid (by simp)⟩
  case round =>
    obtain ⟨i, rfl, hg, hi41, ho, hok⟩ := hrel
    by_cases hi : i < xs.length
    · obtain ⟨x, hx⟩ : ∃ x, xs[i]? = some x := ⟨xs[i], List.getElem?_eq_getElem hi⟩
      obtain ⟨A', c', hA', hr⟩ := ReadsC.cells wr (hX.out.quiet ho)
      injection hA' with hA1 hA2 hA3
      subst hA1 hA3
      obtain ⟨b, off, rfl, k0, k1, k2, k3, k4⟩ := hr i x hx
      have hsx := hS.out x (List.mem_of_getElem? hx)
      have hXI := Lib.hid hx
      have hno : Hid (fewX x = false → fewM xs = false) := Lib.hid fun h => few_no hx h
      have hyes : Hid (fewX x = true → (xs.take (i + 1)).all fewX = true) := Lib.hid fun h => by
        rw [List.take_add_one, hx, List.all_append, hok.out]
        simp [h]
      have hfx : Hid (fewX x = decide (x.name.size + x.thing.size ≤ 100)) := Lib.hid rfl
      obtain ⟨a1, a2, a3, a4, a5⟩ := x
      simp only at k0 k1 k2 k3 k4 hsx hfx
      obtain ⟨s1, s2⟩ := hsx
      clear hr hA2 hx
      by_cases h40 : 40 < i
      · have hd : decide (40 < (i : Int)) = true := by simp; omega
        go_wp2
        go_quiet (fail)
        go_wp2
        go_ret
        exact hP.out _ _ (by unfold fewM; rw [Bool.and_eq_false_iff]; left; simp; omega) (ho.drewN _)
      · have hd : decide (40 < (i : Int)) = false := by simp; omega
        by_cases h100 : a1.size + a2.size ≤ 100
        · have hw : IntKind.i64.wrap ((a1.size : Int) + a2.size) = (a1.size : Int) + a2.size := IntWalk.i64_in _ (by omega)
          have hd2 : decide (100 < (a1.size : Int) + a2.size) = false := by simp; omega
          go_wp2
          go_quiet (fail)
          go_wp2
          go_roundg (xs.length - (i + 1))
          case measure => omega
          case rel => exact ⟨i + 1, by simp, by omega, by omega, ho.drewN _, Lib.hid (hyes.out (by rw [hfx.out]; simpa using h100))⟩
        · have hw : IntKind.i64.wrap ((a1.size : Int) + a2.size) = (a1.size : Int) + a2.size := IntWalk.i64_in _ (by omega)
          have hd2 : decide (100 < (a1.size : Int) + a2.size) = true := by simp; omega
          go_wp2
          go_quiet (fail)
          go_wp2
          go_ret
          exact hP.out _ _ (hno.out (by rw [hfx.out]; simpa using h100)) (ho.drewN _)
    · have hie : i = xs.length := by omega
      subst hie
      have hok' := hok.out
      rw [List.take_length] at hok'
      have hOK := Lib.hid hok'
      clear hok' hok
      go_wp2
      go_ret
      exact hP.out _ _ (by unfold fewM; rw [hOK.out]; simp; omega) ho
set_option maxHeartbeats 4000000 in
set_option maxRecDepth 100000 in
/-- The same numbers? -/
theorem same_any (w : World) {u v : Value} {xs ys : List Int} (h : ReadsI w u xs) (k : ReadsI w v ys) (_hl : xs.length ≤ 9223372036854775807) (hm : ys.length ≤ 9223372036854775807) : Calls Tryz.prog 21 #[u, v] w (TellPost (decide (xs = ys)) w) := by
  have hX := Lib.hid h
  have hY := Lib.hid k
  have hP : Hid (∀ b W, decide (xs = ys) = b → Only (fun _ => False) w W → TellPost (decide (xs = ys)) w (.returned (.bool b)) W) := Lib.hid fun b W hb h => ⟨by rw [hb], h⟩
  obtain ⟨A, c, rfl, _⟩ := h
  obtain ⟨B, d, rfl, _⟩ := k
  by_cases hn : xs.length = ys.length
  · have hN := Lib.hid hn
    have hb : ((xs.length : Int) != (ys.length : Int)) = false := by rw [hn]; simp
    clear hn
    go_enter Tryz.func21, Tryz.ntmps21
    go_wp2
    go_loopg [5] (xs.length) (fun g v5 wr => ∃ i : Nat, v5 = .int .i64 (i : Int) ∧ i + g = xs.length ∧ Only (fun _ => False) w wr ∧ Hid (xs.take i = ys.take i))
    case atStart => exact ⟨0, rfl, by omega, Only.refl _ _, Lib.hid (by simp)⟩
    case round =>
      obtain ⟨i, rfl, hg, ho, heq⟩ := hrel
      by_cases hi : i < xs.length
      · have hi2 : i < ys.length := by have := hN.out; omega
        obtain ⟨x, hx⟩ : ∃ x, xs[i]? = some x := ⟨xs[i], List.getElem?_eq_getElem hi⟩
        obtain ⟨y, hy⟩ : ∃ y, ys[i]? = some y := ⟨ys[i], List.getElem?_eq_getElem hi2⟩
        obtain ⟨A', c', hA', hr⟩ := hX.out.quiet ho
        obtain ⟨B', d', hB', hs⟩ := hY.out.quiet ho
        injection hA' with hA1 hA2 hA3
        injection hB' with hB1 hB2 hB3
        subst hA1 hA3 hB1 hB3
        obtain ⟨b1, o1, rfl, k1⟩ := hr i x hx
        obtain ⟨b2, o2, rfl, k2⟩ := hs i y hy
        have hyes : Hid (x = y → xs.take (i + 1) = ys.take (i + 1)) := Lib.hid fun e => by rw [List.take_add_one, List.take_add_one, hx, hy, heq.out, e]
        have hno : Hid (x ≠ y → decide (xs = ys) = false) := Lib.hid fun e => by
          rw [decide_eq_false_iff_not]
          rintro rfl
          rw [hx] at hy
          injection hy with hy
          exact e hy
        clear hr hs hA2 hB2 hx hy
        by_cases hxy : x = y
        · have hb : (x != y) = false := by simpa using hxy
          have hYY := Lib.hid hxy
          clear hxy
          go_wp2
          go_quiet (fail)
          go_wp2
          go_roundg (xs.length - (i + 1))
          case measure => omega
          case rel => exact ⟨i + 1, by simp, by omega, ho.drewN _, Lib.hid (hyes.out hYY.out)⟩
        · have hb : (x != y) = true := by simpa using hxy
          have hYY := Lib.hid hxy
          clear hxy
          go_wp2
          go_quiet (fail)
          go_wp2
          go_ret
          exact hP.out _ _ (hno.out hYY.out) (ho.drewN _)
      · have hie : i = xs.length := by omega
        subst hie
        go_wp2
        go_ret
        refine hP.out _ _ ?_ ho
        have := heq.out
        rw [List.take_length, hN.out, List.take_length] at this
        simpa using this
  · have hb : ((xs.length : Int) != (ys.length : Int)) = true := by simp; omega
    have hN := Lib.hid hn
    clear hn
    go_enter Tryz.func21, Tryz.ntmps21
    go_wp2
    go_ret
    exact hP.out _ _ (by rw [decide_eq_false_iff_not]; rintro rfl; exact hN.out rfl) (Only.refl _ _)
def ReadsA (w : World) (v : Value) (ps : List (ByteArray × ByteArray)) : Prop := ∃ A c, v = .slice A ps.length c ∧ ∀ i p, ps[i]? = some p → ∃ b off, A = some ⟨b, off, none⟩ ∧ w.cell? ⟨b, off + i * 2, none⟩ = some (.string p.1) ∧ w.cell? ⟨b, off + i * 2 + 1, none⟩ = some (.string p.2)
theorem ReadsA.quiet {w w' : World} {v : Value} {xs : List (ByteArray × ByteArray)} (h : ReadsA w v xs) (ho : Only (fun _ => False) w w') : ReadsA w' v xs := by
  obtain ⟨A, c, rfl, hr⟩ := h
  refine ⟨A, c, rfl, fun i p hp => ?_⟩
  obtain ⟨b, off, rfl, k0, k1⟩ := hr i p hp
  exact ⟨b, off, rfl, ho.cellF k0, ho.cellF k1⟩
theorem ReadsA.of_own {w : World} {base : Nat} {v : Value} {xs : List (ByteArray × ByteArray)} (h : w.ownsRow base 49 2 v xs.length (xs.flatMap aEnc)) : ReadsA w v xs := by
  rcases h.2 with ⟨rfl, h0⟩ | ⟨g, cap, cur, rfl, hb, hh, h1, h2, h3, h4⟩
  · exact ⟨none, 0, by rw [h0], fun i p hp => by have := (List.getElem?_eq_some_iff.1 hp).1; omega⟩
  · refine ⟨_, cap, rfl, fun i p hp => ⟨g, 0, rfl, ?_⟩⟩
    have hlt : i < xs.length := (List.getElem?_eq_some_iff.1 hp).1
    haveI : Inhabited (ByteArray × ByteArray) := ⟨p⟩
    have hg : xs[i]! = p := by rw [getElem!_pos xs i hlt]; rw [List.getElem?_eq_getElem hlt] at hp; injection hp
    have key : ∀ k (u : Value), k < 2 → (aEnc p)[k]? = some u → w.cell? ⟨g, 0 + (i * 2 + k), none⟩ = some u := fun k u hk hu => by
      have hj : (xs.flatMap aEnc)[i * 2 + k]? = some u := by
        rw [flat_at aEnc_len (by decide) xs (i * 2 + k) (by omega), show (i * 2 + k) / 2 = i by omega, show (i * 2 + k) % 2 = k by omega, hg]
        have hk' : k < (aEnc p).length := hk
        rw [getElem!_pos (aEnc p) k hk', ← hu, List.getElem?_eq_getElem hk']
      rw [← h4, List.getElem?_take] at hj
      split at hj
      · simp only [World.cell?, hh]
        simpa using hj
      · cases hj
    exact ⟨key 0 _ (by decide) rfl, key 1 _ (by decide) rfl⟩
set_option maxHeartbeats 4000000 in
set_option maxRecDepth 100000 in
/-- The same awards? -/
theorem awards_any (w : World) {u v : Value} {xs ys : List (ByteArray × ByteArray)} (h : ReadsA w u xs) (k : ReadsA w v ys) (_hl : xs.length ≤ 9223372036854775807) (hm : ys.length ≤ 9223372036854775807) : Calls Tryz.prog 23 #[u, v] w (TellPost (decide (xs = ys)) w) := by
  have hX := Lib.hid h
  have hY := Lib.hid k
  have hP : Hid (∀ b W, (decide (xs = ys)) = b → Only (fun _ => False) w W → TellPost (decide (xs = ys)) w (.returned (.bool b)) W) := Lib.hid fun b W hb h => ⟨by rw [hb], h⟩
  obtain ⟨A, c, rfl, _⟩ := h
  obtain ⟨B, d, rfl, _⟩ := k
  by_cases hn : xs.length = ys.length
  · have hN := Lib.hid hn
    have hb : ((xs.length : Int) != (ys.length : Int)) = false := by rw [hn]; simp
    clear hn
    go_enter Tryz.func23, Tryz.ntmps23
    go_wp2
    go_loopg [5] (xs.length) (fun g v5 wr => ∃ i : Nat, v5 = .int .i64 (i : Int) ∧ i + g = xs.length ∧ Only (fun _ => False) w wr ∧ Hid (xs.take i = ys.take i))
    case atStart => exact ⟨0, rfl, by omega, Only.refl _ _, Lib.hid (by simp)⟩
    case round =>
      obtain ⟨i, rfl, hg, ho, heq⟩ := hrel
      by_cases hi : i < xs.length
      · have hi2 : i < ys.length := by have := hN.out; omega
        obtain ⟨x, hx⟩ : ∃ x, xs[i]? = some x := ⟨xs[i], List.getElem?_eq_getElem hi⟩
        obtain ⟨y, hy⟩ : ∃ y, ys[i]? = some y := ⟨ys[i], List.getElem?_eq_getElem hi2⟩
        obtain ⟨A', c', hA', hr⟩ := (hX.out.quiet ho)
        obtain ⟨B', d', hB', hs⟩ := (hY.out.quiet ho)
        injection hA' with hA1 hA2 hA3
        injection hB' with hB1 hB2 hB3
        subst hA1 hA3 hB1 hB3
        obtain ⟨b1, o1, rfl, k0, k1⟩ := hr i x hx
        obtain ⟨b2, o2, rfl, j0, j1⟩ := hs i y hy
        have hyes : Hid (x = y → xs.take (i + 1) = ys.take (i + 1)) := Lib.hid fun e => by rw [List.take_add_one, List.take_add_one, hx, hy, heq.out, e]
        have hno : Hid (x ≠ y → (decide (xs = ys)) = false) := Lib.hid fun e => by
          rw [decide_eq_false_iff_not]
          rintro rfl
          rw [hx] at hy
          injection hy with hy
          exact e hy
        clear hr hs hA2 hB2 hx hy
        obtain ⟨x1, x2⟩ := x
        obtain ⟨y1, y2⟩ := y
        simp only at k0 k1 j0 j1
        by_cases hxy : eqA (x1, x2) (y1, y2) = true
        · have hYY := Lib.hid hxy
          go_wp2
          go_quiet (fail)
          go_wp2
          go_roundg (xs.length - (i + 1))
          case measure => omega
          case rel => exact ⟨i + 1, by simp, by omega, ho.drewN _, Lib.hid (hyes.out (eqA_iff.1 hYY.out))⟩
        · have hYY := Lib.hid hxy
          have hxf : eqA (x1, x2) (y1, y2) = false := by simpa using hxy
          clear hxy
          go_wp2
          go_quiet (fail)
          go_wp2
          go_ret
          exact hP.out _ _ (hno.out fun e => hYY.out (eqA_iff.2 e)) (ho.drewN _)
      · have hie : i = xs.length := by omega
        subst hie
        go_wp2
        go_ret
        refine hP.out _ _ ?_ ho
        have := heq.out
        rw [List.take_length, hN.out, List.take_length] at this
        rw [decide_eq_true_iff]
        exact this
  · have hb : ((xs.length : Int) != (ys.length : Int)) = true := by simp; omega
    have hN := Lib.hid hn
    clear hn
    go_enter Tryz.func23, Tryz.ntmps23
    go_wp2
    go_ret
    exact hP.out _ _ (by rw [decide_eq_false_iff_not]; rintro rfl; exact hN.out rfl) (Only.refl _ _)
set_option maxHeartbeats 4000000 in
set_option maxRecDepth 100000 in
/-- The same claimants? -/
theorem sameC_any (w : World) {u v : Value} {xs ys : List Clm} (h : ReadsC w u xs) (k : ReadsC w v ys) (_hl : xs.length ≤ 9223372036854775807) (hm : ys.length ≤ 9223372036854775807) : Calls Tryz.prog 15 #[u, v] w (TellPost (@decide (xs = ys) (Classical.propDecidable _)) w) := by
  have hX := Lib.hid h
  have hY := Lib.hid k
  have hP : Hid (∀ b W, (@decide (xs = ys) (Classical.propDecidable _)) = b → Only (fun _ => False) w W → TellPost (@decide (xs = ys) (Classical.propDecidable _)) w (.returned (.bool b)) W) := Lib.hid fun b W hb h => ⟨by rw [hb], h⟩
  obtain ⟨A, c, rfl, _⟩ := h
  obtain ⟨B, d, rfl, _⟩ := k
  by_cases hn : xs.length = ys.length
  · have hN := Lib.hid hn
    have hb : ((xs.length : Int) != (ys.length : Int)) = false := by rw [hn]; simp
    clear hn
    go_enter Tryz.func15, Tryz.ntmps15
    go_wp2
    go_loopg [5] (xs.length) (fun g v5 wr => ∃ i : Nat, v5 = .int .i64 (i : Int) ∧ i + g = xs.length ∧ Only (fun _ => False) w wr ∧ Hid (xs.take i = ys.take i))
    case atStart => exact ⟨0, rfl, by omega, Only.refl _ _, Lib.hid (by simp)⟩
    case round =>
      obtain ⟨i, rfl, hg, ho, heq⟩ := hrel
      by_cases hi : i < xs.length
      · have hi2 : i < ys.length := by have := hN.out; omega
        obtain ⟨x, hx⟩ : ∃ x, xs[i]? = some x := ⟨xs[i], List.getElem?_eq_getElem hi⟩
        obtain ⟨y, hy⟩ : ∃ y, ys[i]? = some y := ⟨ys[i], List.getElem?_eq_getElem hi2⟩
        obtain ⟨A', c', hA', hr⟩ := ReadsC.cells wr (hX.out.quiet ho)
        obtain ⟨B', d', hB', hs⟩ := ReadsC.cells wr (hY.out.quiet ho)
        injection hA' with hA1 hA2 hA3
        injection hB' with hB1 hB2 hB3
        subst hA1 hA3 hB1 hB3
        obtain ⟨b1, o1, rfl, k0, k1, k2, k3, k4⟩ := hr i x hx
        obtain ⟨b2, o2, rfl, j0, j1, j2, j3, j4⟩ := hs i y hy
        have hyes : Hid (x = y → xs.take (i + 1) = ys.take (i + 1)) := Lib.hid fun e => by rw [List.take_add_one, List.take_add_one, hx, hy, heq.out, e]
        have hno : Hid (x ≠ y → (@decide (xs = ys) (Classical.propDecidable _)) = false) := Lib.hid fun e => by
          rw [@decide_eq_false_iff_not _ (Classical.propDecidable _)]
          rintro rfl
          rw [hx] at hy
          injection hy with hy
          exact e hy
        clear hr hs hA2 hB2 hx hy
        obtain ⟨x1, x2, x3, x4, x5⟩ := x
        obtain ⟨y1, y2, y3, y4, y5⟩ := y
        simp only at k0 k1 k2 k3 k4 j0 j1 j2 j3 j4
        by_cases hxy : eqC ⟨x1, x2, x3, x4, x5⟩ ⟨y1, y2, y3, y4, y5⟩ = true
        · have hYY := Lib.hid hxy
          go_wp2
          go_quiet (fail)
          go_wp2
          go_roundg (xs.length - (i + 1))
          case measure => omega
          case rel => exact ⟨i + 1, by simp, by omega, ho.drewN _, Lib.hid (hyes.out (eqC_iff.1 hYY.out))⟩
        · have hYY := Lib.hid hxy
          have hxf : eqC ⟨x1, x2, x3, x4, x5⟩ ⟨y1, y2, y3, y4, y5⟩ = false := by simpa using hxy
          clear hxy
          go_wp2
          go_quiet (fail)
          go_wp2
          go_ret
          exact hP.out _ _ (hno.out fun e => hYY.out (eqC_iff.2 e)) (ho.drewN _)
      · have hie : i = xs.length := by omega
        subst hie
        go_wp2
        go_ret
        refine hP.out _ _ ?_ ho
        have := heq.out
        rw [List.take_length, hN.out, List.take_length] at this
        rw [@decide_eq_true_iff _ (Classical.propDecidable _)]
        exact this
  · have hb : ((xs.length : Int) != (ys.length : Int)) = true := by simp; omega
    have hN := Lib.hid hn
    clear hn
    go_enter Tryz.func15, Tryz.ntmps15
    go_wp2
    go_ret
    exact hP.out _ _ (by rw [@decide_eq_false_iff_not _ (Classical.propDecidable _)]; rintro rfl; exact hN.out rfl) (Only.refl _ _)
end Go.Proofs.YteecfjkljmmecaaGreat
