/- ROWS OF ACTS, ONE BEHIND THE OTHER: append of a slice that came in. -/
import Derived.Test.YtoeokakcdfdjkaaWx
import Derived.Maps.AppendAt
import Derived.Deep.Slices
import Derived.OwnWalk
namespace Go.Proofs.Ytoeokakcdfdjkaa
open Go.RowKit Go.Shelf Go.Deep
theorem info31 : (Try.prog.info? 31).map (fun i => (i.zero, i.size, i.bytes)) = some (some (.agg #[.int .u8 0, .string ByteArray.empty, .string ByteArray.empty, .string ByteArray.empty, .int .i64 0, .slice none 0 0]), 6, 88) := by kernel_rfl
def actCells (p : ActM × Value) : List Value := [.int .u8 p.1.kind, .string p.1.a, .string p.1.b, .string p.1.c, .int .i64 p.1.n, p.2]
/-- What the acts of a slice are, with the slices of their entries. -/
def ActPairs (w : World) (B : Nat) (ps : List (ActM × Value)) : Prop := ∀ p ∈ ps, 0 ≤ p.1.kind ∧ p.1.kind ≤ 255 ∧ ReadsEnts w p.2 p.1.l ∧ (0 < p.1.l.length → ∀ b, p.2.ownBlock = some b → b < B)
theorem acts_len (ps : List (ActM × Value)) : (ps.flatMap actCells).length = ps.length * 6 := by
  induction ps with
  | nil => rfl
  | cons p r ih => rw [List.flatMap_cons, List.length_append, ih]; simp [actCells]; omega
theorem acts_inv {ps : List (ActM × Value)} {j : Nat} {u : Value} (h : (ps.flatMap actCells)[j]? = some u) : ∃ (i : Nat) (p : ActM × Value) (c : Nat), ps[i]? = some p ∧ j = i * 6 + c ∧ (actCells p)[c]? = some u := by
  induction ps generalizing j with
  | nil => simp at h
  | cons p r ih =>
    rw [List.flatMap_cons] at h
    by_cases hj : j < 6
    · rw [List.getElem?_append_left (by simp [actCells]; omega)] at h
      exact ⟨0, p, j, rfl, by omega, h⟩
    · rw [List.getElem?_append_right (by simp [actCells]; omega)] at h
      have e : (actCells p).length = 6 := rfl
      rw [e] at h
      obtain ⟨i, q, c, h1, h2, h3⟩ := ih h
      exact ⟨i + 1, q, c, by simpa using h1, by omega, h3⟩
theorem acts_at {ps : List (ActM × Value)} {i c : Nat} {p : ActM × Value} {u : Value} (hp : ps[i]? = some p) (hu : (actCells p)[c]? = some u) : (ps.flatMap actCells)[i * 6 + c]? = some u := by
  induction ps generalizing i with
  | nil => simp at hp
  | cons q r ih =>
    rw [List.flatMap_cons]
    have e : (actCells q).length = 6 := rfl
    have hc : c < 6 := by have := (List.getElem?_eq_some_iff.1 hu).1; simpa [actCells] using this
    cases i with
    | zero =>
      simp at hp
      subst hp
      rw [List.getElem?_append_left (by rw [e]; omega)]
      simpa using hu
    | succ i =>
      rw [List.getElem?_append_right (by rw [e]; omega), e]
      have := ih (i := i) (by simpa using hp)
      rw [show (i + 1) * 6 + c - 6 = i * 6 + c by omega]
      exact this
/-- A slice of acts that came in, as a source for append. -/
theorem ReadsActs.pairs {w : World} {B : Nat} {v : Value} {xs : List ActM} (h : ReadsActs w B v xs) : ∃ (A : Option Addr) (c : Nat) (ps : List (ActM × Value)), v = .slice A xs.length c ∧ ps.map (·.1) = xs ∧ ActPairs w B ps ∧
    (0 < xs.length → ∃ ad, A = some ad ∧ ∀ j u, (ps.flatMap actCells)[j]? = some u → w.cell? (ad.add j) = some u) := by
  obtain ⟨A, c, rfl, hr⟩ := h
  have hr' : ∀ i, i < xs.length → ∃ q : (Nat × Nat) × Value, ∀ x, xs[i]? = some x → A = some ⟨q.1.1, q.1.2, none⟩ ∧ 0 ≤ x.kind ∧ x.kind ≤ 255 ∧ (∀ c' u, (actCells (x, q.2))[c']? = some u → w.cell? ⟨q.1.1, q.1.2 + i * 6 + c', none⟩ = some u) ∧ ReadsEnts w q.2 x.l ∧ (0 < x.l.length → ∀ b, q.2.ownBlock = some b → b < B) := by
    intro i hi
    obtain ⟨b, off, hA, hb, h0, h1, c0, c1, c2, c3, c4, lv, c5, he, hl⟩ := hr i _ (List.getElem?_eq_getElem hi)
    refine ⟨((b, off), lv), fun x hx => ?_⟩
    rw [List.getElem?_eq_getElem hi] at hx
    injection hx with hx
    subst hx
    refine ⟨hA, h0, h1, fun c' u hu => ?_, he, hl⟩
    match c', hu with
    | 0, hu => simp [actCells] at hu; subst hu; exact c0
    | 1, hu => simp [actCells] at hu; subst hu; exact c1
    | 2, hu => simp [actCells] at hu; subst hu; exact c2
    | 3, hu => simp [actCells] at hu; subst hu; exact c3
    | 4, hu => simp [actCells] at hu; subst hu; exact c4
    | 5, hu => simp [actCells] at hu; subst hu; exact c5
    | k + 6, hu => simp [actCells] at hu
  haveI : Inhabited ((Nat × Nat) × Value) := ⟨((0, 0), .slice none 0 0)⟩
  obtain ⟨f, hf⟩ := choose_lt hr'
  have hzl : ((List.range xs.length).map fun i => (f i).2).length = xs.length := by simp
  refine ⟨A, c, xs.zip ((List.range xs.length).map fun i => (f i).2), rfl, ?_, ?_, ?_⟩
  · exact List.map_fst_zip (by rw [hzl]; exact Nat.le_refl _)
  · intro p hp
    obtain ⟨i, hi⟩ := List.getElem?_of_mem hp
    rw [List.getElem?_zip_eq_some] at hi
    obtain ⟨hi1, hi2⟩ := hi
    have hlt := (List.getElem?_eq_some_iff.1 hi1).1
    rw [List.getElem?_map, List.getElem?_range hlt] at hi2
    simp at hi2
    obtain ⟨_, k0, k1, _, k3, k4⟩ := hf i hlt p.1 hi1
    rw [hi2] at k3 k4
    exact ⟨k0, k1, k3, k4⟩
  · intro h0
    obtain ⟨hA, _⟩ := hf 0 h0 _ (List.getElem?_eq_getElem h0)
    refine ⟨_, hA, fun j u hj => ?_⟩
    obtain ⟨i, p, c', hp, rfl, hu⟩ := acts_inv hj
    rw [List.getElem?_zip_eq_some] at hp
    obtain ⟨hi1, hi2⟩ := hp
    have hlt := (List.getElem?_eq_some_iff.1 hi1).1
    rw [List.getElem?_map, List.getElem?_range hlt] at hi2
    simp at hi2
    obtain ⟨hA', _, _, k2, _, _⟩ := hf i hlt p.1 hi1
    rw [hi2] at k2
    have hpe : (p.1, p.2) = p := rfl
    rw [hpe] at k2
    have := k2 c' u hu
    rw [hA] at hA'
    injection hA' with hA'
    rw [hA', show (⟨(f i).1.1, (f i).1.2, none⟩ : Addr).add (i * 6 + c') = ⟨(f i).1.1, (f i).1.2 + (i * 6 + c'), none⟩ from by unfold Addr.add; split <;> simp_all]
    rw [← Nat.add_assoc]
    exact this
theorem ActPairs.quiet {w w' : World} {B : Nat} {ps : List (ActM × Value)} (h : ActPairs w B ps) (ho : Only (fun _ => False) w w') : ActPairs w' B ps := fun p hp => by
  obtain ⟨h0, h1, h2, h3⟩ := h p hp
  exact ⟨h0, h1, h2.only ho fun _ _ => id, h3⟩
theorem ActPairs.append {w : World} {B : Nat} {ps qs : List (ActM × Value)} (h : ActPairs w B ps) (k : ActPairs w B qs) : ActPairs w B (ps ++ qs) := fun p hp => (List.mem_append.1 hp).elim (h p) (k p)
/-- A row of acts of the call's own, as a slice that reads. -/
theorem ReadsActs.of_row {w : World} {base B : Nat} {v : Value} {ps : List (ActM × Value)} (h : w.ownsRow base 31 6 v ps.length (ps.flatMap actCells)) (hp : ActPairs w B ps) (hB : ∀ b, v.ownBlock = some b → b < B) : ReadsActs w B v (ps.map (·.1)) := by
  obtain ⟨A, c, rfl⟩ := own_sl h
  refine ⟨A, c, by rw [List.length_map], fun i x hx => ?_⟩
  rw [List.getElem?_map] at hx
  obtain ⟨p, hpi, rfl⟩ := Option.map_eq_some_iff.1 hx
  have hlt := (List.getElem?_eq_some_iff.1 hpi).1
  obtain ⟨N, hN⟩ : ∃ N, ps.length = N + 1 := ⟨ps.length - 1, by omega⟩
  have h' := h
  rw [hN] at h'
  obtain ⟨g, c', he, hcell⟩ := own_first h'
  rw [← hN] at he
  injection he with he1 _ he2
  subst he1
  obtain ⟨h0, h1, h2, h3⟩ := hp p (List.mem_of_getElem? hpi)
  have hc : ∀ k u, (actCells p)[k]? = some u → w.cell? ⟨g, 0 + i * 6 + k, none⟩ = some u := fun k u hu => by rw [Nat.zero_add]; exact hcell _ _ (acts_at hpi hu)
  exact ⟨g, 0, rfl, hB g rfl, h0, h1, hc 0 _ rfl, hc 1 _ rfl, hc 2 _ rfl, hc 3 _ rfl, hc 4 _ rfl, p.2, hc 5 _ rfl, h2, h3⟩
theorem acts_one {w : World} {B : Nat} {ps : List (ActM × Value)} (h : ActPairs w B ps) : ∀ u ∈ ps.flatMap actCells, u.oneCell' = true := by
  intro u hu
  obtain ⟨p, hp, hup⟩ := List.mem_flatMap.1 hu
  obtain ⟨_, _, ⟨A, c, hA, _⟩, _⟩ := h p hp
  simp only [actCells, List.mem_cons, List.not_mem_nil, or_false] at hup
  rcases hup with rfl | rfl | rfl | rfl | rfl | rfl <;> first | rfl | (rw [hA]; rfl)
section
variable {w : World} {ops : Array Oper} {rest : List Oper} {o : Oper} {a : Act} {Q : Exit → Act → World → Prop}
/-- append(row of acts of the call's own, acts that came in). -/
theorem wpList_append_acts (hgd : o.guard = none) (s x : Operand) (ho : o.op = .call { callee := .builtin .append, args := #[s, x], argTypes := #[22, 22] }) {base : Nat} {v xv : Value} {ps : List (ActM × Value)} {B : Nat} {ys : List ActM} (hs : a.eval s = v)
    (hown : w.ownsRow base 31 6 v ps.length (ps.flatMap actCells)) (hx : a.eval x = xv) (hr : ReadsActs w B xv ys) (hl : ps.length + ys.length ≤ 100000) (hbase : base ≤ w.heap.size)
    (h : ∀ v' w' qs, qs.map (·.1) = ys → ActPairs w B qs → w'.ownsRow base 31 6 v' (ps ++ qs).length ((ps ++ qs).flatMap actCells) → w.grownBy w' v.ownBlock → (v'.ownBlock = v.ownBlock ∨ v'.ownBlock = some w.heap.size) → wpList Try.prog ops Q rest (a.put o.dst v') w') : wpList Try.prog ops Q (o :: rest) a w := by
  obtain ⟨i0, hi, hz0, hz1, hz2⟩ := info_parts info31
  obtain ⟨A, c, qs, rfl, hqs, hpq, hcl⟩ := hr.pairs
  have hql : qs.length = ys.length := by rw [← hqs, List.length_map]
  have key : ∃ v' w', (Builtin.append_ #[22, 22] o.type #[v, .slice A ys.length c]).run Try.prog w = .ok v' w' ∧ w'.ownsRow base 31 6 v' (ps ++ qs).length ((ps ++ qs).flatMap actCells) ∧ w.grownBy w' v.ownBlock ∧ (v'.ownBlock = v.ownBlock ∨ v'.ownBlock = some w.heap.size) := by
    rw [List.length_append, hql, List.flatMap_append]
    rcases A with _ | ad
    · have h0 : ys = [] := by
        rcases Nat.eq_zero_or_pos ys.length with h0 | h0
        · exact List.eq_nil_of_length_eq_zero h0
        · obtain ⟨ad, hA, _⟩ := hcl h0; cases hA
      subst h0
      have hq0 : qs = [] := by simpa using hqs
      subst hq0
      refine ⟨v, w, ?_, by simpa using hown, World.grownBy.refl w _, .inl rfl⟩
      rcases hown.2 with ⟨rfl, _⟩ | ⟨g, cap, cur, rfl, _, _, hnc, _⟩
      · simp [Builtin.append_, run_underlying Try.underlying22, sizeOf, typeInfo, hi, Builtin.lenOf, Builtin.firstCells]
      · simp [Builtin.append_, run_underlying Try.underlying22, sizeOf, typeInfo, hi, Builtin.lenOf, Builtin.firstCells, hnc, storeCells]
    · have hc2 : ∀ j u, (qs.flatMap actCells)[j]? = some u → w.cell? (ad.add j) = some u := by
        intro j u hu
        rcases Nat.eq_zero_or_pos ys.length with h0 | h0
        · have h0' : qs = [] := List.eq_nil_of_length_eq_zero (by omega)
          subst h0'
          simp at hu
        · obtain ⟨ad', hA, hc⟩ := hcl h0
          cases hA
          exact hc j u hu
      obtain ⟨v', w', hrun, h2, h3, _, h5⟩ := run_append_own_at (P := Try.prog) w base 22 o.type 31 i0 _ 6 88 Try.underlying22 hi hz0 hz1 hz2 rfl (by decide) v ps.length _ hown ad ys.length c _ (by rw [acts_len, hql]) hc2 (acts_one hpq) (by unfold maxLen; omega) (by omega) hbase
      exact ⟨v', w', hrun, h2, h3, h5⟩
  obtain ⟨v', w', hrun, h2, h3, h4⟩ := key
  refine wpList_plain hgd fun K' hK' => ?_
  unfold Oper.wp
  simp [execOp, ho, resolve, invoke, builtin, hs, hx, hrun, Result.andThen]
  exact hK' _ _ (h v' w' qs hqs hpq h2 h3 h4)
end
end Go.Proofs.Ytoeokakcdfdjkaa
