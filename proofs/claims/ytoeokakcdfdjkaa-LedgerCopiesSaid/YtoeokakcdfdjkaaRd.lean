/- THE ARGUMENTS, OPENED: what reads as a datum of type []Act lies as acts do. -/
import Derived.Test.YtoeokakcdfdjkaaWl
import Derived.Deep.Slices
import Derived.Deep.Strs
import Derived.ChangeArms
import Derived.WalkKit
import Derived.ProofKit
namespace Go.Proofs.Ytoeokakcdfdjkaa
open Go.RowKit Go.ChangeShapes Go.Deep

theorem cells44 : Try.prog.cellsOf 44 = 3 := by kernel_rfl
theorem cells31 : Try.prog.cellsOf 31 = 6 := by kernel_rfl
theorem cells9 : Try.prog.cellsOf 9 = 1 := by kernel_rfl
theorem cells5 : Try.prog.cellsOf 5 = 1 := by kernel_rfl
theorem cells2 : Try.prog.cellsOf 2 = 1 := by kernel_rfl
theorem cells29 : Try.prog.cellsOf 29 = 1 := by kernel_rfl
theorem entCells_inv {xs : List Ent} {j : Nat} {u : Value} (h : (entCells xs)[j]? = some u) : ∃ i e, xs[i]? = some e ∧ ((j = 3 * i ∧ u = .string e.acct) ∨ (j = 3 * i + 1 ∧ u = .string e.cur) ∨ (j = 3 * i + 2 ∧ u = .int .i64 e.amt)) := by
  induction xs generalizing j with
  | nil => simp [entCells] at h
  | cons e r ih =>
    match j with
    | 0 => simp [entCells] at h; exact ⟨0, e, rfl, .inl ⟨rfl, h.symm⟩⟩
    | 1 => simp [entCells] at h; exact ⟨0, e, rfl, .inr (.inl ⟨rfl, h.symm⟩)⟩
    | 2 => simp [entCells] at h; exact ⟨0, e, rfl, .inr (.inr ⟨rfl, h.symm⟩)⟩
    | j + 3 =>
      obtain ⟨i, e', h1, h2⟩ := ih (j := j) (by simpa [entCells] using h)
      refine ⟨i + 1, e', by simpa using h1, ?_⟩
      rcases h2 with ⟨h2, h3⟩ | ⟨h2, h3⟩ | ⟨h2, h3⟩
      · exact .inl ⟨by omega, h3⟩
      · exact .inr (.inl ⟨by omega, h3⟩)
      · exact .inr (.inr ⟨by omega, h3⟩)
theorem add_none {a : Addr} (h : a.spot = none) (j : Nat) : a.add j = ⟨a.block, a.off + j, none⟩ := by
  obtain ⟨b, o, s⟩ := a
  simp only at h
  subst h
  unfold Addr.add
  split
  · rename_i e; subst e; rfl
  · rfl
theorem cell_lt {w : World} {p : Addr} {v : Value} (h : w.cell? p = some v) : p.block < w.heap.size := by
  unfold World.cell? at h
  cases hb : w.heap[p.block]? with
  | none => rw [hb] at h; cases h
  | some o => exact (Array.getElem?_eq_some_iff.1 hb).1
section
variable {H : Type} {enc : TypeId × Value → H} {W : World}
theorem one_cell {cs : List Value} {v : Value} {i : Nat} (h : (cs.drop i).take 1 = [v]) : cs[i]? = some v := by
  have := congrArg (fun l => l[0]?) h
  simpa [List.getElem?_take, List.getElem?_drop] using this
theorem ent_of {n : Nat} {cs : List Value} {x : DataW H × List MemPlace} (h : DataW.trod enc Try.prog W 0 (fun _ => true) true n 44 cs = some x) : ∃ e : Ent, cs[0]? = some (.string e.acct) ∧ cs[1]? = some (.string e.cur) ∧ cs[2]? = some (.int .i64 e.amt) := by
  obtain ⟨y0, y1, y2, m, rfl, hl, h0, h1, h2⟩ := trod_struct3 Try.underlying44 h
  simp only [cells9, cells2] at h0 h1 h2
  obtain ⟨s0, e0, _⟩ := DataW.trod_string Try.underlying9 h0
  obtain ⟨s1, e1, _⟩ := DataW.trod_string Try.underlying9 h1
  obtain ⟨n2, e2, _⟩ := DataW.trod_int Try.underlying2 h2
  exact ⟨⟨s0, s1, n2⟩, one_cell e0, one_cell e1, one_cell e2⟩
theorem ents_of {n : Nat} {cs : List Value} {x : DataW H × List MemPlace} (h : DataW.trod enc Try.prog W 0 (fun _ => true) true n 29 cs = some x) :
    ∃ lv xs, cs = [lv] ∧ ReadsEnts W lv xs ∧ (0 < xs.length → ∀ b, lv.ownBlock = some b → b < W.heap.size) := by
  rcases open_slice Try.underlying29 h with ⟨rfl, rfl⟩ | ⟨a, len, cap, m, k, D, Pl, rfl, _, hlc, _, hm, rfl, hr⟩
  · exact ⟨_, [], rfl, ⟨none, 0, rfl, fun h => by simp at h⟩, fun h => by simp at h⟩
  · simp only [if_true] at hm
    subst hm
    rw [cells44] at hr
    have hr' : ∀ i, i < len → ∃ e : Ent, W.cell? (a.add (i * 3)) = some (.string e.acct) ∧ W.cell? ((a.add (i * 3)).add 1) = some (.string e.cur) ∧ W.cell? ((a.add (i * 3)).add 2) = some (.int .i64 e.amt) := by
      intro i hi
      obtain ⟨cs', h1, h2⟩ := hr i (by omega)
      obtain ⟨e, e0, e1, e2⟩ := ent_of h2
      obtain ⟨_, _, hc⟩ := World.cells?_some h1
      have c0 := hc 0 (by omega)
      have c1 := hc 1 (by omega)
      have c2 := hc 2 (by omega)
      rw [e0] at c0; rw [e1] at c1; rw [e2] at c2
      exact ⟨e, by simpa [Addr.add] using c0, c1, c2⟩
    haveI : Inhabited Ent := ⟨⟨ByteArray.empty, ByteArray.empty, 0⟩⟩
    obtain ⟨f, hf⟩ := choose_lt hr'
    have hxl : ((List.range len).map f).length = len := by simp
    have hxi : ∀ i e, ((List.range len).map f)[i]? = some e → i < len ∧ e = f i := by
      intro i e he
      rw [List.getElem?_map] at he
      by_cases hi : i < len
      · rw [List.getElem?_range hi] at he
        simp at he
        exact ⟨hi, he.symm⟩
      · rw [List.getElem?_eq_none (by simp; omega)] at he; cases he
    have hsp : 0 < len → a.spot = none := fun hp => by have := World.cell?_spot (hf 0 hp).1; simpa [Addr.add] using this
    refine ⟨_, (List.range len).map f, rfl, ⟨some a, m, by rw [hxl], fun hp => ?_⟩, fun hp b hb => ?_⟩
    · rw [hxl] at hp
      have hs := hsp hp
      refine ⟨a.block, a.off, by obtain ⟨b, o, s⟩ := a; simp only at hs; subst hs; rfl, fun j u hj => ?_⟩
      obtain ⟨i, e, hi, hc⟩ := entCells_inv hj
      obtain ⟨hil, rfl⟩ := hxi i e hi
      obtain ⟨c0, c1, c2⟩ := hf i hil
      rw [add_none hs] at c0 c1 c2
      rw [add_none (by rfl)] at c1 c2
      simp only at c1 c2
      rcases hc with ⟨rfl, rfl⟩ | ⟨rfl, rfl⟩ | ⟨rfl, rfl⟩
      · rw [show a.off + 3 * i = a.off + i * 3 by omega]; exact c0
      · rw [show a.off + (3 * i + 1) = a.off + i * 3 + 1 by omega]; exact c1
      · rw [show a.off + (3 * i + 2) = a.off + i * 3 + 2 by omega]; exact c2
    · rw [hxl] at hp
      have h0 := cell_lt (hf 0 hp).1
      simp [Value.ownBlock] at hb
      subst hb
      simpa [Addr.add] using h0
theorem act_of {n : Nat} {cs : List Value} {x : DataW H × List MemPlace} (h : DataW.trod enc Try.prog W 0 (fun _ => true) true n 31 cs = some x) : ∃ (y : ActM) (lv : Value), 0 ≤ y.kind ∧ y.kind ≤ 255 ∧ cs[0]? = some (.int .u8 y.kind) ∧ cs[1]? = some (.string y.a) ∧ cs[2]? = some (.string y.b) ∧ cs[3]? = some (.string y.c) ∧ cs[4]? = some (.int .i64 y.n) ∧
    cs[5]? = some lv ∧ ReadsEnts W lv y.l ∧ (0 < y.l.length → ∀ b, lv.ownBlock = some b → b < W.heap.size) := by
  obtain ⟨xs, m, _, rfl, hl, hlen, hf⟩ := DataW.trod_struct Try.underlying31 h
  match xs, hlen with
  | [y0, y1, y2, y3, y4, y5], _ =>
    have h0 : DataW.trod enc Try.prog W 0 (fun _ => true) true m 5 ((cs.drop 0).take (Try.prog.cellsOf 5)) = some y0 := hf 0 _ rfl
    have h1 : DataW.trod enc Try.prog W 0 (fun _ => true) true m 9 ((cs.drop 1).take (Try.prog.cellsOf 9)) = some y1 := hf 1 _ rfl
    have h2 : DataW.trod enc Try.prog W 0 (fun _ => true) true m 9 ((cs.drop 2).take (Try.prog.cellsOf 9)) = some y2 := hf 2 _ rfl
    have h3 : DataW.trod enc Try.prog W 0 (fun _ => true) true m 9 ((cs.drop 3).take (Try.prog.cellsOf 9)) = some y3 := hf 3 _ rfl
    have h4 : DataW.trod enc Try.prog W 0 (fun _ => true) true m 2 ((cs.drop 4).take (Try.prog.cellsOf 2)) = some y4 := hf 4 _ rfl
    have h5 : DataW.trod enc Try.prog W 0 (fun _ => true) true m 29 ((cs.drop 5).take (Try.prog.cellsOf 29)) = some y5 := hf 5 _ rfl
    rw [cells5] at h0
    rw [cells9] at h1 h2 h3
    rw [cells2] at h4
    rw [cells29] at h5
    obtain ⟨n0, e0, _, w0⟩ := DataW.trod_int Try.underlying5 h0
    obtain ⟨s1, e1, _⟩ := DataW.trod_string Try.underlying9 h1
    obtain ⟨s2, e2, _⟩ := DataW.trod_string Try.underlying9 h2
    obtain ⟨s3, e3, _⟩ := DataW.trod_string Try.underlying9 h3
    obtain ⟨n4, e4, _⟩ := DataW.trod_int Try.underlying2 h4
    obtain ⟨lv, es, e5, hre, hbl⟩ := ents_of h5
    have u0 : IntKind.u8.min = 0 := by rfl
    have u1 : IntKind.u8.max = 255 := by rfl
    have hw : 0 ≤ n0 ∧ n0 ≤ 255 := by simp [Lit.wf] at w0; omega
    exact ⟨⟨n0, s1, s2, s3, n4, es⟩, lv, hw.1, hw.2, one_cell e0, one_cell e1, one_cell e2, one_cell e3, one_cell e4, one_cell e5, hre, hbl⟩
theorem acts_of {n : Nat} {A0 : Option Addr} {l0 c0 : Nat} {x : DataW H × List MemPlace} (h : DataW.trod enc Try.prog W 0 (fun _ => true) true n 22 (Value.slice A0 l0 c0).cells.toList = some x) : ∃ xs, ReadsActs W W.heap.size (.slice A0 l0 c0) xs ∧ xs.length ≤ 9223372036854775807 := by
  have hsl : ∀ a l c, (Value.slice A0 l0 c0).cells.toList = [Value.slice a l c] → Value.slice A0 l0 c0 = .slice a l c := by
    intro a l c hv
    simpa [Value.cells] using hv
  rcases open_slice Try.underlying22 h with ⟨hv, rfl⟩ | ⟨a, len, cap, m, k, D, Pl, hv, _, hlc, hml, hm, rfl, hr⟩
  · exact ⟨[], ⟨none, 0, hsl _ _ _ hv, fun i x hx => by simp at hx⟩, by simp⟩
  · simp only [if_true] at hm
    subst hm
    rw [cells31] at hr
    have hr' : ∀ i, i < len → ∃ y : ActM, 0 ≤ y.kind ∧ y.kind ≤ 255 ∧ W.cell? (a.add (i * 6)) = some (.int .u8 y.kind) ∧ W.cell? ((a.add (i * 6)).add 1) = some (.string y.a) ∧ W.cell? ((a.add (i * 6)).add 2) = some (.string y.b) ∧ W.cell? ((a.add (i * 6)).add 3) = some (.string y.c) ∧ W.cell? ((a.add (i * 6)).add 4) = some (.int .i64 y.n) ∧
        ∃ lv, W.cell? ((a.add (i * 6)).add 5) = some lv ∧ ReadsEnts W lv y.l ∧ (0 < y.l.length → ∀ b, lv.ownBlock = some b → b < W.heap.size) := by
      intro i hi
      obtain ⟨cs', h1, h2⟩ := hr i (by omega)
      obtain ⟨y, lv, k0, k1, e0, e1, e2, e3, e4, e5, hre, hbl⟩ := act_of h2
      obtain ⟨_, _, hc⟩ := World.cells?_some h1
      have c0 := hc 0 (by omega)
      have c1 := hc 1 (by omega)
      have c2 := hc 2 (by omega)
      have c3 := hc 3 (by omega)
      have c4 := hc 4 (by omega)
      have c5 := hc 5 (by omega)
      rw [e0] at c0; rw [e1] at c1; rw [e2] at c2; rw [e3] at c3; rw [e4] at c4; rw [e5] at c5
      exact ⟨y, k0, k1, by simpa [Addr.add] using c0, c1, c2, c3, c4, lv, c5, hre, hbl⟩
    haveI : Inhabited ActM := ⟨⟨0, ByteArray.empty, ByteArray.empty, ByteArray.empty, 0, []⟩⟩
    obtain ⟨f, hf⟩ := choose_lt hr'
    have hxl : ((List.range len).map f).length = len := by simp
    have hxi : ∀ i e, ((List.range len).map f)[i]? = some e → i < len ∧ e = f i := by
      intro i e he
      rw [List.getElem?_map] at he
      by_cases hi : i < len
      · rw [List.getElem?_range hi] at he
        simp at he
        exact ⟨hi, he.symm⟩
      · rw [List.getElem?_eq_none (by simp; omega)] at he; cases he
    have hsp : 0 < len → a.spot = none := fun hp => by have := World.cell?_spot (hf 0 hp).2.2.1; simpa [Addr.add] using this
    refine ⟨(List.range len).map f, ⟨some a, m, by rw [hxl]; exact hsl _ _ _ hv, fun i x hx => ?_⟩, by rw [hxl]; have : maxLen = 9223372036854775807 := rfl; omega⟩
    obtain ⟨hil, rfl⟩ := hxi i x hx
    have hs := hsp (by omega)
    obtain ⟨k0, k1, c0, c1, c2, c3, c4, lv, c5, hre, hbl⟩ := hf i hil
    have hlt := cell_lt c0
    rw [add_none hs] at c0 c1 c2 c3 c4 c5 hlt
    rw [add_none (by rfl)] at c1 c2 c3 c4 c5
    exact ⟨a.block, a.off, by obtain ⟨b, o, s⟩ := a; simp only at hs; subst hs; rfl, hlt, k0, k1, c0, c1, c2, c3, c4, lv, c5, hre, hbl⟩
end
end Go.Proofs.Ytoeokakcdfdjkaa
