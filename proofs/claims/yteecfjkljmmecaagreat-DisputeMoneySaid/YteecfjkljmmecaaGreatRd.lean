/- THE ARGUMENTS, OPENED: what reads as a datum of type []Claimant lies as claimants do. -/
import Derived.Test.YteecfjkljmmecaaGreatCk
import Derived.Deep.Slices
import Derived.Deep.Strs
import Derived.ChangeArms
import Derived.SizedLaws
import Derived.WalkKit
import Derived.ProofKit
namespace Go.Proofs.YteecfjkljmmecaaGreat
open Go.RowKit Go.ChangeShapes Go.WideShapes Go.Deep
theorem cells23 : Tryz.prog.cellsOf 23 = 5 := by kernel_rfl
theorem cells9 : Tryz.prog.cellsOf 9 = 1 := by kernel_rfl
theorem cells3 : Tryz.prog.cellsOf 3 = 1 := by kernel_rfl
theorem cells2 : Tryz.prog.cellsOf 2 = 1 := by kernel_rfl
theorem bytes23 : Tryz.prog.bytesOf 23 = 56 := by kernel_rfl
theorem add_none {a : Addr} (h : a.spot = none) (j : Nat) : a.add j = ⟨a.block, a.off + j, none⟩ := by
  obtain ⟨b, o, s⟩ := a
  simp only at h
  subst h
  unfold Addr.add
  split
  · rename_i e; subst e; rfl
  · rfl
theorem cell_lt {w : World} {p : Addr} {v : Value} (h : w.cell? p = some v) : p.block < w.heap.size := by
  unfold World.cell? at h
  cases hb : w.heap[p.block]? with
  | none => rw [hb] at h; cases h
  | some o => exact (Array.getElem?_eq_some_iff.1 hb).1
/-- Numbers of their kind. -/
structure InKind (c : Clm) : Prop where
  right : -9223372036854775808 ≤ c.right ∧ c.right ≤ 9223372036854775807
  day : -9223372036854775808 ≤ c.day ∧ c.day ≤ 9223372036854775807
  amt : -9223372036854775808 ≤ c.amt ∧ c.amt ≤ 9223372036854775807
section
variable {H : Type} {enc : TypeId × Value → H} {W : World}
theorem one_cell {cs : List Value} {v : Value} {i : Nat} (h : (cs.drop i).take 1 = [v]) : cs[i]? = some v := by
  have := congrArg (fun l => l[0]?) h
  simpa [List.getElem?_take, List.getElem?_drop] using this
theorem i64_wf {n : Int} (h : (Lit.int .i64 n).wf = true) : -9223372036854775808 ≤ n ∧ n ≤ 9223372036854775807 := by
  have u0 : IntKind.i64.min = -9223372036854775808 := by rfl
  have u1 : IntKind.i64.max = 9223372036854775807 := by rfl
  simp [Lit.wf] at h
  omega
theorem clm_of {n : Nat} {cs : List Value} {x : DataW H × List MemPlace} (h : DataW.trod enc Tryz.prog W 0 (fun _ => true) true n 23 cs = some x) :
    ∃ c : Clm, InKind c ∧ cs[0]? = some (.string c.name) ∧ cs[1]? = some (.string c.thing) ∧ cs[2]? = some (.int .i64 c.right) ∧ cs[3]? = some (.int .i64 c.day) ∧ cs[4]? = some (.int .i64 c.amt) ∧ c.name.size ∈ x.1.weights Tryz.prog 23 ∧ c.thing.size ∈ x.1.weights Tryz.prog 23 := by
  obtain ⟨xs, m, _, rfl, hl, hlen, hf⟩ := DataW.trod_struct Tryz.underlying23 h
  match xs, hlen with
  | [y0, y1, y2, y3, y4], _ =>
    have h0 : DataW.trod enc Tryz.prog W 0 (fun _ => true) true m 9 ((cs.drop 0).take (Tryz.prog.cellsOf 9)) = some y0 := hf 0 _ rfl
    have h1 : DataW.trod enc Tryz.prog W 0 (fun _ => true) true m 9 ((cs.drop 1).take (Tryz.prog.cellsOf 9)) = some y1 := hf 1 _ rfl
    have h2 : DataW.trod enc Tryz.prog W 0 (fun _ => true) true m 3 ((cs.drop 2).take (Tryz.prog.cellsOf 3)) = some y2 := hf 2 _ rfl
    have h3 : DataW.trod enc Tryz.prog W 0 (fun _ => true) true m 3 ((cs.drop 3).take (Tryz.prog.cellsOf 3)) = some y3 := hf 3 _ rfl
    have h4 : DataW.trod enc Tryz.prog W 0 (fun _ => true) true m 2 ((cs.drop 4).take (Tryz.prog.cellsOf 2)) = some y4 := hf 4 _ rfl
    rw [cells9] at h0 h1
    rw [cells3] at h2 h3
    rw [cells2] at h4
    obtain ⟨s0, e0, rfl, _⟩ := DataW.trod_string Tryz.underlying9 h0
    obtain ⟨s1, e1, rfl, _⟩ := DataW.trod_string Tryz.underlying9 h1
    obtain ⟨n2, e2, _, w2⟩ := DataW.trod_int Tryz.underlying3 h2
    obtain ⟨n3, e3, _, w3⟩ := DataW.trod_int Tryz.underlying3 h3
    obtain ⟨n4, e4, _, w4⟩ := DataW.trod_int Tryz.underlying2 h4
    refine ⟨⟨s0, s1, n2, n3, n4⟩, ⟨i64_wf w2, i64_wf w3, i64_wf w4⟩, one_cell e0, one_cell e1, one_cell e2, one_cell e3, one_cell e4, ?_, ?_⟩
    · simp [DataW.weights, Tryz.underlying23, DataW.weightsEach]
    · simp [DataW.weights, Tryz.underlying23, DataW.weightsEach]
theorem slice_spot {P : Program} {t e : TypeId} {base : Nat} {a : Addr} {n c : Nat} (hu : P.underlying t = some (.slice e)) (h : Value.okWide P W .any base t (.slice (some a) n c)) : a.spot = none := by
  unfold Value.okWide at h
  rw [hu] at h
  unfold Cell.okWide at h
  rw [hu] at h
  unfold Cell.ok at h
  rw [hu] at h
  exact h.2.2.2.1
theorem weightsAll_mem {P : Program} {e : TypeId} : ∀ {l : List (DataW H)} {d : DataW H}, d ∈ l → ∀ n ∈ d.weights P e, n ∈ DataW.weightsAll P e l
  | [], _, h, _, _ => by simp at h
  | x :: r, d, h, n, hn => by
    rw [DataW.weightsAll, List.mem_append]
    rcases List.mem_cons.1 h with rfl | h
    · exact .inl hn
    · exact .inr (weightsAll_mem h n hn)
set_option maxRecDepth 100000 in
/-- A slice of claimants. -/
theorem clms_of {n : Nat} {A0 : Option Addr} {l0 c0 base : Nat} {x : DataW H × List MemPlace} (h : DataW.trod enc Tryz.prog W 0 (fun _ => true) true n 24 (Value.slice A0 l0 c0).cells.toList = some x) (hok : Hid (Value.okWide Tryz.prog W .any base 24 (.slice A0 l0 c0))) (hw : ∀ n ∈ x.1.weights Tryz.prog 24, n ≤ reachBytes) :
    ∃ xs, ReadsC W (.slice A0 l0 c0) xs ∧ Reach xs ∧ (∀ c ∈ xs, InKind c) ∧ xs.length ≤ 2513169434843 ∧ (∀ a, A0 = some a → a.spot = none) := by
  have hsl : ∀ a l c, (Value.slice A0 l0 c0).cells.toList = [Value.slice a l c] → Value.slice A0 l0 c0 = .slice a l c := by
    intro a l c hv
    simpa [Value.cells] using hv
  have hR : reachBytes = 140737488351232 := rfl
  rcases open_slice Tryz.underlying24 h with ⟨hv, rfl⟩ | ⟨a, len, cap, m, k, D, Pl, hv, _, hlc, hml, hm, rfl, hr⟩
  · have hv' := hsl _ _ _ hv
    injection hv' with e1 e2 e3
    subst e1 e2 e3
    exact ⟨[], ⟨none, 0, rfl, fun hp => by simp at hp⟩, fun x hx => by simp at hx, fun x hx => by simp at hx, by simp, fun a ha => by cases ha⟩
  · have hv' := hsl _ _ _ hv
    injection hv' with e1 e2 e3
    subst e1 e2 e3
    simp only [if_true] at hm
    subst hm
    rw [cells23] at hr
    have hspot := slice_spot Tryz.underlying24 hok.out
    have hlen : l0 * 56 ≤ 140737488351232 := by
      have := hw ((((List.range l0).map D).length + ((List.range (m - l0)).map fun j => D (l0 + j)).length) * Tryz.prog.bytesOf 23) (by simp [DataW.weights, Tryz.underlying24])
      rw [bytes23, hR] at this
      simp at this
      omega
    have hD : ∀ i, i < l0 → ∀ n ∈ (D i).weights Tryz.prog 23, n ≤ 140737488351232 := fun i hi n hn => by
      rw [← hR]
      refine hw n ?_
      simp only [DataW.weights, Tryz.underlying24, List.mem_cons, List.mem_append]
      exact .inr (.inl (weightsAll_mem (List.mem_map.2 ⟨i, List.mem_range.2 hi, rfl⟩) n hn))
    have hr' : ∀ i, i < l0 → ∃ c : Clm, InKind c ∧ c.name.size ≤ 140737488351232 ∧ c.thing.size ≤ 140737488351232 ∧ ∀ (j : Nat) u, (cEnc c)[j]? = some u → W.cell? ⟨a.block, a.off + (i * 5 + j), none⟩ = some u := by
      intro i hi
      obtain ⟨cs', h1, h2⟩ := hr i (by omega)
      obtain ⟨y, hk, e0, e1, e2, e3, e4, w0, w1⟩ := clm_of h2
      obtain ⟨_, _, hc⟩ := World.cells?_some h1
      refine ⟨y, hk, hD i hi _ w0, hD i hi _ w1, fun j u hj => ?_⟩
      have hj5 : j < 5 := by have := (List.getElem?_eq_some_iff.1 hj).1; exact this
      have c0 := hc j (by omega)
      rw [add_none hspot, add_none (by rfl)] at c0
      rw [← Nat.add_assoc, c0, ← hj]
      match j, hj5 with
      | 0, _ => rw [e0]; rfl
      | 1, _ => rw [e1]; rfl
      | 2, _ => rw [e2]; rfl
      | 3, _ => rw [e3]; rfl
      | 4, _ => rw [e4]; rfl
    obtain ⟨f, hf⟩ := choose_lt hr'
    have hxl : ((List.range l0).map f).length = l0 := by simp
    have hxm : ∀ c ∈ (List.range l0).map f, ∃ i, i < l0 ∧ c = f i := fun c hc => by
      obtain ⟨i, hi, rfl⟩ := List.mem_map.1 hc
      exact ⟨i, List.mem_range.1 hi, rfl⟩
    refine ⟨(List.range l0).map f, ⟨some a, m, by rw [hxl], fun hp => ?_⟩, fun c hc => ?_, fun c hc => ?_, by rw [hxl]; omega, fun a' ha => by cases ha; exact hspot⟩
    · refine ⟨a.block, a.off, by obtain ⟨b, o, s⟩ := a; simp only at hspot; subst hspot; rfl, fun j u hj => ?_⟩
      have hlt : j < ((List.range l0).map f).length * 5 := by
        have := (List.getElem?_eq_some_iff.1 hj).1
        rwa [flat_len cEnc_len] at this
      rw [flat_at cEnc_len (by decide) _ j hlt] at hj
      rw [hxl] at hlt
      have hi : j / 5 < l0 := by omega
      have hg : ((List.range l0).map f)[j / 5]! = f (j / 5) := by rw [getElem!_pos _ _ (by rw [hxl]; exact hi)]; simp
      rw [hg] at hj
      have hm5 : j % 5 < (cEnc (f (j / 5))).length := Nat.mod_lt _ (by decide)
      have hj' : (cEnc (f (j / 5)))[j % 5]? = some u := by rw [List.getElem?_eq_getElem hm5, ← getElem!_pos (cEnc (f (j / 5))) (j % 5) hm5]; exact hj
      have := (hf _ hi).2.2.2 (j % 5) u hj'
      rwa [show j / 5 * 5 + j % 5 = j by omega] at this
    · obtain ⟨i, hi, rfl⟩ := hxm c hc
      exact ⟨(hf i hi).2.1, (hf i hi).2.2.1⟩
    · obtain ⟨i, hi, rfl⟩ := hxm c hc
      exact (hf i hi).1
set_option maxRecDepth 100000 in
/-- A claimant by value. -/
theorem clm_val {n base : Nat} {v : Value} {x : DataW H × List MemPlace} (hok : Hid (Value.okWide Tryz.prog W .any base 23 v)) (h : DataW.trod enc Tryz.prog W 0 (fun _ => true) true n 23 v.cells.toList = some x) (hw : ∀ n ∈ x.1.weights Tryz.prog 23, n ≤ reachBytes) :
    ∃ c : Clm, v = cVal c ∧ InKind c ∧ c.name.size ≤ 140737488351232 ∧ c.thing.size ≤ 140737488351232 := by
  obtain ⟨cs, rfl, hsz⟩ := okWide_struct Tryz.underlying23 hok.out
  have hR : reachBytes = 140737488351232 := rfl
  obtain ⟨c, hk, e0, e1, e2, e3, e4, w0, w1⟩ := clm_of h
  rw [← hR]
  refine ⟨c, ?_, hk, hw _ w0, hw _ w1⟩
  have hsz5 : cs.size = 5 := hsz.trans cells23
  have e' : ∀ j : Nat, (Value.agg cs).cells.toList[j]? = cs.toList[j]? := fun j => rfl
  rw [e'] at e0 e1 e2 e3 e4
  obtain ⟨li⟩ := cs
  have hl5 : li.length = 5 := by simpa using hsz5
  match li, hl5 with
  | [w0, w1, w2, w3, w4], _ =>
    simp at e0 e1 e2 e3 e4
    rw [e0, e1, e2, e3, e4]
    rfl
end
end Go.Proofs.YteecfjkljmmecaaGreat
