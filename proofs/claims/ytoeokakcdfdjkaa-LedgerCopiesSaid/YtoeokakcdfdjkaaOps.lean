/- MORE LAWS AT OPERATIONS: a map made, filled as a literal, written by an assigning operator. -/
import Derived.Test.YtoeokakcdfdjkaaBase
import Derived.WideKeyEntry
namespace Go.Proofs.Ytoeokakcdfdjkaa
open Go.RowKit
open Go.MapKept (Stamped stamped_iff stamped_empty stamped_push stamped_modify)
open Go.ChangeMaps (setBlock)
open Go.WideElems (findIdx_born findIdx_arr)

theorem aput_twice {K V : Type} [DecidableEq K] (l : List (K × V)) (k : K) (u v : V) : aput (aput l k u) k v = aput l k v := by
  induction l with
  | nil => simp [aput]
  | cons p r ih =>
    obtain ⟨j, x⟩ := p
    by_cases h : j = k
    · simp [aput, h]
    · simp [aput, h, ih]
section
variable {P : Program} {K V : Type} {kt : TypeId} {ek : K → Value} {ev : V → Value}
/-- The map at b, and the entry of key k in it, that bears the stamp s. -/
def EntryAt (ek : K → Value) (ev : V → Value) (w : World) (b : Nat) (M : List (K × V)) (k : K) (s : Int) : Prop :=
  ∃ es clock, w.heap[b]? = some (.map es clock) ∧ Stamped es clock ∧ es.toList.map (fun e => (e.key, e.val)) = M.map (fun p => (ek p.1, ev p.2)) ∧
    ∃ (j : Nat) (e : MapEntry) (v : V), es[j]? = some e ∧ M[j]? = some (k, v) ∧ s = (e.born : Int)
theorem EntryAt.map {w : World} {b : Nat} {M : List (K × V)} {k : K} {s : Int} (h : EntryAt ek ev w b M k s) : MapAt ek ev w b M := by
  obtain ⟨es, clock, hb, hs, hm, _⟩ := h
  exact ⟨es, clock, hb, hs, hm⟩
theorem EntryAt.only {F : Nat → Prop} {w w' : World} {b : Nat} {M : List (K × V)} {k : K} {s : Int} (h : EntryAt ek ev w b M k s) (ho : Only F w w') (hf : ¬ F b) : EntryAt ek ev w' b M k s := by
  obtain ⟨es, clock, hb, r⟩ := h
  exact ⟨es, clock, ho.heap hb hf, r⟩

theorem wpList_made_map {w : World} {ops : Array Oper} {rest : List Oper} {o : Oper} {a : Act} {Q : Exit → Act → World → Prop} (hg : o.guard = none) (t : TypeId) (hop : o.op = Op.makeMap t none)
    (hK : MapAt ek ev (w.alloc (.map #[] 0)) w.heap.size ([] : List (K × V)) → wpList P ops Q rest (a.put o.dst (.map (some w.heap.size))) (w.alloc (.map #[] 0))) : wpList P ops Q (o :: rest) a w := by
  refine wpList_plain hg fun K' hK' => ?_
  have hmm := @run_makeMap P
  unfold Oper.wp
  simp [execOp, hop, hmm, Result.andThen]
  exact hK' _ _ (hK (MapAt.made w))
variable [DecidableEq K]
theorem MapAt.entry {t et : TypeId} {w : World} {b : Nat} {M : List (K × V)} (h : MapAt ek ev w b M) (O : KeyOps P kt ek) (ht : P.underlying t = some (.map kt et)) {z : V} (hz : (zeroValue et).run P w = .ok (ev z) w) (x : K) :
    ∃ w' s, (Instr.mapEntry t (.map (some b)) (ek x)).run P w = .ok (.tuple #[ev ((aget M x).getD z), .int .i64 s]) w' ∧ EntryAt ek ev w' b (aput M x ((aget M x).getD z)) x s ∧ Only (· = b) w w' ∧ w'.heap.size = w.heap.size := by
  have hn := h.keys_nodup
  obtain ⟨es, clock, hb, hs, hm⟩ := h
  have hlt : b < w.heap.size := (Array.getElem?_eq_some_iff.1 hb).1
  have hget : ∀ o, (setBlock w b o).heap[b]? = some o := fun o => by simp [ChangeMaps.setBlock, hlt]
  rcases find_spec O w x hn hm with ⟨h1, h2, h3⟩ | ⟨j, e, u, h1, he, hk, hv, hj, h2⟩
  · refine ⟨setBlock w b (.map (es.push { key := ek x, val := ev z, born := clock }) (clock + 1)), clock, ?_, ⟨_, _, hget _, stamped_push hs h3, ?_, es.size, { key := ek x, val := ev z, born := clock }, z, by simp, ?_, rfl⟩, only_setBlock _ _ _, by simp [ChangeMaps.setBlock]⟩
    · simp [Instr.mapEntry, run_underlying ht, MapKept.run_getObj_map hb, O.check w _ x, h1, MapKept.run_setObj_map _ hb, Result.andThen, ChangeMaps.setBlock, hz, h2, goInt]
    · rw [h2, aput_new h2]
      simp [hm]
    · rw [h2, aput_new h2]
      have : es.size = M.length := by have := congrArg List.length hm; simpa using this
      simp [this]
  · have hej : es[j]? = some e := by simpa using he
    have hax : aget M x = some u := h2
    refine ⟨setBlock w b (.map (es.modify j fun e => { e with key := ek x }) clock), e.born, ?_, ⟨_, _, hget _, stamped_modify hs j _ (fun _ _ => rfl) (fun e' _ he' => ?_), ?_, j, { e with key := ek x }, u, by simp [Array.getElem?_modify, hej], ?_, rfl⟩, only_setBlock _ _ _, by simp [ChangeMaps.setBlock]⟩
    · simp [Instr.mapEntry, run_underlying ht, MapKept.run_getObj_map hb, O.check w _ x, h1, hej, hk, O.stays w x, MapKept.run_setObj_map _ hb, Result.andThen, ChangeMaps.setBlock, hax, goInt]
    · rw [hej] at he'
      injection he' with he'
      subst he'
      exact hk.symm
    · rw [hax, Option.getD_some, (aput_at hn hj u).1]
      apply List.ext_getElem?
      intro i
      have hi := pairs_at hm i
      simp only [List.getElem?_map, Array.getElem?_toList, Array.getElem?_modify, List.getElem?_modify] at hi ⊢
      by_cases hij : j = i
      · subst hij
        rw [hj] at hi ⊢
        simp [hej, hv]
      · simp only [hij, if_false, hi]
        cases M[i]? <;> simp
    · rw [hax, Option.getD_some, (aput_at hn hj u).1]
      simp [hj]
theorem EntryAt.store {t : TypeId} {w : World} {b : Nat} {M : List (K × V)} {x : K} {s : Int} (h : EntryAt ek ev w b M x s) (v : V) :
    ∃ w', (Instr.entryStore t (.map (some b)) (.int .i64 s) (ev v)).run P w = .ok () w' ∧ MapAt ek ev w' b (aput M x v) ∧ Only (· = b) w w' ∧ w'.heap.size = w.heap.size := by
  have hn := h.map.keys_nodup
  obtain ⟨es, clock, hb, hs, hm, j, e, u, hej, hj, rfl⟩ := h
  have hlt : b < w.heap.size := (Array.getElem?_eq_some_iff.1 hb).1
  have hget : ∀ o, (setBlock w b o).heap[b]? = some o := fun o => by simp [ChangeMaps.setBlock, hlt]
  have hel : es.toList[j]? = some e := by simpa using hej
  have hfi : es.findIdx? (fun e' => ((e'.born : Nat) : Int) == ((e.born : Nat) : Int)) = some j := by
    rw [findIdx_arr]
    exact findIdx_born hs.2.1 hel
  refine ⟨setBlock w b (.map (es.modify j fun e => { e with val := ev v }) clock), ?_, ⟨_, _, hget _, stamped_modify hs j _ (fun _ _ => rfl) (fun e' _ he' => rfl), ?_⟩, only_setBlock _ _ _, by simp [ChangeMaps.setBlock]⟩
  · simp [Instr.entryStore, MapKept.run_getObj_map hb, MapKept.run_setObj_map _ hb, Result.andThen, ChangeMaps.setBlock, asInt, asIntOf, hfi]
  · rw [(aput_at hn hj v).1]
    apply List.ext_getElem?
    intro i
    have hi := pairs_at hm i
    simp only [List.getElem?_map, Array.getElem?_toList, Array.getElem?_modify, List.getElem?_modify] at hi ⊢
    by_cases hij : j = i
    · subst hij
      rw [hj] at hi ⊢
      rw [hej] at hi ⊢
      simp at hi ⊢
      exact hi.1
    · simp only [hij, if_false, hi]
      cases M[i]? <;> simp

variable {w : World} {ops : Array Oper} {rest : List Oper} {o : Oper} {a : Act} {Q : Exit → Act → World → Prop}
theorem wpList_insert_map (hg : o.guard = none) (m x v : Operand) (t et : TypeId) (hop : o.op = Op.insert t m x v) (O : KeyOps P kt ek) (ht : P.underlying t = some (.map kt et)) (b : Nat) (M : List (K × V)) (h : MapAt ek ev w b M)
    (hm : a.eval m = .map (some b)) (k : K) (u : V) (hx : a.eval x = ek k) (hv : a.eval v = ev u)
    (hK : ∀ w', MapAt ek ev w' b (aput M k u) → Only (fun i => i = b) w w' → w'.heap.size = w.heap.size → wpList P ops Q rest (a.put o.dst undef) w') : wpList P ops Q (o :: rest) a w := by
  obtain ⟨w', hrun, h1, h2, h3⟩ := h.update O ht k u
  refine wpList_plain hg fun K' hK' => ?_
  unfold Oper.wp
  simp [execOp, hop, hm, hx, hv, hrun, Result.andThen]
  exact hK' _ _ (hK w' h1 h2 h3)
theorem wpList_entry_map (hg : o.guard = none) (m x : Operand) (t et : TypeId) (hop : o.op = Op.mapEntry t m x) (O : KeyOps P kt ek) (ht : P.underlying t = some (.map kt et)) (b : Nat) (M : List (K × V)) (h : MapAt ek ev w b M) {z : V} (hz : ∀ w, (zeroValue et).run P w = .ok (ev z) w)
    (hm : a.eval m = .map (some b)) (k : K) (hx : a.eval x = ek k)
    (hK : ∀ w' s, EntryAt ek ev w' b (aput M k ((aget M k).getD z)) k s → Only (fun i => i = b) w w' → w'.heap.size = w.heap.size → wpList P ops Q rest (a.put o.dst (.tuple #[ev ((aget M k).getD z), .int .i64 s])) w') : wpList P ops Q (o :: rest) a w := by
  obtain ⟨w', s, hrun, h1, h2, h3⟩ := h.entry O ht (hz w) k
  refine wpList_plain hg fun K' hK' => ?_
  unfold Oper.wp
  simp [execOp, hop, hm, hx, hrun, Result.andThen]
  exact hK' _ _ (hK w' s h1 h2 h3)
theorem wpList_entryStore_map (hg : o.guard = none) (m st v : Operand) (t : TypeId) (hop : o.op = Op.entryStore t m st v) (b : Nat) (M : List (K × V)) (k : K) (s : Int) (h : EntryAt ek ev w b M k s)
    (hm : a.eval m = .map (some b)) (hs : a.eval st = .int .i64 s) (u : V) (hv : a.eval v = ev u)
    (hK : ∀ w', MapAt ek ev w' b (aput M k u) → Only (fun i => i = b) w w' → w'.heap.size = w.heap.size → wpList P ops Q rest (a.put o.dst undef) w') : wpList P ops Q (o :: rest) a w := by
  obtain ⟨w', hrun, h1, h2, h3⟩ := h.store (P := P) (t := t) u
  refine wpList_plain hg fun K' hK' => ?_
  unfold Oper.wp
  simp [execOp, hop, hm, hs, hv, hrun, Result.andThen]
  exact hK' _ _ (hK w' h1 h2 h3)
end
end Go.Proofs.Ytoeokakcdfdjkaa
