import Derived.WalkKit
import Derived.Maps.Own
import Derived.Maps.OwnSet
import Derived.Maps.RangeWalk
import Derived.Maps.AppendAt
namespace Go.Proofs.YteecfjkljmmecaaGreat
open Go.RowKit
open Go.ChangeMaps (setBlock)
open Go.MapKept (Stamped stamped_iff stamped_empty stamped_push stamped_modify)

/-! ### 1. What a call may turn -/

/-- Nothing that was there has turned but blocks of F. -/
structure Only (F : Nat → Prop) (w w' : World) : Prop where
  os : w'.os = w.os
  tape : w'.tape = w.tape
  output : w'.output = w.output
  size : w.heap.size ≤ w'.heap.size
  block : ∀ k, k < w.heap.size → ¬ F k → w'.heap[k]? = w.heap[k]?

theorem Only.refl (F : Nat → Prop) (w : World) : Only F w w := ⟨rfl, rfl, rfl, Nat.le_refl _, fun _ _ _ => rfl⟩
theorem Only.trans {F G : Nat → Prop} {a b c : World} (h : Only F a b) (k : Only G b c) (hg : ∀ i, i < a.heap.size → G i → F i) : Only F a c :=
  ⟨k.os.trans h.os, k.tape.trans h.tape, k.output.trans h.output, Nat.le_trans h.size k.size, fun i hi hf =>
    (k.block i (Nat.lt_of_lt_of_le hi h.size) (fun hgi => hf (hg i hi hgi))).trans (h.block i hi hf)⟩
theorem Only.mono {F G : Nat → Prop} {a b : World} (h : Only F a b) (hg : ∀ i, i < a.heap.size → F i → G i) : Only G a b :=
  ⟨h.os, h.tape, h.output, h.size, fun i hi hf => h.block i hi (fun hfi => hf (hg i hi hfi))⟩
theorem Only.drew {F : Nat → Prop} {a b : World} (h : Only F a b) : Only F a b.drew := ⟨h.os, h.tape, h.output, h.size, h.block⟩
theorem Only.alloc {F : Nat → Prop} {a b : World} (h : Only F a b) (o : Obj) : Only F a (b.alloc o) :=
  h.trans (G := fun _ => False) ⟨rfl, rfl, rfl, by simp, fun k hk _ => Below.heap_alloc _ _ _ hk⟩ (fun _ _ h => h.elim)
theorem Only.setCell {F : Nat → Prop} {a b : World} (h : Only F a b) {p : Addr} (hp : p.block < a.heap.size → F p.block) (u : Value) : Only F a (b.setCell p u) :=
  h.trans (G := fun k => k = p.block) ⟨rfl, rfl, rfl, by simp [World.setCell], fun k _ hk => Below.heap_setCell _ _ _ _ hk⟩ (fun i hi e => by subst e; exact hp hi)
theorem Only.grown {F : Nat → Prop} {a b c : World} (h : Only F a b) {row : Option Nat} (hg : b.grownBy c row) (hr : ∀ k, row = some k → k < a.heap.size → F k) : Only F a c :=
  h.trans (G := fun k => row = some k) ⟨hg.os, hg.tape, hg.output, hg.size, fun k hk hn => hg.block k hk (fun e => hn e.symm)⟩ (fun i hi e => hr i e hi)
theorem Only.below {F : Nat → Prop} {a b : World} (h : Only F a b) (B : Nat) (hB : ∀ k, k < a.heap.size → F k → B ≤ k) (hs : B ≤ a.heap.size) : Below B a b :=
  ⟨h.os, h.tape, h.output, h.size, fun k hk => h.block k (Nat.lt_of_lt_of_le hk hs) (fun hf => by have := hB k (Nat.lt_of_lt_of_le hk hs) hf; omega)⟩
theorem Only.of_below {F : Nat → Prop} {a b : World} (h : Below a.heap.size a b) : Only F a b := ⟨h.os, h.tape, h.output, h.size, fun k hk _ => h.block k hk⟩
theorem Only.of_grown {F : Nat → Prop} {a b : World} {row : Option Nat} (h : a.grownBy b row) (hr : ∀ k, row = some k → F k) : Only F a b :=
  (Only.refl F a).grown h (fun k hk _ => hr k hk)
theorem Only.cell {F : Nat → Prop} {a b : World} (h : Only F a b) {p : Addr} (hp : p.block < a.heap.size) (hf : ¬ F p.block) : b.cell? p = a.cell? p := World.cell?_of_block (w := a) (h.block p.block hp hf)
theorem Only.frozen {F : Nat → Prop} {a b : World} (h : Only F a b) {p : Addr} (hp : p.block < a.heap.size) (hf : ¬ F p.block) : b.frozen? p = a.frozen? p := World.frozen?_of_block (w := a) (h.block p.block hp hf)
theorem Only.keeps {F : Nat → Prop} {a b : World} (h : Only F a b) {p : Addr} {v : Value} (hc : a.cell? p = some v) (hf : ¬ F p.block) : b.cell? p = some v :=
  (h.cell (World.block_lt_of_cell? a p hc) hf).trans hc
theorem Only.andThen {G : Nat → Prop} {a b c : World} (h : Only (fun _ => False) a b) (k : Only G b c) : Only G a c := (h.mono (fun _ _ h => h.elim)).trans k (fun _ _ h => h)
theorem Only.andQuiet {F : Nat → Prop} {a b c : World} (h : Only F a b) (k : Only (fun _ => False) b c) : Only F a c := h.trans k (fun _ _ h => h.elim)
theorem Only.new {F : Nat → Prop} {a b c : World} (h : Only F a b) {r : Nat} (k : Only (fun i => i = r) b c) (hr : a.heap.size ≤ r) : Only F a c := h.trans k (fun i hi e => by subst e; omega)
theorem Only.heap {F : Nat → Prop} {a b : World} (h : Only F a b) {k : Nat} {o : Obj} (ho : a.heap[k]? = some o) (hf : ¬ F k) : b.heap[k]? = some o :=
  (h.block k (Array.getElem?_eq_some_iff.1 ho).1 hf).trans ho
theorem Only.setBlock {F : Nat → Prop} {a b : World} (h : Only F a b) {r : Nat} (hp : r < a.heap.size → F r) (o : Obj) : Only F a (setBlock b r o) :=
  h.trans (G := fun k => k = r) ⟨rfl, rfl, rfl, by simp [ChangeMaps.setBlock], fun k _ hk => by simp [ChangeMaps.setBlock, show r ≠ k from fun e => hk e.symm]⟩ (fun i hi e => by subst e; exact hp hi)

/-! ### 2. Association lists -/
section
variable {K V : Type} [DecidableEq K]
/-- The value at a key. -/
def aget : List (K × V) → K → Option V
  | [], _ => none
  | (k, v) :: r, x => if k = x then some v else aget r x
/-- The value at a key that is there is replaced where it stands; a new one comes last. -/
def aput : List (K × V) → K → V → List (K × V)
  | [], x, v => [(x, v)]
  | (k, u) :: r, x, v => if k = x then (k, v) :: r else (k, u) :: aput r x v
def adel : List (K × V) → K → List (K × V)
  | [], _ => []
  | (k, u) :: r, x => if k = x then r else (k, u) :: adel r x
def akeys (l : List (K × V)) : List K := l.map (·.1)

theorem aget_put_same (l : List (K × V)) (x : K) (v : V) : aget (aput l x v) x = some v := by
  induction l with
  | nil => simp [aput, aget]
  | cons p r ih =>
    obtain ⟨k, u⟩ := p
    by_cases h : k = x
    · simp [aput, aget, h]
    · simp [aput, aget, h, ih]
theorem aget_put_other (l : List (K × V)) {x y : K} (v : V) (h : y ≠ x) : aget (aput l x v) y = aget l y := by
  induction l with
  | nil => simp [aput, aget, Ne.symm h]
  | cons p r ih =>
    obtain ⟨k, u⟩ := p
    by_cases hk : k = x
    · subst hk; simp [aput, aget, Ne.symm h]
    · by_cases hy : k = y
      · subst hy; simp [aput, aget, h]
      · simp [aput, aget, hk, hy, ih]
theorem aget_put (l : List (K × V)) (x y : K) (v : V) : aget (aput l x v) y = if y = x then some v else aget l y := by
  by_cases h : y = x
  · subst h; simp [aget_put_same]
  · simp [aget_put_other l v h, h]
theorem aget_none {l : List (K × V)} {x : K} : aget l x = none ↔ x ∉ akeys l := by
  induction l with
  | nil => simp [aget, akeys]
  | cons p r ih =>
    obtain ⟨k, u⟩ := p
    by_cases h : k = x
    · simp [aget, akeys, h]
    · simp only [aget, h, if_false, ih]
      simp [akeys, Ne.symm h]
theorem aget_mem {l : List (K × V)} {x : K} {v : V} (h : aget l x = some v) : (x, v) ∈ l := by
  induction l with
  | nil => simp [aget] at h
  | cons p r ih =>
    obtain ⟨k, u⟩ := p
    by_cases hk : k = x
    · simp [aget, hk] at h; subst h; simp [hk]
    · simp [aget, hk] at h; exact List.mem_cons_of_mem _ (ih h)
theorem aget_of_mem {l : List (K × V)} (hn : (akeys l).Nodup) {x : K} {v : V} (h : (x, v) ∈ l) : aget l x = some v := by
  induction l with
  | nil => simp at h
  | cons p r ih =>
    obtain ⟨k, u⟩ := p
    simp only [akeys, List.map_cons, List.nodup_cons] at hn
    rcases List.mem_cons.1 h with h | h
    · injection h with h1 h2; subst h1; subst h2; simp [aget]
    · have : k ≠ x := fun e => hn.1 (List.mem_map.2 ⟨(x, v), h, e.symm⟩)
      simp [aget, this, ih hn.2 h]
theorem akeys_put (l : List (K × V)) (x : K) (v : V) : akeys (aput l x v) = if x ∈ akeys l then akeys l else akeys l ++ [x] := by
  induction l with
  | nil => simp [aput, akeys]
  | cons p r ih =>
    obtain ⟨k, u⟩ := p
    simp only [akeys] at ih
    by_cases h : k = x
    · simp [aput, akeys, h]
    · simp only [aput, akeys, h, if_false, List.map_cons, ih, List.mem_cons, Ne.symm h, false_or]
      by_cases hx : x ∈ List.map (fun x => x.fst) r <;> simp [hx]
theorem nodup_put {l : List (K × V)} (hn : (akeys l).Nodup) (x : K) (v : V) : (akeys (aput l x v)).Nodup := by
  rw [akeys_put]
  split
  · exact hn
  · rename_i h
    exact List.nodup_append.2 ⟨hn, by simp, fun a ha b hb => by simp at hb; subst hb; exact fun e => h (e ▸ ha)⟩
theorem mem_keys_put {l : List (K × V)} {x y : K} {v : V} : y ∈ akeys (aput l x v) ↔ y = x ∨ y ∈ akeys l := by
  rw [akeys_put]
  split
  · rename_i h
    exact ⟨.inr, fun h' => h'.elim (fun e => e ▸ h) id⟩
  · simp [or_comm]
theorem akeys_del (l : List (K × V)) (x : K) : akeys (adel l x) = (akeys l).erase x := by
  induction l with
  | nil => simp [adel, akeys]
  | cons p r ih =>
    obtain ⟨k, u⟩ := p
    simp only [akeys] at ih
    by_cases h : k = x
    · simp [adel, akeys, h]
    · simp [adel, akeys, h, ih]
theorem nodup_del {l : List (K × V)} (hn : (akeys l).Nodup) (x : K) : (akeys (adel l x)).Nodup := by
  rw [akeys_del]; exact hn.erase _
theorem aget_del {l : List (K × V)} (hn : (akeys l).Nodup) (x y : K) : aget (adel l x) y = if y = x then none else aget l y := by
  induction l with
  | nil => simp [adel, aget]
  | cons p r ih =>
    obtain ⟨k, u⟩ := p
    simp only [akeys, List.map_cons, List.nodup_cons] at hn
    by_cases h : k = x
    · subst h
      simp only [adel, if_true]
      by_cases hy : y = k
      · subst hy; simp [aget_none.2 hn.1]
      · simp [aget, hy, Ne.symm hy]
    · simp only [adel, h, if_false]
      by_cases hy : k = y
      · subst hy; simp [aget, h]
      · simp [aget, hy, ih hn.2]
theorem length_put_le (l : List (K × V)) (x : K) (v : V) : (aput l x v).length ≤ l.length + 1 := by
  have := congrArg List.length (akeys_put l x v)
  simp only [akeys, List.length_map] at this
  rw [this]; by_cases h : x ∈ l.map (fun p => p.1) <;> simp [h]
theorem length_del_le (l : List (K × V)) (x : K) : (adel l x).length ≤ l.length := by
  have := congrArg List.length (akeys_del l x)
  simp [akeys] at this
  rw [this]
  have := (List.erase_sublist (a := x) (l := akeys l)).length_le
  simpa [akeys] using this
/-- Where the key stands. -/
theorem aget_split {l : List (K × V)} {x : K} {v : V} (h : aget l x = some v) : ∃ a b, l = a ++ (x, v) :: b ∧ x ∉ akeys a ∧ (∀ u, aput l x u = a ++ (x, u) :: b) ∧ adel l x = a ++ b := by
  induction l with
  | nil => simp [aget] at h
  | cons p r ih =>
    obtain ⟨k, u⟩ := p
    by_cases hk : k = x
    · subst hk
      simp only [aget, if_true, Option.some.injEq] at h
      subst h
      exact ⟨[], r, rfl, by simp [akeys], fun u => by simp [aput], by simp [adel]⟩
    · simp only [aget, hk, if_false] at h
      obtain ⟨a, b, rfl, hn, hp, hd⟩ := ih h
      refine ⟨(k, u) :: a, b, rfl, ?_, fun u' => by simp [aput, hk, hp], by simp [adel, hk, hd]⟩
      simp only [akeys, List.map_cons, List.mem_cons, not_or]
      exact ⟨Ne.symm hk, hn⟩
theorem aput_new {l : List (K × V)} {x : K} (h : aget l x = none) (v : V) : aput l x v = l ++ [(x, v)] := by
  induction l with
  | nil => simp [aput]
  | cons p r ih =>
    obtain ⟨k, u⟩ := p
    by_cases hk : k = x
    · simp [aget, hk] at h
    · simp only [aget, hk, if_false] at h
      simp [aput, hk, ih h]
end

/-! ### 3. A map that is there, as the list of its entries in the order in which they were laid -/

/-- What the keys' type is good for. -/
structure KeyOps (P : Program) (kt : TypeId) {K : Type} (ek : K → Value) : Prop where
  inj : ∀ {x y : K}, ek x = ek y → x = y
  check : ∀ (w : World) (em : Bool) (x : K), (Instr.checkKey em 10000 kt (ek x)).run P w = .ok () w
  find : ∀ (w : World) (x : K) (es : List MapEntry), (∀ e ∈ es, ∃ y, e.key = ek y) →
    ((Instr.findKey kt (ek x) es).run P w = .ok none w ∧ ∀ e ∈ es, e.key ≠ ek x) ∨ ∃ j e, (Instr.findKey kt (ek x) es).run P w = .ok (some (j, e.val)) w ∧ es[j]? = some e ∧ e.key = ek x
  stays : ∀ (w : World) (x : K), (Instr.keyThatStays (ek x) (ek x)).run P w = .ok (ek x) w

section
variable {P : Program} {K V : Type} {kt : TypeId} {ek : K → Value} {ev : V → Value}

/-- Block b of w is a map with just these entries. -/
def MapAt (ek : K → Value) (ev : V → Value) (w : World) (b : Nat) (M : List (K × V)) : Prop :=
  ∃ es clock, w.heap[b]? = some (.map es clock) ∧ Stamped es clock ∧ es.toList.map (fun e => (e.key, e.val)) = M.map (fun p => (ek p.1, ev p.2))

theorem MapAt.lt {w : World} {b : Nat} {M : List (K × V)} (h : MapAt ek ev w b M) : b < w.heap.size := by
  obtain ⟨es, clock, hb, _⟩ := h
  exact (Array.getElem?_eq_some_iff.1 hb).1
theorem MapAt.block {w w' : World} {b : Nat} {M : List (K × V)} (h : MapAt ek ev w b M) (he : w'.heap[b]? = w.heap[b]?) : MapAt ek ev w' b M := by
  obtain ⟨es, clock, hb, r⟩ := h
  exact ⟨es, clock, he.trans hb, r⟩
theorem MapAt.only {F : Nat → Prop} {w w' : World} {b : Nat} {M : List (K × V)} (h : MapAt ek ev w b M) (ho : Only F w w') (hf : ¬ F b) : MapAt ek ev w' b M :=
  h.block (ho.block b h.lt hf)
theorem MapAt.made (w : World) : MapAt ek ev (w.alloc (.map #[] 0)) w.heap.size ([] : List (K × V)) :=
  ⟨#[], 0, (MapKept.heap_alloc w _).1, stamped_empty 0, by simp⟩

theorem nodup_idx {α β : Type} (f : α → β) {l : List α} (h : (l.map f).Nodup) {x y : α} (hx : x ∈ l) (hy : y ∈ l) (e : f x = f y) : x = y := by
  induction l with
  | nil => simp at hx
  | cons z r ih =>
    simp only [List.map_cons, List.nodup_cons] at h
    rcases List.mem_cons.1 hx with rfl | hx' <;> rcases List.mem_cons.1 hy with rfl | hy'
    · rfl
    · exact absurd (List.mem_map.2 ⟨y, hy', e.symm⟩) h.1
    · exact absurd (List.mem_map.2 ⟨x, hx', e⟩) h.1
    · exact ih h.2 hx' hy'
theorem pairs_at {es : List MapEntry} {M : List (K × V)} (hm : es.map (fun e => (e.key, e.val)) = M.map (fun p => (ek p.1, ev p.2))) (j : Nat) :
    (es[j]?).map (fun e => (e.key, e.val)) = (M[j]?).map (fun p => (ek p.1, ev p.2)) := by
  have := congrArg (fun l => l[j]?) hm
  simpa using this
theorem pairs_keys {es : List MapEntry} {M : List (K × V)} (hm : es.map (fun e => (e.key, e.val)) = M.map (fun p => (ek p.1, ev p.2))) : es.map (·.key) = M.map (fun p => ek p.1) := by
  have := congrArg (List.map Prod.fst) hm
  simpa [Function.comp_def] using this
theorem nodup_of_map {α β : Type} (f : α → β) {l : List α} (h : (l.map f).Nodup) : l.Nodup := by
  rw [List.Nodup, List.pairwise_map] at h
  exact h.imp fun hne e => hne (congrArg f e)
theorem MapAt.keys_nodup {w : World} {b : Nat} {M : List (K × V)} (h : MapAt ek ev w b M) : (akeys M).Nodup := by
  obtain ⟨es, clock, _, ⟨_, _, h3⟩, hm⟩ := h
  rw [pairs_keys hm] at h3
  have e : M.map (fun p => ek p.1) = (akeys M).map ek := by simp [akeys]
  rw [e] at h3
  exact nodup_of_map ek h3
theorem keys_all {es : List MapEntry} {M : List (K × V)} (hm : es.map (fun e => (e.key, e.val)) = M.map (fun p => (ek p.1, ev p.2))) : ∀ e ∈ es, ∃ y, e.key = ek y := by
  intro e he
  have : (e.key, e.val) ∈ M.map (fun p => (ek p.1, ev p.2)) := hm ▸ List.mem_map.2 ⟨e, he, rfl⟩
  obtain ⟨p, _, hp⟩ := List.mem_map.1 this
  exact ⟨p.1, (congrArg Prod.fst hp).symm⟩

theorem modify_split {α : Type} (a : List α) (x : α) (b : List α) (f : α → α) : (a ++ x :: b).modify a.length f = a ++ f x :: b := by
  induction a with
  | nil => simp
  | cons y r ih => simp [ih]

theorem split_at {α : Type} {l : List α} {j : Nat} {x : α} (h : l[j]? = some x) : l = l.take j ++ x :: l.drop (j + 1) ∧ (l.take j).length = j := by
  obtain ⟨hj, hx⟩ := List.getElem?_eq_some_iff.1 h
  constructor
  · have := List.take_append_drop j l
    rw [List.drop_eq_getElem_cons hj, hx] at this
    exact this.symm
  · simp; omega

theorem only_setBlock (w : World) (b : Nat) (o : Obj) : Only (· = b) w (setBlock w b o) := Only.setBlock (F := fun k => k = b) (Only.refl _ w) (fun _ => rfl) o

theorem MapAt.len {t et : TypeId} {w : World} {b : Nat} {M : List (K × V)} (h : MapAt ek ev w b M) (ht : P.underlying t = some (.map kt et)) (ty : TypeId) :
    (Builtin.len_ #[t] ty #[.map (some b)]).run P w = .ok (.int .i64 M.length) w := by
  obtain ⟨es, clock, hb, hs, hm⟩ := h
  have hl : es.size = M.length := by
    have := congrArg List.length hm
    simpa using this
  simp [Builtin.len_, run_underlying ht, MapKept.run_getObj_map hb, Result.andThen, goInt, hl]

/-! ### 4. A map that is ranged over, and that nobody writes meanwhile: 'done': what has come so far -/
def IterAt (ek : K → Value) (ev : V → Value) (w : World) (b r : Nat) (M done : List (K × V)) : Prop :=
  ∃ es clock seen stepped, w.heap[b]? = some (.map es clock) ∧ Stamped es clock ∧ es.toList.map (fun e => (e.key, e.val)) = M.map (fun p => (ek p.1, ev p.2)) ∧
    w.heap[r]? = some (.mapIter (some b) clock seen stepped) ∧ clock ≤ stepped ∧ (akeys done).Nodup ∧ (∀ p ∈ done, p ∈ M) ∧ (∀ e ∈ es.toList, e.born ∈ seen.toList ↔ ∃ p ∈ done, ek p.1 = e.key)

theorem IterAt.map {w : World} {b r : Nat} {M done : List (K × V)} (h : IterAt ek ev w b r M done) : MapAt ek ev w b M := by
  obtain ⟨es, clock, seen, stepped, hb, hs, hm, _⟩ := h
  exact ⟨es, clock, hb, hs, hm⟩
theorem IterAt.lt {w : World} {b r : Nat} {M done : List (K × V)} (h : IterAt ek ev w b r M done) : r < w.heap.size := by
  obtain ⟨es, clock, seen, stepped, hb, hs, hm, hr, _⟩ := h
  exact (Array.getElem?_eq_some_iff.1 hr).1
theorem IterAt.iter {w : World} {b r : Nat} {M done : List (K × V)} (h : IterAt ek ev w b r M done) : ∃ m s c d, w.heap[r]? = some (.mapIter m s c d) := by
  obtain ⟨es, clock, seen, stepped, hb, hs, hm, hr, _⟩ := h
  exact ⟨_, _, _, _, hr⟩
theorem IterAt.nodup {w : World} {b r : Nat} {M done : List (K × V)} (h : IterAt ek ev w b r M done) : (akeys done).Nodup := by
  obtain ⟨es, clock, seen, stepped, hb, hs, hm, hr, _, hd, _⟩ := h
  exact hd
theorem IterAt.sub {w : World} {b r : Nat} {M done : List (K × V)} (h : IterAt ek ev w b r M done) : ∀ p ∈ done, p ∈ M := by
  obtain ⟨es, clock, seen, stepped, hb, hs, hm, hr, _, hd, hin, _⟩ := h
  exact hin
theorem IterAt.only {F : Nat → Prop} {w w' : World} {b r : Nat} {M done : List (K × V)} (h : IterAt ek ev w b r M done) (ho : Only F w w') (hf : ¬ F b) (hr : ¬ F r) : IterAt ek ev w' b r M done := by
  have h1 := ho.block b h.map.lt hf
  have h2 := ho.block r h.lt hr
  obtain ⟨es, clock, seen, stepped, hb, hs, hm, hi, rest⟩ := h
  exact ⟨es, clock, seen, stepped, h1.trans hb, hs, hm, h2.trans hi, rest⟩
theorem IterAt.done_perm {w : World} {b r : Nat} {M done : List (K × V)} (h : IterAt ek ev w b r M done) (hall : ∀ p ∈ M, p ∈ done) : done.Perm M := by
  have hn := h.map.keys_nodup
  obtain ⟨es, clock, seen, stepped, _, _, _, _, _, hd, hin, _⟩ := h
  refine (List.perm_ext_iff_of_nodup (nodup_of_map _ hd) (nodup_of_map _ hn)).2 fun p => ⟨hin p, hall p⟩

theorem MapAt.range {t et : TypeId} {w : World} {b : Nat} {M : List (K × V)} (h : MapAt ek ev w b M) (ht : P.underlying t = some (.map kt et)) :
    ∃ w', (Instr.range t (.map (some b))).run P w = .ok (.pointer (some ⟨w.heap.size, 0, none⟩)) w' ∧ IterAt ek ev w' b w.heap.size M [] ∧ Only (fun _ => False) w w' ∧ w'.heap.size = w.heap.size + 1 := by
  have hlt := h.lt
  obtain ⟨es, clock, hb, hs, hm⟩ := h
  refine ⟨w.alloc (.mapIter (some b) clock #[] clock), ?_, ⟨es, clock, #[], clock, ?_, hs, hm, ?_, Nat.le_refl _, by simp [akeys], by simp, by simp⟩, (Only.refl _ _).alloc _, by simp⟩
  · simp [Instr.range, run_underlying ht, MapKept.run_getObj_map hb, Result.andThen]
  · rw [← hb]; exact Below.heap_alloc _ _ _ hlt
  · exact (MapKept.heap_alloc w _).1

variable [DecidableEq K]
/-- The look-up's two ends, in the list's words. -/
theorem find_spec (O : KeyOps P kt ek) (w : World) (x : K) {es : List MapEntry} {M : List (K × V)} (hn : (akeys M).Nodup) (hm : es.map (fun e => (e.key, e.val)) = M.map (fun p => (ek p.1, ev p.2))) :
    ((Instr.findKey kt (ek x) es).run P w = .ok none w ∧ aget M x = none ∧ ∀ e ∈ es, e.key ≠ ek x) ∨
    ∃ j e v, (Instr.findKey kt (ek x) es).run P w = .ok (some (j, ev v)) w ∧ es[j]? = some e ∧ e.key = ek x ∧ e.val = ev v ∧ M[j]? = some (x, v) ∧ aget M x = some v := by
  rcases O.find w x es (keys_all hm) with ⟨h1, h2⟩ | ⟨j, e, h1, h2, h3⟩
  · refine .inl ⟨h1, aget_none.2 fun hx => ?_, h2⟩
    obtain ⟨p, hp, hpx⟩ := List.mem_map.1 hx
    have : (ek p.1, ev p.2) ∈ es.map (fun e => (e.key, e.val)) := hm ▸ List.mem_map.2 ⟨p, hp, rfl⟩
    obtain ⟨e, he, hee⟩ := List.mem_map.1 this
    exact h2 e he ((congrArg Prod.fst hee).trans (congrArg ek hpx))
  · have hj := pairs_at hm j
    rw [h2] at hj
    simp only [Option.map_some] at hj
    obtain ⟨p, hp, hpe⟩ := Option.map_eq_some_iff.1 hj.symm
    have hk : p.1 = x := O.inj ((congrArg Prod.fst hpe).trans h3)
    have hv : e.val = ev p.2 := (congrArg Prod.snd hpe).symm
    obtain ⟨x', v'⟩ := p
    simp only at hk hv
    subst hk
    exact .inr ⟨j, e, v', by rw [h1, hv], h2, h3, hv, hp, aget_of_mem hn (List.mem_of_getElem? hp)⟩

theorem MapAt.lookup {t et : TypeId} {w : World} {b : Nat} {M : List (K × V)} (h : MapAt ek ev w b M) (O : KeyOps P kt ek) (ht : P.underlying t = some (.map kt et)) {z : Value} (hz : (zeroValue et).run P w = .ok z w) (x : K) (c : Bool) :
    (Instr.lookup t (.map (some b)) (ek x) c).run P w = .ok (if c then .tuple #[((aget M x).map ev).getD z, .bool (aget M x).isSome] else ((aget M x).map ev).getD z) w := by
  have hn := h.keys_nodup
  obtain ⟨es, clock, hb, hs, hm⟩ := h
  rcases find_spec O w x hn hm with ⟨h1, h2, _⟩ | ⟨j, e, v, h1, _, _, _, _, h2⟩
  · simp [Instr.lookup, run_underlying ht, MapKept.run_getObj_map hb, O.check w _ x, h1, hz, Result.andThen, h2]
  · simp [Instr.lookup, run_underlying ht, MapKept.run_getObj_map hb, O.check w _ x, h1, Result.andThen, h2]

theorem aput_at {M : List (K × V)} (hn : (akeys M).Nodup) {j : Nat} {x : K} {v : V} (h : M[j]? = some (x, v)) (u : V) : aput M x u = M.modify j (fun p => (p.1, u)) ∧ adel M x = M.eraseIdx j := by
  obtain ⟨e, hl⟩ := split_at h
  have hnot : x ∉ akeys (M.take j) := by
    intro hx
    rw [e] at hn
    simp only [akeys, List.map_append, List.map_cons] at hn
    have := (List.nodup_append.1 hn).2.2 x hx x (by simp)
    exact this rfl
  have key : ∀ (a b : List (K × V)), x ∉ akeys a → aput (a ++ (x, v) :: b) x u = a ++ (x, u) :: b ∧ adel (a ++ (x, v) :: b) x = a ++ b := by
    intro a b ha
    induction a with
    | nil => simp [aput, adel]
    | cons q r ih =>
      obtain ⟨k, u'⟩ := q
      simp only [akeys, List.map_cons, List.mem_cons, not_or] at ha
      have hk : k ≠ x := fun e => ha.1 e.symm
      obtain ⟨i1, i2⟩ := ih ha.2
      simp [aput, adel, hk, i1, i2]
  obtain ⟨k1, k2⟩ := key _ (M.drop (j + 1)) hnot
  constructor
  · conv => lhs; rw [e]
    rw [k1]
    conv => rhs; rw [e]
    have := modify_split (M.take j) (x, v) (M.drop (j + 1)) (fun p => (p.1, u))
    rw [hl] at this
    exact this.symm
  · conv => lhs; rw [e]
    rw [k2, List.eraseIdx_eq_take_drop_succ]

theorem MapAt.update {t et : TypeId} {w : World} {b : Nat} {M : List (K × V)} (h : MapAt ek ev w b M) (O : KeyOps P kt ek) (ht : P.underlying t = some (.map kt et)) (x : K) (v : V) :
    ∃ w', (Instr.mapUpdate t (.map (some b)) (ek x) (ev v)).run P w = .ok () w' ∧ MapAt ek ev w' b (aput M x v) ∧ Only (· = b) w w' ∧ w'.heap.size = w.heap.size := by
  have hn := h.keys_nodup
  obtain ⟨es, clock, hb, hs, hm⟩ := h
  have hlt : b < w.heap.size := (Array.getElem?_eq_some_iff.1 hb).1
  have hget : ∀ o, (setBlock w b o).heap[b]? = some o := fun o => by simp [ChangeMaps.setBlock, hlt]
  rcases find_spec O w x hn hm with ⟨h1, h2, h3⟩ | ⟨j, e, u, h1, he, hk, hv, hj, h2⟩
  · refine ⟨setBlock w b (.map (es.push { key := ek x, val := ev v, born := clock }) (clock + 1)), ?_, ⟨_, _, hget _, stamped_push hs h3, ?_⟩, only_setBlock _ _ _, by simp [ChangeMaps.setBlock]⟩
    · simp [Instr.mapUpdate, run_underlying ht, MapKept.run_getObj_map hb, O.check w _ x, h1, MapKept.run_setObj_map _ hb, Result.andThen, ChangeMaps.setBlock]
    · rw [aput_new h2]
      simp [hm]
  · have hej : es[j]? = some e := by simpa using he
    refine ⟨setBlock w b (.map (es.modify j fun e => { e with key := ek x, val := ev v }) clock), ?_, ⟨_, _, hget _, stamped_modify hs j _ (fun _ _ => rfl) (fun e' _ he' => ?_), ?_⟩, only_setBlock _ _ _, by simp [ChangeMaps.setBlock]⟩
    · simp [Instr.mapUpdate, run_underlying ht, MapKept.run_getObj_map hb, O.check w _ x, h1, hej, hk, O.stays w x, MapKept.run_setObj_map _ hb, Result.andThen, ChangeMaps.setBlock]
    · rw [hej] at he'
      injection he' with he'
      subst he'
      exact hk.symm
    · rw [(aput_at hn hj v).1]
      apply List.ext_getElem?
      intro i
      have hi := pairs_at hm i
      simp only [List.getElem?_map, Array.getElem?_toList, Array.getElem?_modify, List.getElem?_modify] at hi ⊢
      by_cases hij : j = i
      · subst hij
        rw [hj] at hi ⊢
        simp [hej]
      · simp only [hij, if_false, hi]
        cases M[i]? <;> simp

theorem MapAt.drop {t et : TypeId} {w : World} {b : Nat} {M : List (K × V)} (h : MapAt ek ev w b M) (O : KeyOps P kt ek) (ht : P.underlying t = some (.map kt et)) (x : K) (ty : TypeId) :
    ∃ w', (Builtin.delete_ #[t, kt] ty #[.map (some b), ek x]).run P w = .ok (.tuple #[]) w' ∧ MapAt ek ev w' b (adel M x) ∧ Only (· = b) w w' ∧ w'.heap.size = w.heap.size := by
  have hn := h.keys_nodup
  obtain ⟨es, clock, hb, hs, hm⟩ := h
  have hlt : b < w.heap.size := (Array.getElem?_eq_some_iff.1 hb).1
  have hget : ∀ o, (setBlock w b o).heap[b]? = some o := fun o => by simp [ChangeMaps.setBlock, hlt]
  rcases find_spec O w x hn hm with ⟨h1, h2, h3⟩ | ⟨j, e, u, h1, he, hk, hv, hj, h2⟩
  · refine ⟨setBlock w b (.map es clock), ?_, ⟨_, _, hget _, hs, ?_⟩, only_setBlock _ _ _, by simp [ChangeMaps.setBlock]⟩
    · simp [Builtin.delete_, run_underlying ht, MapKept.run_getObj_map hb, O.check w _ x, h1, MapKept.run_setObj_map _ hb, Result.andThen, ChangeMaps.setBlock]
    · rw [hm]
      congr 1
      clear hm
      induction M with
      | nil => rfl
      | cons p r ih =>
        obtain ⟨k, u⟩ := p
        by_cases hk : k = x
        · simp [aget, hk] at h2
        · simp only [aget, hk, if_false] at h2
          simp only [akeys, List.map_cons, List.nodup_cons] at hn
          simp only [adel, hk, if_false]
          rw [← ih hn.2 h2]
  · have hsub : (es.eraseIdxIfInBounds j).toList = es.toList.eraseIdx j := by
      unfold Array.eraseIdxIfInBounds
      split
      · simp
      · rename_i hge
        rw [List.eraseIdx_of_length_le (by simpa using hge)]
    refine ⟨setBlock w b (.map (es.eraseIdxIfInBounds j) clock), ?_, ⟨_, _, hget _, ?_, ?_⟩, only_setBlock _ _ _, by simp [ChangeMaps.setBlock]⟩
    · simp [Builtin.delete_, run_underlying ht, MapKept.run_getObj_map hb, O.check w _ x, h1, MapKept.run_setObj_map _ hb, Result.andThen, ChangeMaps.setBlock]
    · obtain ⟨s1, s2, s3⟩ := hs
      refine ⟨fun x hx => ?_, ?_, ?_⟩
      · rw [hsub] at hx
        exact s1 x ((List.eraseIdx_sublist _ _).subset hx)
      · rw [hsub]
        exact s2.sublist ((List.eraseIdx_sublist _ _).map _)
      · rw [hsub]
        exact s3.sublist ((List.eraseIdx_sublist _ _).map _)
    · rw [(aput_at hn hj u).2, hsub, ChangeMaps.map_eraseIdx, ChangeMaps.map_eraseIdx, hm]

theorem IterAt.next {w : World} {b r : Nat} {M done : List (K × V)} (h : IterAt ek ev w b r M done) (O : KeyOps P kt ek) (ty : TypeId) :
    ((∀ p ∈ M, p ∈ done) ∧ (Instr.next (.pointer (some ⟨r, 0, none⟩)) false ty).run P w = .ok (.tuple #[.bool false]) w) ∨
    ∃ x v w', (x, v) ∈ M ∧ x ∉ akeys done ∧ (Instr.next (.pointer (some ⟨r, 0, none⟩)) false ty).run P w = .ok (.tuple #[.bool true, ek x, ev v]) w' ∧ IterAt ek ev w' b r M (done ++ [(x, v)]) ∧ Only (· = r) w w' ∧ w'.heap.size = w.heap.size ∧
      (Instr.entry (.pointer (some ⟨r, 0, none⟩))).run P w' = .ok (.tuple #[ek x, ev v]) w' := by
  have hnM := h.map.keys_nodup
  obtain ⟨es, clock, seen, stepped, hb, hs, hm, hr, hc, hd, hin, hiff⟩ := h
  have hbr : b ≠ r := fun e => by subst e; rw [hb] at hr; injection hr with hr; injection hr
  rcases run_next_at (P := P) w ty r b clock stepped seen es clock hr hb hs.1 hc with ⟨h0, hrun⟩ | ⟨e, he, w1, hw1, hrun⟩
  · refine .inl ⟨fun p hp => ?_, hrun⟩
    have : (ek p.1, ev p.2) ∈ es.toList.map (fun e => (e.key, e.val)) := hm ▸ List.mem_map.2 ⟨p, hp, rfl⟩
    obtain ⟨e, he, hee⟩ := List.mem_map.1 this
    have hseen : e.born ∈ seen.toList := by
      apply Classical.byContradiction
      intro hns
      have : e ∈ leftOf es seen := by
        unfold leftOf
        rw [Array.mem_filter]
        exact ⟨Array.mem_toList_iff.1 he, by simpa using hns⟩
      have := Array.size_pos_of_mem this
      omega
    obtain ⟨q, hq, hqk⟩ := (hiff e he).1 hseen
    have hk : q.1 = p.1 := O.inj (hqk.trans (congrArg Prod.fst hee))
    have hqM := aget_of_mem hnM (hin q hq)
    have hpM := aget_of_mem hnM (show (p.1, p.2) ∈ M from hp)
    rw [hk, hpM] at hqM
    injection hqM with hv
    have : q = p := Prod.ext hk hv.symm
    exact this ▸ hq
  · have he' : e ∈ es ∧ e.born ∉ seen.toList := by
      unfold leftOf at he
      rw [Array.mem_toList_iff, Array.mem_filter] at he
      exact ⟨he.1, by simpa using he.2⟩
    have heL : e ∈ es.toList := Array.mem_toList_iff.2 he'.1
    have : (e.key, e.val) ∈ M.map (fun p => (ek p.1, ev p.2)) := hm ▸ List.mem_map.2 ⟨e, heL, rfl⟩
    obtain ⟨p, hp, hpe⟩ := List.mem_map.1 this
    have hpk : ek p.1 = e.key := congrArg Prod.fst hpe
    have hpv : ev p.2 = e.val := congrArg Prod.snd hpe
    have hnot : p.1 ∉ akeys done := by
      intro hmem
      obtain ⟨q, hq, hqp⟩ := List.mem_map.1 hmem
      exact he'.2 ((hiff e heL).2 ⟨q, hq, by rw [hqp]; exact hpk⟩)
    have hr1 : w1.heap[r]? = some (.mapIter (some b) clock seen stepped) := by rcases hw1 with rfl | rfl <;> exact hr
    have hb1 : w1.heap[b]? = some (.map es clock) := by rcases hw1 with rfl | rfl <;> exact hb
    have hrlt : r < w1.heap.size := (Array.getElem?_eq_some_iff.1 hr1).1
    have hrn : (setBlock w1 r (.mapIter (some b) clock (seen.push e.born) clock)).heap[r]? = some (.mapIter (some b) clock (seen.push e.born) clock) := by simp [ChangeMaps.setBlock, hrlt]
    have hbn : (setBlock w1 r (.mapIter (some b) clock (seen.push e.born) clock)).heap[b]? = some (.map es clock) := by simp [ChangeMaps.setBlock, hbr.symm, hb1]
    refine .inr ⟨p.1, p.2, setBlock w1 r (.mapIter (some b) clock (seen.push e.born) clock), hp, hnot, by rw [hrun, hpk, hpv], ⟨es, clock, seen.push e.born, clock, hbn, hs, hm, hrn, Nat.le_refl _, ?_, ?_, ?_⟩, ?_, ?_, ?_⟩
    · have e0 : akeys (done ++ [(p.1, p.2)]) = akeys done ++ [p.1] := by simp [akeys]
      rw [e0]
      exact List.nodup_append.2 ⟨hd, by simp, fun a ha c hc' => by simp at hc'; subst hc'; exact fun e => hnot (e ▸ ha)⟩
    · intro q hq
      rcases List.mem_append.1 hq with hq | hq
      · exact hin q hq
      · simp at hq; subst hq; exact hp
    · intro e1 he1
      have hb1' := (stamped_iff es clock).1 hs
      constructor
      · intro hmem
        simp only [Array.toList_push, List.mem_append, List.mem_singleton] at hmem
        rcases hmem with hmem | hmem
        · obtain ⟨q, hq, hqk⟩ := (hiff e1 he1).1 hmem
          exact ⟨q, List.mem_append_left _ hq, hqk⟩
        · have : e1 = e := nodup_idx _ hs.2.1 he1 heL hmem
          subst this
          exact ⟨(p.1, p.2), by simp, hpk⟩
      · rintro ⟨q, hq, hqk⟩
        simp only [Array.toList_push, List.mem_append, List.mem_singleton]
        rcases List.mem_append.1 hq with hq | hq
        · exact .inl ((hiff e1 he1).2 ⟨q, hq, hqk⟩)
        · simp at hq; subst hq
          right
          have hkk : e1.key = e.key := by rw [← hqk]; exact hpk
          have := nodup_idx _ hs.2.2 he1 heL hkk
          subst this
          rfl
    · refine Only.setBlock (F := fun k => k = r) ?_ (fun _ => rfl) _
      rcases hw1 with rfl | rfl
      · exact Only.refl _ _
      · exact (Only.refl _ _).drew
    · rcases hw1 with rfl | rfl <;> simp [ChangeMaps.setBlock]
    · rw [hpk, hpv]
      exact run_entry_at _ r b clock seen es clock e hrn hbn heL hs.2.1
end

/-! ### 5. A region that draws its order, walked in one order: what only reads blocks that nobody turns meanwhile comes first; what turns the world stands in a chain -/
section
variable {P : Program} {ops : Array Oper} {Q : Exit → Act → World → Prop} {md : Region.Mode} {Inv : World → Prop}

/-- In every world that the region may come through, the operation gives v and leaves that world. -/
def GivesIn (P : Program) (ops : Array Oper) (Inv : World → Prop) (o : Oper) (v : Value) (a : Act) : Prop :=
  if Region.wanted o (yielded ops a.tmps) = true then ∀ w, Inv w → (execOp a.eval o).run P w = .ok (.value v) w else v = undef

/-- What is listed has all that it waits for listed. -/
def Closed (md : Region.Mode) (ops : Array Oper) (listed : Array Bool) : Prop := ∀ j o, ops[j]? = some o → listed.getD j false = true → ∀ e ∈ o.after, Region.binds md e = true → listed.getD e.on false = true
theorem Closed.set {i : Nat} {listed : Array Bool} (h : Closed md ops listed) (hi : i ∈ Region.ready md ops listed) : Closed md ops (listed.setIfInBounds i true) := by
  obtain ⟨_, x, hx, hall⟩ := mem_ready.1 hi
  intro j o hj hl e he hb
  by_cases hij : i = j
  · subst hij
    have : o = x := Option.some.inj (hj.symm.trans hx)
    subst this
    exact getD_set_true (hall e he hb)
  · rw [getD_set_ne false hij] at hl
    exact getD_set_true (h j o hj hl e he hb)
/-- Operation i waits for operation j. -/
def waitsB (md : Region.Mode) (ops : Array Oper) : Nat → Nat → Nat → Bool
  | 0, _, _ => false
  | n + 1, i, j =>
    match ops[i]? with
    | some o => o.after.any fun e => Region.binds md e && (e.on == j || waitsB md ops n e.on j)
    | none => false
theorem waitsB_listed {listed : Array Bool} (h : Closed md ops listed) : ∀ (n i j : Nat), waitsB md ops n i j = true → (∀ o, ops[i]? = some o → ∀ e ∈ o.after, Region.binds md e = true → listed.getD e.on false = true) → listed.getD j false = true
  | 0, _, _, hw, _ => by simp [waitsB] at hw
  | n + 1, i, j, hw, hall => by
    unfold waitsB at hw
    cases ho : ops[i]? with
    | none => simp [ho] at hw
    | some o =>
      simp only [ho] at hw
      obtain ⟨e, he, hb⟩ := Array.any_eq_true'.1 hw
      simp only [Bool.and_eq_true, Bool.or_eq_true, beq_iff_eq] at hb
      have hl := hall o ho e he hb.1
      rcases hb.2 with hj | hj
      · rw [← hj]; exact hl
      · exact waitsB_listed h n e.on j hj (fun o' ho' e' he' hb' => h e.on o' ho' hl e' he' hb')
/-- Operation i waits for every other one. -/
def lastB (md : Region.Mode) (ops : Array Oper) (i : Nat) : Bool := (List.range ops.size).all fun j => j == i || waitsB md ops ops.size i j
theorem lastB_waits {i j : Nat} {listed : Array Bool} (hc : Closed md ops listed) (h : lastB md ops i = true) (hi : i ∈ Region.ready md ops listed) (hj : j < ops.size) (hne : j ≠ i) : listed.getD j false = true := by
  obtain ⟨_, o, ho, hall⟩ := mem_ready.1 hi
  have := List.all_eq_true.1 h j (List.mem_range.2 hj)
  simp only [Bool.or_eq_true, beq_iff_eq, hne, false_or] at this
  refine waitsB_listed hc _ _ _ this fun o' ho' e he hb => ?_
  have : o' = o := Option.some.inj (ho'.symm.trans ho)
  subst this
  exact hall e he hb

def anyIn (P : Program) (md : Region.Mode) (ops : Array Oper) (Q : Exit → Act → World → Prop) (Inv : World → Prop) : Nat → Array Bool → Act → World → Prop
  | 0, listed, a, w => Region.ready md ops listed = [] ∧ Q .normal a w
  | n + 1, listed, a, w => (Region.ready md ops listed = [] → Q .normal a w) ∧
      ∀ i, i ∈ Region.ready md ops listed → wpOp P ops Q i (fun a' w' => (lastB md ops i = true ∨ Inv w') ∧ anyIn P md ops Q Inv n (listed.setIfInBounds i true) a' w') a w

theorem anyIn.plain : ∀ (n : Nat) (listed : Array Bool) (a : Act) (w : World), anyIn P md ops Q Inv n listed a w → wpAny P md ops Q n listed a w
  | 0, _, _, _, h => h
  | n + 1, _, _, _, h => ⟨h.1, fun i hi => wpOp_mono (fun a' w' h' => anyIn.plain n _ a' w' h'.2) (h.2 i hi)⟩

theorem GivesIn.now {i : Nat} {o : Oper} {v : Value} {a : Act} {w : World} {K : Act → World → Prop} (hi : ops[i]? = some o) (hy : GivesIn P ops Inv o v a) (hw : Inv w) (h : K (a.put o.dst v) w) : wpOp P ops Q i K a w := by
  unfold wpOp
  rw [hi]
  show if Region.wanted o (yielded ops a.tmps) = true then _ else _
  unfold GivesIn at hy
  split
  · rename_i hc
    rw [if_pos hc] at hy
    exact .inl (by unfold Oper.wp; rw [hy w hw]; exact h)
  · rename_i hc
    rw [if_neg hc] at hy
    exact hy ▸ h

/-- What an operation does is the same whether another one's slot is written before it or behind it. -/
theorem upon_later {o : Oper} {a : Act} {d : Option Tmp} {v : Value} {K : Act → World → Prop} {Y : Act → Prop} (hne : ∀ t, d = some t → o.dst ≠ some t)
    (hY : ∀ u, Y (a.put o.dst u)) (hD : ∀ x u, Y (({ a with defers := x :: a.defers } : Act).put o.dst u)) (hQ : ∀ c a w, Q (.panic c) (a.put d v) w → Q (.panic c) a w) (r : Result Next)
    (h : o.upon P (a.put d v) K Q r) : o.upon P a (fun a' w' => Y a' ∧ K (a'.put d v) w') Q r := by
  have sw : ∀ u, (a.put o.dst u).put d v = (a.put d v).put o.dst u := fun u => (Act.put_comm a v u hne).symm
  cases r with
  | ok n w1 =>
    cases n with
    | value u => exact ⟨hY u, by rw [sw]; exact h⟩
    | skip => exact ⟨hY undef, by rw [sw]; exact h⟩
    | defer x =>
      refine ⟨hD x undef, ?_⟩
      rw [← Act.put_comm _ v undef hne, ← Act.put_defers]
      exact h
    | enter f args =>
      refine Calls.mono h fun e w2 he => ?_
      cases e with
      | returned u => exact ⟨hY u, by rw [sw]; exact he⟩
      | panicked c => exact hQ _ _ _ he
      | outgrown => exact he
    | row row args => exact Rows.mono h fun u w2 he => ⟨hY u, by rw [sw]; exact he⟩
    | _ => exact h.elim
  | halt x w1 =>
    cases x with
    | panic u => exact hQ _ _ _ h
    | _ => exact h.elim

theorem GivesIn.same {o : Oper} {v : Value} {a a' : Act} (hy : GivesIn P ops Inv o v a) (he : execOp a'.eval o = execOp a.eval o) (hw : Region.wanted o (yielded ops a'.tmps) = Region.wanted o (yielded ops a.tmps)) : GivesIn P ops Inv o v a' := by
  unfold GivesIn at *
  rw [he, hw]
  exact hy

theorem wpOp_later {j : Nat} {x y : Oper} {v : Value} (hj : ops[j]? = some y) (hap : x.apart ops y = true) (sx : ∀ cs b, x.op ≠ .select cs b) (sy : ∀ cs b, y.op ≠ .select cs b)
    (hQ : ∀ c a w, Q (.panic c) (a.put x.dst v) w → Q (.panic c) a w) {K : Act → World → Prop} {a : Act} {w : World} (hy : GivesIn P ops Inv x v a) (h : wpOp P ops Q j K (a.put x.dst v) w) :
    wpOp P ops Q j (fun a' w' => GivesIn P ops Inv x v a' ∧ K (a'.put x.dst v) w') a w := by
  obtain ⟨h1, h2, h3⟩ := Oper.apart_spec hap
  have keep : ∀ b : Act, GivesIn P ops Inv x v b → ∀ u, GivesIn P ops Inv x v (b.put y.dst u) := fun b hb u => hb.same (execOp_put x sx b y.dst u h3) (wanted_put x b y.dst u h3)
  unfold wpOp at h ⊢
  rw [hj] at h ⊢
  change (if Region.wanted y (yielded ops (a.put x.dst v).tmps) = true then _ else _) at h
  show if Region.wanted y (yielded ops a.tmps) = true then _ else _
  rw [wanted_put y a x.dst v h1] at h
  split
  · rename_i hc
    rw [if_pos hc] at h
    rcases h with h | h
    · left
      unfold Oper.wp at h ⊢
      rw [execOp_put y sy a x.dst v h1] at h
      exact upon_later h2 (keep a hy) (fun d u => keep { a with defers := d :: a.defers } (hy.same rfl rfl) u) hQ _ h
    · right
      refine ⟨?_, h.2⟩
      have := h.1
      unfold Oper.asks at this ⊢
      rwa [execOp_put y sy a x.dst v h1] at this
  · rename_i hc
    rw [if_neg hc] at h
    exact ⟨keep a hy undef, by rw [← Act.put_comm a v undef h2]; exact h⟩

theorem anyIn_first {i : Nat} {x : Oper} {v : Value} (hi : ops[i]? = some x) (hsel : Region.noSelect ops = true) (hQ : ∀ c a w, Q (.panic c) (a.put x.dst v) w → Q (.panic c) a w) :
    ∀ (n : Nat) (listed : Array Bool) (a : Act) (w : World),
      (∀ j y, ops[j]? = some y → j ≠ i → listed.getD j true = false → (∀ e ∈ y.after, Region.binds md e = true → e.on ≠ i) → x.apart ops y = true) →
      Closed md ops listed → i ∈ Region.ready md ops listed → GivesIn P ops Inv x v a → Inv w → anyIn P md ops Q Inv n (listed.setIfInBounds i true) (a.put x.dst v) w → anyIn P md ops Q Inv (n + 1) listed a w := by
  intro n
  induction n with
  | zero =>
    intro listed a w _ hcl hr hy hw H
    refine ⟨fun h => absurd hr (by rw [h]; simp), fun j hj => ?_⟩
    by_cases hji : j = i
    · subst hji; exact hy.now hi hw ⟨.inr hw, H⟩
    · have := ready_mono hj hji
      rw [H.1] at this
      simp at this
  | succ n ih =>
    intro listed a w hfree hcl hr hy hw H
    refine ⟨fun h => absurd hr (by rw [h]; simp), fun j hj => ?_⟩
    by_cases hji : j = i
    · subst hji; exact hy.now hi hw ⟨.inr hw, H⟩
    · obtain ⟨hun, y, hoj, hall⟩ := mem_ready.1 hj
      have hnot : ∀ e ∈ y.after, Region.binds md e = true → e.on ≠ i := fun e he hb heq => by
        have h1 := hall e he hb
        have h0 := (mem_ready.1 hr).1
        rw [heq] at h1
        by_cases hlt : i < listed.size
        · simp [hlt] at h0 h1; rw [h0] at h1; exact absurd h1 (by simp)
        · simp [Array.getElem?_eq_none (Nat.le_of_not_lt hlt)] at h1
      have h2 := wpOp_later hoj (hfree j y hoj hji hun hnot) (fun cs b => Region.noSelect_spec hsel i x cs b hi) (fun cs b => Region.noSelect_spec hsel j y cs b hoj) hQ hy (H.2 j (ready_mono hj hji))
      have hnl : lastB md ops j ≠ true := fun hl => by
        have h0 := (mem_ready.1 hr).1
        have h1 := lastB_waits hcl hl hj (Array.getElem?_eq_some_iff.1 hi).1 (Ne.symm hji)
        by_cases hlt : i < listed.size
        · simp [hlt] at h0 h1; rw [h0] at h1; exact absurd h1 (by simp)
        · simp [Array.getElem?_eq_none (Nat.le_of_not_lt hlt)] at h1
      refine wpOp_mono (fun a' w' h3 => ⟨h3.2.1, ih (listed.setIfInBounds j true) a' w' (fun k z hk hki hku hno => ?_) (hcl.set hj) (ready_mono hr (Ne.symm hji)) h3.1 (h3.2.1.resolve_left hnl) ?_⟩) h2
      · refine hfree k z hk hki ?_ hno
        by_cases hjk : j = k
        · subst hjk; exact hun
        · rwa [getD_set_ne true hjk] at hku
      · rw [Array.setIfInBounds_comm _ _ hji]
        exact h3.2.2

/-- How a region is walked: 'read i': operation i only reads; 'turn i': it may turn the world, and is the only one that may come; 'fork i j': one of two may come. -/
inductive Plan where
  | stop
  | read (i : Nat) (p : Plan)
  | turn (i : Nat) (p : Plan)
  | fork (i j : Nat) (p q : Plan)
  | last (i : Nat)
def wpOrd (P : Program) (ops : Array Oper) (Q : Exit → Act → World → Prop) (Inv : World → Prop) : Plan → Act → World → Prop
  | .stop, a, w => Q .normal a w
  | .read i p, a, w => ∃ o v, ops[i]? = some o ∧ GivesIn P ops Inv o v a ∧ (∀ c a w, Q (.panic c) (a.put o.dst v) w → Q (.panic c) a w) ∧ wpOrd P ops Q Inv p (a.put o.dst v) w
  | .turn i p, a, w => wpOp P ops Q i (fun a' w' => Inv w' ∧ wpOrd P ops Q Inv p a' w') a w
  | .fork i j p q, a, w => wpOp P ops Q i (fun a' w' => Inv w' ∧ wpOrd P ops Q Inv p a' w') a w ∧ wpOp P ops Q j (fun a' w' => Inv w' ∧ wpOrd P ops Q Inv q a' w') a w
  | .last i, a, w => wpOp P ops Q i (fun a' w' => Q .normal a' w') a w

def ordB (md : Region.Mode) (ops : Array Oper) : Nat → Plan → Array Bool → Bool
  | 0, .stop, listed => (Region.ready md ops listed).isEmpty
  | n + 1, .read i p, listed => (Region.ready md ops listed).contains i && Region.free md ops listed i && ordB md ops n p (listed.setIfInBounds i true)
  | n + 1, .turn i p, listed => Region.ready md ops listed == [i] && ordB md ops n p (listed.setIfInBounds i true)
  | n + 1, .fork i j p q, listed => Region.ready md ops listed == [i, j] && ordB md ops n p (listed.setIfInBounds i true) && ordB md ops n q (listed.setIfInBounds j true)
  | 1, .last i, listed => Region.ready md ops listed == [i] && lastB md ops i && (Region.ready md ops (listed.setIfInBounds i true)).isEmpty
  | _, _, _ => false

theorem wpOrd_any (hsel : Region.noSelect ops = true) : ∀ (n : Nat) (ord : Plan) (listed : Array Bool) (a : Act) (w : World), Closed md ops listed → ordB md ops n ord listed = true → Inv w → wpOrd P ops Q Inv ord a w → anyIn P md ops Q Inv n listed a w
  | 0, .stop, _, _, _, _, hB, _, h => ⟨by simpa [ordB] using hB, h⟩
  | n + 1, .read i r, listed, a, w, hc, hB, hw, h => by
    simp only [ordB, Bool.and_eq_true] at hB
    obtain ⟨o, v, ho, hy, hQ, hr⟩ := h
    exact anyIn_first ho hsel hQ n listed a w (Region.free_spec ho hB.1.2) hc (by simpa using hB.1.1) hy hw (wpOrd_any hsel n r _ _ _ (hc.set (by simpa using hB.1.1)) hB.2 hw hr)
  | n + 1, .turn i r, listed, a, w, hc, hB, hw, h => by
    simp only [ordB, Bool.and_eq_true, beq_iff_eq] at hB
    refine ⟨fun h0 => absurd hB.1 (by rw [h0]; simp), fun j hj => ?_⟩
    have hj' := hj
    rw [hB.1] at hj
    simp only [List.mem_singleton] at hj
    subst hj
    exact wpOp_mono (fun a' w' h' => ⟨.inr h'.1, wpOrd_any hsel n r _ _ _ (hc.set hj') hB.2 h'.1 h'.2⟩) h
  | n + 1, .fork i k p q, listed, a, w, hc, hB, hw, h => by
    simp only [ordB, Bool.and_eq_true, beq_iff_eq] at hB
    refine ⟨fun h0 => absurd hB.1.1 (by rw [h0]; simp), fun j hj => ?_⟩
    have hj' := hj
    rw [hB.1.1] at hj
    simp only [List.mem_cons, List.not_mem_nil, or_false] at hj
    rcases hj with rfl | rfl
    · exact wpOp_mono (fun a' w' h' => ⟨.inr h'.1, wpOrd_any hsel n p _ _ _ (hc.set hj') hB.1.2 h'.1 h'.2⟩) h.1
    · exact wpOp_mono (fun a' w' h' => ⟨.inr h'.1, wpOrd_any hsel n q _ _ _ (hc.set hj') hB.2 h'.1 h'.2⟩) h.2
  | 1, .last i, listed, a, w, hc, hB, hw, h => by
    simp only [ordB, Bool.and_eq_true, beq_iff_eq] at hB
    refine ⟨fun h0 => absurd hB.1.1 (by rw [h0]; simp), fun j hj => ?_⟩
    have hj' := hj
    rw [hB.1.1] at hj
    simp only [List.mem_singleton] at hj
    subst hj
    exact wpOp_mono (fun a' w' h' => ⟨.inl hB.1.2, by simpa using hB.2, h'⟩) h
  | 0, .last _, _, _, _, _, hB, _, _ => by simp [ordB] at hB
  | _ + 2, .last _, _, _, _, _, hB, _, _ => by simp [ordB] at hB
  | 0, .read _ _, _, _, _, _, hB, _, _ => by simp [ordB] at hB
  | 0, .turn _ _, _, _, _, _, hB, _, _ => by simp [ordB] at hB
  | 0, .fork _ _ _ _, _, _, _, _, hB, _, _ => by simp [ordB] at hB
  | _ + 1, .stop, _, _, _, _, hB, _, _ => by simp [ordB] at hB

theorem getD_rep (m j : Nat) : (Array.replicate m false).getD j false = false := by
  by_cases h : j < m <;> simp [h]
/-- THE REGION: 'ord' is checked by the kernel; 'Inv' is yours: what every world on the way keeps. -/
theorem wp_region_ord {id : Nat} {l : List Oper} (ord : Plan) (Inv : World → Prop) {a : Act} {w : World} (hm : P.follows .mixedOrders = true) (hsel : Region.noSelect l.toArray = true)
    (hB : ordB .any l.toArray l.length ord (Array.replicate l.length false) = true) (hInv : Inv w.drew) (h : wpOrd P l.toArray Q Inv ord a w.drew) : (Code.region id l.toArray true).wp P Q a w := by
  refine wp_region_any hm ?_
  have := (wpOrd_any (md := .any) hsel l.length ord _ a w.drew (fun j o _ hl => by rw [getD_rep] at hl; exact absurd hl (by simp)) hB hInv h).plain
  simpa using this

theorem wpOrd_nil {a : Act} {w : World} (h : Q .normal a w) : wpOrd P ops Q Inv .stop a w := h
theorem at_drop {l tl : List Oper} {i : Nat} {o : Oper} (h : l.drop i = o :: tl) : l.toArray[i]? = some o := by
  have := List.getElem?_drop (xs := l) (i := i) (j := 0)
  rw [h] at this
  simpa using this.symm
/-- An operation that only reads. -/
theorem wpOrd_reads {i : Nat} {r : Plan} {o : Oper} {v : Value} {a : Act} {w : World} {l tl : List Oper} (hi : l.drop i = o :: tl) (hg : o.guard = none) (hQ : ∀ c a w, Q (.panic c) (a.put o.dst v) w → Q (.panic c) a w)
    (hv : ∀ W, Inv W → (execOp a.eval o).run P W = .ok (.value v) W) (h : wpOrd P l.toArray Q Inv r (a.put o.dst v) w) : wpOrd P l.toArray Q Inv (.read i r) a w :=
  ⟨o, v, at_drop hi, by unfold GivesIn; rw [if_pos (by simp [Region.wanted, hg])]; exact hv, hQ, h⟩
/-- .. and that is guarded: its guard has said yes. -/
theorem wpOrd_guarded {i : Nat} {r : Plan} {o : Oper} {v : Value} {a : Act} {w : World} {l tl : List Oper} (hi : l.drop i = o :: tl) (hg : Region.wanted o (yielded l.toArray a.tmps) = true) (hQ : ∀ c a w, Q (.panic c) (a.put o.dst v) w → Q (.panic c) a w)
    (hv : ∀ W, Inv W → (execOp a.eval o).run P W = .ok (.value v) W) (h : wpOrd P l.toArray Q Inv r (a.put o.dst v) w) : wpOrd P l.toArray Q Inv (.read i r) a w :=
  ⟨o, v, at_drop hi, by unfold GivesIn; rw [if_pos hg]; exact hv, hQ, h⟩
/-- .. and its guard has said no. -/
theorem wpOrd_passed {i : Nat} {r : Plan} {o : Oper} {a : Act} {w : World} {l tl : List Oper} (hi : l.drop i = o :: tl) (hg : Region.wanted o (yielded l.toArray a.tmps) = false) (hQ : ∀ c a w, Q (.panic c) (a.put o.dst undef) w → Q (.panic c) a w)
    (h : wpOrd P l.toArray Q Inv r (a.put o.dst undef) w) : wpOrd P l.toArray Q Inv (.read i r) a w :=
  ⟨o, undef, at_drop hi, by unfold GivesIn; rw [if_neg (by simp [hg])], hQ, h⟩
/-- Two things, behind a name that the walk does not open. -/
structure Both (p q : Prop) : Prop where
  fst : p
  snd : q
/-- An operation that may turn the world: what stands behind it is told as a list of one operation, so that the laws at an operation serve. -/
theorem wpOp_of_list {i : Nat} {l tl : List Oper} {o : Oper} (hi : l.drop i = o :: tl) {a : Act} {w : World} {K K' : Act → World → Prop} (hK : ∀ a w, K a w → K' a w) (h : wpList P l.toArray (Exit.then K Q) [o] a w) : wpOp P l.toArray Q i K' a w := by
  have key : ∀ z : Result Next, o.upon P a K (Exit.then K Q) z → o.upon P a K' Q z := by
    intro z h
    cases z with
    | ok n w1 =>
      cases n with
      | enter f args => exact Calls.mono h fun e w2 he => by cases e <;> first | exact hK _ _ he | exact he
      | row f args => exact Rows.mono h fun v w2 he => hK _ _ he
      | value v => exact hK _ _ h
      | skip => exact hK _ _ h
      | defer d => exact hK _ _ h
      | _ => exact h
    | halt x w1 => cases x <;> exact h
  unfold wpOp
  rw [at_drop hi]
  show if Region.wanted o (yielded l.toArray a.tmps) = true then _ else _
  unfold wpList at h
  split
  · rename_i hc
    rw [if_pos hc] at h
    exact h.imp (fun h => key _ h) (fun h => ⟨h.1, h.2⟩)
  · rename_i hc
    rw [if_neg hc] at h
    exact hK _ _ h
theorem wpOrd_turns {i : Nat} {r : Plan} {l tl : List Oper} {o : Oper} {a : Act} {w : World} (hi : l.drop i = o :: tl) (h : wpList P l.toArray (Exit.then (fun a' w' => Both (Inv w') (wpOrd P l.toArray Q Inv r a' w')) Q) [o] a w) : wpOrd P l.toArray Q Inv (.turn i r) a w :=
  wpOp_of_list hi (fun _ _ h => ⟨h.fst, h.snd⟩) h
/-- The last operation, that waits for every other one: nothing is asked of what it leaves. -/
theorem wpOrd_lasts {i : Nat} {l tl : List Oper} {o : Oper} {a : Act} {w : World} (hi : l.drop i = o :: tl) (h : wpList P l.toArray (Exit.then (fun a' w' => Both True (Q .normal a' w')) Q) [o] a w) : wpOrd P l.toArray Q Inv (.last i) a w :=
  wpOp_of_list hi (fun _ _ h => h.snd) h
/-- One of two. -/
theorem wpOrd_forks {i j : Nat} {p q : Plan} {a : Act} {w : World} (h : wpOrd P ops Q Inv (.turn i p) a w) (k : wpOrd P ops Q Inv (.turn j q) a w) : wpOrd P ops Q Inv (.fork i j p q) a w := ⟨h, k⟩
end

/-! ### 6. The laws on maps at the operation, for the walk -/
section
variable {P : Program} {K V : Type} [DecidableEq K] {kt : TypeId} {ek : K → Value} {ev : V → Value} {w : World} {ops : Array Oper} {rest : List Oper} {o : Oper} {a : Act} {Q : Exit → Act → World → Prop}

theorem wpList_value (hg : o.guard = none) (v : Value) (w' : World) (hrun : (execOp a.eval o).run P w = .ok (.value v) w') (h : wpList P ops Q rest (a.put o.dst v) w') : wpList P ops Q (o :: rest) a w := by
  refine wpList_plain hg fun K' hK' => ?_
  unfold Oper.wp
  rw [hrun]
  exact hK' _ _ h
theorem wpList_skips (hg : o.guard = none) (w' : World) (hrun : (execOp a.eval o).run P w = .ok .skip w') (h : wpList P ops Q rest (a.put o.dst undef) w') : wpList P ops Q (o :: rest) a w := by
  refine wpList_plain hg fun K' hK' => ?_
  unfold Oper.wp
  rw [hrun]
  exact hK' _ _ h

theorem wpList_store_map (hg : o.guard = none) (m x v : Operand) (t et : TypeId) (hop : o.op = Op.mapUpdate t m x v) (O : KeyOps P kt ek) (ht : P.underlying t = some (.map kt et)) (b : Nat) (M : List (K × V)) (h : MapAt ek ev w b M)
    (hm : a.eval m = .map (some b)) (k : K) (u : V) (hx : a.eval x = ek k) (hv : a.eval v = ev u)
    (hK : ∀ w', MapAt ek ev w' b (aput M k u) → Only (fun i => i = b) w w' → w'.heap.size = w.heap.size → wpList P ops Q rest (a.put o.dst undef) w') : wpList P ops Q (o :: rest) a w := by
  obtain ⟨w', hrun, h1, h2, h3⟩ := h.update O ht k u
  refine wpList_plain hg fun K' hK' => ?_
  unfold Oper.wp
  simp [execOp, hop, hm, hx, hv, hrun, Result.andThen]
  exact hK' _ _ (hK w' h1 h2 h3)

theorem wpList_delete_map (hg : o.guard = none) (m x : Operand) (t et : TypeId) (hop : o.op = Op.call { callee := Callee.builtin Builtin.delete, args := #[m, x], argTypes := #[t, kt] }) (O : KeyOps P kt ek) (ht : P.underlying t = some (.map kt et)) (b : Nat)
    (M : List (K × V)) (h : MapAt ek ev w b M) (hm : a.eval m = .map (some b)) (k : K) (hx : a.eval x = ek k)
    (hK : ∀ w', MapAt ek ev w' b (adel M k) → Only (fun i => i = b) w w' → w'.heap.size = w.heap.size → wpList P ops Q rest (a.put o.dst (.tuple #[])) w') : wpList P ops Q (o :: rest) a w := by
  obtain ⟨w', hrun, h1, h2, h3⟩ := h.drop O ht k o.type
  refine wpList_plain hg fun K' hK' => ?_
  unfold Oper.wp
  simp [execOp, hop, resolve, invoke, builtin, hm, hx, hrun, Result.andThen]
  exact hK' _ _ (hK w' h1 h2 h3)
end

section
variable {P : Program} {K V : Type} {kt : TypeId} {ek : K → Value} {ev : V → Value} {w : World} {ops : Array Oper} {rest : List Oper} {o : Oper} {a : Act} {Q : Exit → Act → World → Prop}
theorem wpList_range_map (hg : o.guard = none) (m : Operand) (t et : TypeId) (hop : o.op = Op.range t m) (ht : P.underlying t = some (.map kt et)) (b : Nat) (M : List (K × V)) (h : MapAt ek ev w b M) (hm : a.eval m = .map (some b))
    (hK : ∀ w', IterAt ek ev w' b w.heap.size M [] → Only (fun _ => False) w w' → w'.heap.size = w.heap.size + 1 → wpList P ops Q rest (a.put o.dst (.pointer (some ⟨w.heap.size, 0, none⟩))) w') : wpList P ops Q (o :: rest) a w := by
  obtain ⟨w', hrun, h1, h2, h3⟩ := h.range ht
  refine wpList_plain hg fun K' hK' => ?_
  unfold Oper.wp
  simp [execOp, hop, hm, hrun, Result.andThen]
  exact hK' _ _ (hK w' h1 h2 h3)
theorem wpList_next_map [DecidableEq K] (hg : o.guard = none) (it : Operand) (hop : o.op = Op.next it false) (O : KeyOps P kt ek) (b r : Nat) (M done : List (K × V)) (h : IterAt ek ev w b r M done) (hit : a.eval it = .pointer (some ⟨r, 0, none⟩))
    (hDone : done.Perm M → wpList P ops Q rest (a.put o.dst (.tuple #[.bool false])) w)
    (hMore : ∀ x v w', (x, v) ∈ M → x ∉ akeys done → IterAt ek ev w' b r M (done ++ [(x, v)]) → Only (fun i => i = r) w w' → w'.heap.size = w.heap.size → (Instr.entry (.pointer (some ⟨r, 0, none⟩))).run P w' = .ok (.tuple #[ek x, ev v]) w' →
      wpList P ops Q rest (a.put o.dst (.tuple #[.bool true, ek x, ev v])) w') : wpList P ops Q (o :: rest) a w := by
  refine wpList_plain hg fun K' hK' => ?_
  unfold Oper.wp
  rcases h.next O o.type with ⟨hall, hrun⟩ | ⟨x, v, w', hin, hnot, hrun, h1, h2, h3, hen⟩
  · simp [execOp, hop, hit, hrun, Result.andThen]
    exact hK' _ _ (hDone (h.done_perm hall))
  · simp [execOp, hop, hit, hrun, Result.andThen]
    exact hK' _ _ (hMore x v w' hin hnot h1 h2 h3 hen)
end

/-! ### 7. Keys: a text; a struct of two texts; a struct of three -/
def eStr (s : ByteArray) : Value := .string s
def ePair (k : ByteArray × ByteArray) : Value := .agg #[.string k.1, .string k.2]
def eTriple (k : ByteArray × ByteArray × ByteArray) : Value := .agg #[.string k.1, .string k.2.1, .string k.2.2]

theorem KeyOps.str {P : Program} {kt : TypeId} (hk : P.underlying kt = some .string) : KeyOps P kt eStr where
  inj h := by injection h
  check w em x := MapKept.run_checkKey hk (k := eStr x) trivial em 9999
  find w x es hes := by
    have hks : ∀ y ∈ es, MapKept.IsKey .string y.key := fun y hy => by
      obtain ⟨l, hl⟩ := hes y hy
      rw [hl]
      trivial
    rcases MapKept.findNow_spec (d := .string) (k := eStr x) trivial es 0 hks with ⟨h1, h2⟩ | ⟨j, e0, h1, h2, h3⟩
    · exact .inl ⟨MapKept.run_findKey hk h1, h2⟩
    · exact .inr ⟨j, e0, by simpa using MapKept.run_findKey hk h1, h2, h3⟩
  stays w x := by
    have h : MapKept.IsKey .string (eStr x) := trivial
    exact MapKept.run_keyThatStays h


theorem run_part_str {P : Program} {e : TypeId} (he : P.underlying e = some .string) {xs : Array Value} {off : Nat} {v : Value} (hx : xs[off]? = some v) (w : World) : (part e xs off).run P w = .ok v w := by
  simp [part, isAgg, run_underlying he, Result.andThen, hx]

theorem ba_beq (x y : ByteArray) : (x == y) = decide (x = y) := by
  rw [Bool.eq_iff_iff, MapKept.bytes_beq, decide_eq_true_iff]

theorem run_eq_str {P : Program} {e : TypeId} (he : P.underlying e = some .string) (d : Nat) (x y : ByteArray) (w : World) : (Op.equalIn (d + 1) e (.string x) (.string y)).run P w = .ok (decide (x = y)) w := by
  simp [Op.equalIn, run_underlying he, Result.andThen, ba_beq]

/-- Two texts in a struct. -/
structure Two (P : Program) (kt : TypeId) (f0 f1 : Field) : Prop where
  under : P.underlying kt = some (.struct #[f0, f1])
  held : P.stoodInHeld kt = false
  s0 : P.underlying f0.type = some .string
  s1 : P.underlying f1.type = some .string
  o0 : f0.offset = 0
  o1 : f1.offset = 1
  n0 : f0.name ≠ "_"
  n1 : f1.name ≠ "_"
structure Three (P : Program) (kt : TypeId) (f0 f1 f2 : Field) : Prop where
  under : P.underlying kt = some (.struct #[f0, f1, f2])
  held : P.stoodInHeld kt = false
  s0 : P.underlying f0.type = some .string
  s1 : P.underlying f1.type = some .string
  s2 : P.underlying f2.type = some .string
  o0 : f0.offset = 0
  o1 : f1.offset = 1
  o2 : f2.offset = 2
  n0 : f0.name ≠ "_"
  n1 : f1.name ≠ "_"
  n2 : f2.name ≠ "_"

/-- Keys of a struct's type: what it takes. -/
theorem KeyOps.of_struct {P : Program} {kt : TypeId} {fs : Array Field} {K : Type} [DecidableEq K] {ek : K → Value} (hk : P.underlying kt = some (.struct fs)) (inj : ∀ {x y : K}, ek x = ek y → x = y) (agg : ∀ x, ∃ cs, ek x = .agg cs)
    (check : ∀ (w : World) (em : Bool) (x : K), (Instr.checkKey em 10000 kt (ek x)).run P w = .ok () w) (eq : ∀ (w : World) (x y : K), (Op.equal kt (ek x) (ek y)).run P w = .ok (decide (x = y)) w)
    (bits : ∀ x, Instr.sameBits 10000 (ek x) (ek x) = true) : KeyOps P kt ek where
  inj := inj
  check := check
  find w x es hes := by
    have hask : ∀ (l : List MapEntry) (i : Nat), (∀ e ∈ l, ∃ y, e.key = ek y) →
        ((Instr.findAsking kt (ek x) l i).run P w = .ok none w ∧ ∀ e ∈ l, e.key ≠ ek x) ∨ ∃ j e, (Instr.findAsking kt (ek x) l i).run P w = .ok (some (i + j, e.val)) w ∧ l[j]? = some e ∧ e.key = ek x := by
      intro l
      induction l with
      | nil => intro i _; exact .inl ⟨rfl, by simp⟩
      | cons e r ih =>
        intro i hl
        obtain ⟨y, hy⟩ := hl e (List.mem_cons_self ..)
        by_cases hxy : x = y
        · refine .inr ⟨0, e, ?_, rfl, by rw [hy, hxy]⟩
          subst hxy
          simp [Instr.findAsking, hy, eq w x x, Result.andThen]
        · rcases ih (i + 1) (fun e' he' => hl e' (List.mem_cons_of_mem _ he')) with ⟨h1, h2⟩ | ⟨j, e', h1, h2, h3⟩
          · refine .inl ⟨?_, fun e' he' => ?_⟩
            · simp [Instr.findAsking, hy, eq w x y, Result.andThen, hxy, h1]
            · rcases List.mem_cons.1 he' with rfl | he'
              · rw [hy]; exact fun h => hxy (inj h).symm
              · exact h2 e' he'
          · refine .inr ⟨j + 1, e', ?_, h2, h3⟩
            simp only [Instr.findAsking, hy, Sem.run_bind, eq w x y, Result.andThen, hxy, decide_false, Bool.false_eq_true, if_false, h1]
            rw [show i + 1 + j = i + (j + 1) by omega]
    obtain ⟨cs, hcs⟩ := agg x
    cases es with
    | nil =>
      refine .inl ⟨?_, by simp⟩
      simp [Instr.findKey, run_underlying hk, Result.andThen, Instr.findNow]
    | cons e r =>
      obtain ⟨y, hy⟩ := hes e (List.mem_cons_self ..)
      obtain ⟨cy, hcy⟩ := agg y
      have hnow : Instr.findNow (.struct fs) (ek x) (e :: r) 0 = none := by
        simp [Instr.findNow, Instr.sameNow]
      rcases hask (e :: r) 0 hes with ⟨h1, h2⟩ | ⟨j, e', h1, h2, h3⟩
      · exact .inl ⟨by simp [Instr.findKey, run_underlying hk, Result.andThen, hnow, h1], h2⟩
      · rw [Nat.zero_add] at h1
        exact .inr ⟨j, e', by simp [Instr.findKey, run_underlying hk, Result.andThen, hnow, h1], h2, h3⟩
  stays w x := by simp [Instr.keyThatStays, bits x]

theorem KeyOps.pair {P : Program} {kt : TypeId} {f0 f1 : Field} (T : Two P kt f0 f1) : KeyOps P kt ePair := by
  have chk : ∀ (w : World) (em : Bool) (n : Nat) (x : ByteArray × ByteArray), (Instr.checkKey em (n + 2) kt (ePair x)).run P w = .ok () w := by
    intro w em n x
    have h0 : (Instr.checkKey em (n + 1) f0.type (.string x.1)).run P w = .ok () w := by simp [Instr.checkKey, run_underlying T.s0, Result.andThen]
    have h1 : (Instr.checkKey em (n + 1) f1.type (.string x.2)).run P w = .ok () w := by simp [Instr.checkKey, run_underlying T.s1, Result.andThen]
    unfold Instr.checkKey
    simp [run_underlying T.under, Result.andThen, ePair, T.n0, T.n1, T.o0, T.o1, run_part_str T.s0, run_part_str T.s1, h0, h1]
  have eq2 : ∀ (w : World) (n : Nat) (x y : ByteArray × ByteArray), (Op.equalIn (n + 2) kt (ePair x) (ePair y)).run P w = .ok (decide (x = y)) w := by
    intro w n x y
    have h0 := fun u v => run_eq_str T.s0 n u v w
    have h1 := fun u v => run_eq_str T.s1 n u v w
    obtain ⟨x1, x2⟩ := x
    obtain ⟨y1, y2⟩ := y
    unfold Op.equalIn
    by_cases e1 : x1 = y1 <;> by_cases e2 : x2 = y2 <;> simp [run_underlying T.under, Result.andThen, ePair, T.held, T.n0, T.n1, T.o0, T.o1, run_part_str T.s0, run_part_str T.s1, h0, h1, e1, e2]
  refine KeyOps.of_struct T.under (fun {x y} h => ?_) (fun x => ⟨_, rfl⟩) (fun w em x => chk w em 9998 x) (fun w x y => eq2 w 9998 x y) (fun x => ?_)
  · obtain ⟨x1, x2⟩ := x
    obtain ⟨y1, y2⟩ := y
    simpa [ePair] using h
  · show Instr.sameBits (9998 + 2) _ _ = true
    simp [ePair, Instr.sameBits, ba_beq]

theorem KeyOps.triple {P : Program} {kt : TypeId} {f0 f1 f2 : Field} (T : Three P kt f0 f1 f2) : KeyOps P kt eTriple := by
  have chk : ∀ (w : World) (em : Bool) (n : Nat) (x : ByteArray × ByteArray × ByteArray), (Instr.checkKey em (n + 2) kt (eTriple x)).run P w = .ok () w := by
    intro w em n x
    have h0 : (Instr.checkKey em (n + 1) f0.type (.string x.1)).run P w = .ok () w := by simp [Instr.checkKey, run_underlying T.s0, Result.andThen]
    have h1 : (Instr.checkKey em (n + 1) f1.type (.string x.2.1)).run P w = .ok () w := by simp [Instr.checkKey, run_underlying T.s1, Result.andThen]
    have h2 : (Instr.checkKey em (n + 1) f2.type (.string x.2.2)).run P w = .ok () w := by simp [Instr.checkKey, run_underlying T.s2, Result.andThen]
    unfold Instr.checkKey
    simp [run_underlying T.under, Result.andThen, eTriple, T.n0, T.n1, T.n2, T.o0, T.o1, T.o2, run_part_str T.s0, run_part_str T.s1, run_part_str T.s2, h0, h1, h2]
  have eq2 : ∀ (w : World) (n : Nat) (x y : ByteArray × ByteArray × ByteArray), (Op.equalIn (n + 2) kt (eTriple x) (eTriple y)).run P w = .ok (decide (x = y)) w := by
    intro w n x y
    have h0 := fun u v => run_eq_str T.s0 n u v w
    have h1 := fun u v => run_eq_str T.s1 n u v w
    have h2 := fun u v => run_eq_str T.s2 n u v w
    obtain ⟨x1, x2, x3⟩ := x
    obtain ⟨y1, y2, y3⟩ := y
    unfold Op.equalIn
    by_cases e1 : x1 = y1 <;> by_cases e2 : x2 = y2 <;> by_cases e3 : x3 = y3 <;> simp [run_underlying T.under, Result.andThen, eTriple, T.held, T.n0, T.n1, T.n2, T.o0, T.o1, T.o2, run_part_str T.s0, run_part_str T.s1, run_part_str T.s2, h0, h1, h2, e1, e2, e3]
  refine KeyOps.of_struct T.under (fun {x y} h => ?_) (fun x => ⟨_, rfl⟩) (fun w em x => chk w em 9998 x) (fun w x y => eq2 w 9998 x y) (fun x => ?_)
  · obtain ⟨x1, x2, x3⟩ := x
    obtain ⟨y1, y2, y3⟩ := y
    simpa [eTriple] using h
  · show Instr.sameBits (9998 + 2) _ _ = true
    simp [eTriple, Instr.sameBits, ba_beq]
end Go.Proofs.YteecfjkljmmecaaGreat
