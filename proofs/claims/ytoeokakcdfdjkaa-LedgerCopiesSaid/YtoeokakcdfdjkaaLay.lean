/- HOW A LEDGER LIES IN MEMORY: its block, its two maps, its posts. -/
import Derived.Test.YtoeokakcdfdjkaaProg
import Derived.Test.YtoeokakcdfdjkaaMod
import Derived.KernelRfl
namespace Go.Proofs.Ytoeokakcdfdjkaa
open Go.RowKit

def eAcct (a : Acct) : Value := .agg #[.int .i64 a.floor, .int .i64 a.bal, .int .i64 a.held]
def eHold (h : HoldD) : Value := .agg #[.string h.id, .string h.acct, .string h.cur, .int .i64 h.amt]
def eInt (n : Int) : Value := .int .i64 n
def entCells : List Ent → List Value
  | [] => []
  | e :: r => .string e.acct :: .string e.cur :: .int .i64 e.amt :: entCells r
def postCells : List PostM → List Value → List Value
  | p :: P, v :: vs => .int .i64 p.num :: .string p.text :: v :: postCells P vs
  | _, _ => []

theorem key68 : ∃ f0 f1, Two Try.prog 68 f0 f1 :=
  ⟨_, _, Try.underlying68, by kernel_rfl, Try.underlying9, Try.underlying9, rfl, rfl, by decide, by decide⟩
theorem kOps : KeyOps Try.prog 68 ePair := by obtain ⟨f0, f1, h⟩ := key68; exact KeyOps.pair h
theorem sOps : KeyOps Try.prog 9 eStr := KeyOps.str Try.underlying9
theorem zero70 (w : World) : (zeroValue 70).run Try.prog w = .ok (.agg #[.int .i64 0, .int .i64 0, .int .i64 0]) w := by kernel_rfl
theorem zero66 (w : World) : (zeroValue 66).run Try.prog w = .ok (.agg #[.string ByteArray.empty, .string ByteArray.empty, .string ByteArray.empty, .int .i64 0]) w := by kernel_rfl
theorem zero2 (w : World) : (zeroValue 2).run Try.prog w = .ok (.int .i64 0) w := by kernel_rfl

/-- A slice of a row of its own, where nobody writes its block. -/
theorem ownsRow_only {F : Nat → Prop} {w w' : World} {base : Nat} {e : TypeId} {size n : Nat} {v : Value} {xs : List Value} (h : w.ownsRow base e size v n xs) (ho : Only F w w') (hf : ∀ b, v.ownBlock = some b → ¬ F b) : w'.ownsRow base e size v n xs := by
  obtain ⟨h1, h2⟩ := h
  refine ⟨h1, h2.imp id ?_⟩
  rintro ⟨g, cap, cur, rfl, hb, hh, r⟩
  exact ⟨g, cap, cur, rfl, hb, ho.heap hh (hf g rfl), r⟩
theorem ownsRow_base {w : World} {base base' : Nat} {e : TypeId} {size n : Nat} {v : Value} {xs : List Value} (h : w.ownsRow base e size v n xs) (hb : base' ≤ base) : w.ownsRow base' e size v n xs := by
  obtain ⟨h1, h2⟩ := h
  refine ⟨h1, h2.imp id ?_⟩
  rintro ⟨g, cap, cur, rfl, hg, r⟩
  exact ⟨g, cap, cur, rfl, Nat.le_trans hb hg, r⟩
theorem ownsRow_block {w : World} {base : Nat} {e : TypeId} {size n : Nat} {v : Value} {xs : List Value} (h : w.ownsRow base e size v n xs) {b : Nat} (hb : v.ownBlock = some b) : ∃ c, w.heap[b]? = some (.cells c e (0, 0)) ∧ base ≤ b := by
  obtain ⟨_, h2⟩ := h
  rcases h2 with ⟨rfl, _⟩ | ⟨g, cap, cur, rfl, hg, hh, _⟩
  · simp [Value.ownBlock] at hb
  · have : g = b := by simpa [Value.ownBlock] using hb
    subst this
    exact ⟨cur, hh, hg⟩

/-- The posts: a row of the ledger's own; each post's entries in a row of their own. -/
def PostsAt (w : World) (pv : Value) (P : List PostM) : Prop :=
  ∃ evs : List Value, evs.length = P.length ∧ w.ownsRow 0 46 3 pv P.length (postCells P evs) ∧ ∀ (j : Nat) (p : PostM) (v : Value), P[j]? = some p → evs[j]? = some v → w.ownsRow 0 44 3 v p.ents.length (entCells p.ents)

/-- F holds no row of entries. -/
def NoEnts (F : Nat → Prop) (w : World) : Prop := ∀ b c fr, F b → w.heap[b]? ≠ some (.cells c 44 fr)

theorem PostsAt.only {F : Nat → Prop} {w w' : World} {pv : Value} {P : List PostM} (h : PostsAt w pv P) (ho : Only F w w') (hp : ∀ b, pv.ownBlock = some b → ¬ F b) (hn : NoEnts F w) : PostsAt w' pv P := by
  obtain ⟨evs, h1, h2, h3⟩ := h
  refine ⟨evs, h1, ownsRow_only h2 ho hp, fun j p v hj hv => ownsRow_only (h3 j p v hj hv) ho fun b hb hf => ?_⟩
  obtain ⟨c, hc, _⟩ := ownsRow_block (h3 j p v hj hv) hb
  exact hn b c _ hf hc

structure Loc where
  lb : Nat
  ab : Nat
  hb : Nat
  own : ByteArray
  pv : Value

structure LAt (w : World) (l : Loc) (S : Led) : Prop where
  cell : w.heap[l.lb]? = some (.cells #[.string l.own, .map (some l.ab), l.pv, .map (some l.hb)] 75 (0, 0))
  accts : MapAt ePair eAcct w l.ab S.A
  holds : MapAt eStr eHold w l.hb S.H
  ne : l.ab ≠ l.hb
  posts : PostsAt w l.pv S.P

/-- The blocks that a ledger's acts may turn. -/
def Loc.F (l : Loc) : Nat → Prop := fun i => i = l.lb ∨ i = l.ab ∨ i = l.hb ∨ l.pv.ownBlock = some i

section
variable {w : World} {l : Loc} {S : Led}
theorem LAt.c (h : LAt w l S) : w.cell? ⟨l.lb, 0, none⟩ = some (.string l.own) ∧ w.cell? ⟨l.lb, 1, none⟩ = some (.map (some l.ab)) ∧ w.cell? ⟨l.lb, 2, none⟩ = some l.pv ∧ w.cell? ⟨l.lb, 3, none⟩ = some (.map (some l.hb)) := by
  simp [World.cell?, h.cell]
theorem LAt.lt (h : LAt w l S) : l.lb < w.heap.size := (Array.getElem?_eq_some_iff.1 h.cell).1
theorem LAt.ne_ab (h : LAt w l S) : l.lb ≠ l.ab := fun e => by
  obtain ⟨es, cl, hb, _⟩ := h.accts
  rw [← e, h.cell] at hb
  simp at hb
theorem LAt.ne_hb (h : LAt w l S) : l.lb ≠ l.hb := fun e => by
  obtain ⟨es, cl, hb, _⟩ := h.holds
  rw [← e, h.cell] at hb
  simp at hb
theorem LAt.pv_block (h : LAt w l S) {b : Nat} (hb : l.pv.ownBlock = some b) : ∃ c, w.heap[b]? = some (.cells c 46 (0, 0)) := by
  obtain ⟨evs, _, h2, _⟩ := h.posts
  obtain ⟨c, hc, _⟩ := ownsRow_block h2 hb
  exact ⟨c, hc⟩
theorem LAt.pv_ne (h : LAt w l S) : l.pv.ownBlock ≠ some l.lb ∧ l.pv.ownBlock ≠ some l.ab ∧ l.pv.ownBlock ≠ some l.hb := by
  refine ⟨fun e => ?_, fun e => ?_, fun e => ?_⟩ <;> obtain ⟨c, hc⟩ := h.pv_block e
  · rw [h.cell] at hc
    injection hc with hc
    injection hc with _ ht
    exact absurd ht (by decide)
  · obtain ⟨es, cl, hb, _⟩ := h.accts
    rw [hc] at hb
    simp at hb
  · obtain ⟨es, cl, hb, _⟩ := h.holds
    rw [hc] at hb
    simp at hb
theorem LAt.noEnts (h : LAt w l S) : NoEnts l.F w := by
  rintro b c fr (rfl | rfl | rfl | hb) hc
  · rw [h.cell] at hc
    injection hc with hc
    injection hc with _ ht
    exact absurd ht (by decide)
  · obtain ⟨es, cl, hb, _⟩ := h.accts
    rw [hc] at hb
    simp at hb
  · obtain ⟨es, cl, hb, _⟩ := h.holds
    rw [hc] at hb
    simp at hb
  · obtain ⟨c', hc'⟩ := h.pv_block hb
    rw [hc] at hc'
    injection hc' with hc'
    injection hc' with _ ht
    exact absurd ht (by decide)
/-- Somebody else's acts leave the ledger as it is. -/
theorem LAt.only (h : LAt w l S) {F : Nat → Prop} {w' : World} (ho : Only F w w') (hF : ∀ i, l.F i → ¬ F i) (hn : NoEnts F w) : LAt w' l S :=
  ⟨ho.heap h.cell (hF _ (.inl rfl)), h.accts.only ho (hF _ (.inr (.inl rfl))), h.holds.only ho (hF _ (.inr (.inr (.inl rfl)))), h.ne, h.posts.only ho (fun b hb => hF b (.inr (.inr (.inr hb)))) hn⟩
theorem LAt.quiet (h : LAt w l S) {w' : World} (ho : Only (fun _ => False) w w') : LAt w' l S := h.only ho (fun _ _ => id) (fun _ _ _ h => h.elim)
theorem LAt.F_lt (h : LAt w l S) {i : Nat} (hi : l.F i) : i < w.heap.size := by
  rcases hi with rfl | rfl | rfl | hi
  · exact h.lt
  · exact h.accts.lt
  · exact h.holds.lt
  · obtain ⟨c, hc⟩ := h.pv_block hi
    exact (Array.getElem?_eq_some_iff.1 hc).1
/-- A store into a block of somebody else's. -/
theorem LAt.store (h : LAt w l S) {p : Addr} (u : Value) (hp : ¬ l.F p.block) {c : Array Value} {t : TypeId} {fr : Nat × Nat} (hb : w.heap[p.block]? = some (.cells c t fr)) (ht : t ≠ 44) : LAt (w.setCell p u) l S :=
  h.only (F := fun i => i = p.block) (Only.setCell (F := fun i => i = p.block) (Only.refl _ _) (fun _ => rfl) u) (fun i hi e => hp (e ▸ hi)) (fun b c' fr' e hc => by
    subst e
    rw [hb] at hc
    injection hc with hc
    injection hc with _ hc
    exact ht hc)
/-- The map of accounts alone has been written. -/
theorem LAt.putA (h : LAt w l S) {w' : World} {A' : List (Key × Acct)} (ho : Only (fun i => i = l.ab) w w') (hm : MapAt ePair eAcct w' l.ab A') : LAt w' l { S with A := A' } :=
  ⟨ho.heap h.cell h.ne_ab, hm, h.holds.only ho (fun e => h.ne e.symm), h.ne, h.posts.only ho (fun b hb e => h.pv_ne.2.1 (e ▸ hb)) (fun b c fr hb => by subst hb; exact fun hc => h.noEnts _ c fr (.inr (.inl rfl)) hc)⟩
/-- The map of holds alone has been written. -/
theorem LAt.putH (h : LAt w l S) {w' : World} {H' : List (ByteArray × HoldD)} (ho : Only (fun i => i = l.hb) w w') (hm : MapAt eStr eHold w' l.hb H') : LAt w' l { S with H := H' } :=
  ⟨ho.heap h.cell h.ne_hb, h.accts.only ho h.ne, hm, h.ne, h.posts.only ho (fun b hb e => h.pv_ne.2.2 (e ▸ hb)) (fun b c fr hb => by subst hb; exact fun hc => h.noEnts _ c fr (.inr (.inr (.inl rfl))) hc)⟩
theorem postCells_snoc {P : List PostM} {vs : List Value} (h : vs.length = P.length) (p : PostM) (v : Value) : postCells (P ++ [p]) (vs ++ [v]) = postCells P vs ++ [.int .i64 p.num, .string p.text, v] := by
  induction P generalizing vs with
  | nil =>
    have : vs = [] := List.eq_nil_of_length_eq_zero (by simpa using h)
    subst this
    rfl
  | cons q r ih =>
    cases vs with
    | nil => simp at h
    | cons u us =>
      simp only [List.length_cons, Nat.add_right_cancel_iff] at h
      simp [postCells, ih h]
theorem PostsAt.snoc {w8 : World} {v1 v' : Value} {P : List PostM} {p : PostM} {evs : List Value} (hel : evs.length = P.length) (hents : ∀ (j : Nat) (p : PostM) (v : Value), P[j]? = some p → evs[j]? = some v → w8.ownsRow 0 44 3 v p.ents.length (entCells p.ents))
    (hnew : w8.ownsRow 0 44 3 v' p.ents.length (entCells p.ents)) (hown : w8.ownsRow 0 46 3 v1 (P.length + 1) (postCells P evs ++ [.int .i64 p.num, .string p.text, v'])) : PostsAt w8 v1 (P ++ [p]) := by
  refine ⟨evs ++ [v'], by simp [hel], ?_, fun j q v hj hv => ?_⟩
  · rw [postCells_snoc hel]
    simpa using hown
  · by_cases hlt : j < P.length
    · rw [List.getElem?_append_left hlt] at hj
      rw [List.getElem?_append_left (by omega)] at hv
      exact hents j q v hj hv
    · rw [List.getElem?_append_right (by omega)] at hj
      rw [List.getElem?_append_right (by omega), hel] at hv
      by_cases h0 : j - P.length = 0
      · rw [h0] at hj hv
        simp at hj hv
        subst hj; subst hv
        exact hnew
      · obtain ⟨m, hm⟩ : ∃ m, j - P.length = m + 1 := ⟨j - P.length - 1, by omega⟩
        rw [hm] at hj
        simp at hj
theorem heap_setCell_at {w : World} {b i : Nat} {c : Array Value} {t : TypeId} {fr : Nat × Nat} (h : w.heap[b]? = some (.cells c t fr)) (u : Value) : (w.setCell ⟨b, i, none⟩ u).heap[b]? = some (.cells (c.setIfInBounds i u) t fr) := by
  simp [World.setCell, Array.getElem?_modify, h]
/-- One post more: the row of posts has grown, and the ledger's own cell has been told. -/
theorem LAt.putP (h : LAt w l S) {w' : World} {v1 : Value} {P' : List PostM} (ho : Only (fun i => l.pv.ownBlock = some i) w w') (hp : PostsAt w' v1 P') (hv : v1.ownBlock = l.pv.ownBlock ∨ ∀ b, v1.ownBlock = some b → w.heap.size ≤ b) :
    LAt (w'.setCell ⟨l.lb, 2, none⟩ v1) { l with pv := v1 } { S with P := P' } := by
  have hc : w'.heap[l.lb]? = some (.cells #[.string l.own, .map (some l.ab), l.pv, .map (some l.hb)] 75 (0, 0)) := ho.heap h.cell h.pv_ne.1
  have ho2 : Only (fun i => i = l.lb) w' (w'.setCell ⟨l.lb, 2, none⟩ v1) := Only.setCell (F := fun i => i = l.lb) (Only.refl _ _) (fun _ => rfl) v1
  have hvl : v1.ownBlock ≠ some l.lb := by
    rcases hv with hv | hv
    · rw [hv]; exact h.pv_ne.1
    · exact fun e => by have := hv _ e; have := h.lt; omega
  refine ⟨?_, (h.accts.only ho h.pv_ne.2.1).only ho2 (fun e => h.ne_ab e.symm), (h.holds.only ho h.pv_ne.2.2).only ho2 (fun e => h.ne_hb e.symm), h.ne, hp.only ho2 (fun b hb e => hvl (e ▸ hb)) (fun b c fr e hh => ?_)⟩
  · have := heap_setCell_at (i := 2) hc v1
    simpa using this
  · subst e
    rw [hc] at hh
    injection hh with hh
    injection hh with _ ht
    exact absurd ht (by decide)
end

theorem look_acct {w : World} {b : Nat} {A : List (Key × Acct)} (h : MapAt ePair eAcct w b A) (k1 k2 : ByteArray) (c : Bool) :
    (Instr.lookup 72 (.map (some b)) (.agg #[.string k1, .string k2]) c).run Try.prog w = .ok (if c then .tuple #[eAcct (acctOr A (k1, k2)), .bool (aget A (k1, k2)).isSome] else eAcct (acctOr A (k1, k2))) w := by
  have := h.lookup kOps Try.underlying72 (zero70 w) (k1, k2) c
  have e : ((aget A (k1, k2)).map eAcct).getD (.agg #[.int .i64 0, .int .i64 0, .int .i64 0]) = eAcct (acctOr A (k1, k2)) := by
    unfold acctOr
    cases aget A (k1, k2) <;> rfl
  rw [e] at this
  exact this
theorem look_hold {w : World} {b : Nat} {H : List (ByteArray × HoldD)} (h : MapAt eStr eHold w b H) (k : ByteArray) (c : Bool) :
    (Instr.lookup 73 (.map (some b)) (.string k) c).run Try.prog w = .ok (if c then .tuple #[eHold (holdOr H k), .bool (aget H k).isSome] else eHold (holdOr H k)) w := by
  have := h.lookup sOps Try.underlying73 (zero66 w) k c
  have e : ((aget H k).map eHold).getD (.agg #[.string ByteArray.empty, .string ByteArray.empty, .string ByteArray.empty, .int .i64 0]) = eHold (holdOr H k) := by
    unfold holdOr
    cases aget H k <;> rfl
  rw [e] at this
  exact this
end Go.Proofs.Ytoeokakcdfdjkaa
