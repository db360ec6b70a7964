/- ROWS OF CLAIMANTS, ONE BEHIND THE OTHER: append of a slice that came in, and of a part of it. -/
import Derived.Test.YteecfjkljmmecaaGreatLb
import Derived.Test.YteecfjkljmmecaaGreatLt
namespace Go.Proofs.YteecfjkljmmecaaGreat
open Go.RowKit Go.Sort Go.Shelf
section
variable {w : World} {ops : Array Oper} {rest : List Oper} {o : Oper} {a : Act} {Q : Exit → Act → World → Prop}
/-- append(row of claimants of the call's own, claimants that read). -/
theorem wpList_append_clms (hgd : o.guard = none) (s x : Operand) (ho : o.op = .call { callee := .builtin .append, args := #[s, x], argTypes := #[24, 24] }) {base : Nat} {v xv : Value} {ps ys : List Clm} (hs : a.eval s = v)
    (hown : w.ownsRow base 23 5 v ps.length (ps.flatMap cEnc)) (hx : a.eval x = xv) (hr : ReadsC w xv ys) (hl : ps.length + ys.length ≤ 100000) (hbase : base ≤ w.heap.size)
    (h : ∀ v' w', w'.ownsRow base 23 5 v' (ps ++ ys).length ((ps ++ ys).flatMap cEnc) → w.grownBy w' v.ownBlock → (v'.ownBlock = v.ownBlock ∨ v'.ownBlock = some w.heap.size) → wpList Tryz.prog ops Q rest (a.put o.dst v') w') : wpList Tryz.prog ops Q (o :: rest) a w := by
  obtain ⟨i0, hi, hz0, hz1, hz2⟩ := info_parts info23
  obtain ⟨A, c, rfl, hcl⟩ := hr
  have key : ∃ v' w', (Builtin.append_ #[24, 24] o.type #[v, .slice A ys.length c]).run Tryz.prog w = .ok v' w' ∧ w'.ownsRow base 23 5 v' (ps ++ ys).length ((ps ++ ys).flatMap cEnc) ∧ w.grownBy w' v.ownBlock ∧ (v'.ownBlock = v.ownBlock ∨ v'.ownBlock = some w.heap.size) := by
    rw [List.length_append, List.flatMap_append]
    rcases A with _ | ad
    · have h0 : ys = [] := by
        rcases Nat.eq_zero_or_pos ys.length with h0 | h0
        · exact List.eq_nil_of_length_eq_zero h0
        · obtain ⟨b, off, hA, _⟩ := hcl h0; cases hA
      subst h0
      refine ⟨v, w, ?_, by simpa using hown, ⟨rfl, rfl, rfl, Nat.le_refl _, fun _ _ _ => rfl⟩, .inl rfl⟩
      rcases hown.2 with ⟨rfl, _⟩ | ⟨g, cap, cur, rfl, _, _, hnc, _⟩
      · simp [Builtin.append_, run_underlying Tryz.underlying24, sizeOf, typeInfo, hi, Builtin.lenOf, Builtin.firstCells]
      · simp [Builtin.append_, run_underlying Tryz.underlying24, sizeOf, typeInfo, hi, Builtin.lenOf, Builtin.firstCells, hnc, storeCells]
    · have hc2 : ∀ j u, (ys.flatMap cEnc)[j]? = some u → w.cell? (ad.add j) = some u := by
        intro j u hu
        rcases Nat.eq_zero_or_pos ys.length with h0 | h0
        · have h0' : ys = [] := List.eq_nil_of_length_eq_zero (by omega)
          subst h0'
          simp at hu
        · obtain ⟨b, off, hA, hc⟩ := hcl h0
          cases hA
          have e : (⟨b, off, none⟩ : Addr).add j = ⟨b, off + j, none⟩ := by unfold Addr.add; split <;> simp_all
          rw [e]
          exact hc j u hu
      obtain ⟨v', w', hrun, h2, h3, _, h5⟩ := run_append_own_at (P := Tryz.prog) w base 24 o.type 23 i0 _ 5 56 Tryz.underlying24 hi hz0 hz1 hz2 rfl (by decide) v ps.length _ hown ad ys.length c _ (flat_len cEnc_len ys) hc2 (cs_one ys) (by unfold maxLen; omega) (by omega) hbase
      exact ⟨v', w', hrun, h2, h3, h5⟩
  obtain ⟨v', w', hrun, h2, h3, h4⟩ := key
  refine wpList_plain hgd fun K' hK' => ?_
  unfold Oper.wp
  simp [execOp, ho, resolve, invoke, builtin, hs, hx, hrun, Result.andThen]
  exact hK' _ _ (h v' w' h2 h3 h4)
end
/-- Where a part of a slice begins. -/
def slA (A : Option Addr) (c k : Nat) : Option Addr := if c = k then A else A.map (·.add (k * 5))
theorem slice_from (W : World) (A : Option Addr) (n c k : Nat) (hk : k ≤ n) : (Instr.sliceAt 24 (.slice A n c) (some (.int .i64 (k : Int))) none none).run Tryz.prog W = .ok (.slice (slA A c k) (n - k) (c - k)) W := by
  have he : Tryz.prog.elem 24 = 23 := by kernel_rfl
  have hu : Tryz.prog.underlying 24 = some (.slice (Tryz.prog.elem 24)) := by rw [he]; exact Tryz.underlying24
  have h := run_slice_l (P := Tryz.prog) W 24 A n c hu .i64 (k : Int) (by omega) (by omega)
  rw [he, size23] at h
  rw [run_sliceAt_slice (P := Tryz.prog) W 24 _ _ _ _ hu, h]
  rfl
/-- A part of a slice that reads: from k on. -/
theorem ReadsC.drop {w : World} {A : Option Addr} {c : Nat} {xs : List Clm} (h : ReadsC w (.slice A xs.length c) xs) (hc : xs.length ≤ c) {k : Nat} (hk : k ≤ xs.length) :
    ReadsC w (.slice (slA A c k) (xs.length - k) (c - k)) (xs.drop k) := by
  obtain ⟨A', c', he, hr⟩ := h
  injection he with e1 e2 e3
  subst e1
  refine ⟨_, c - k, by rw [List.length_drop], fun hp => ?_⟩
  rw [List.length_drop] at hp
  obtain ⟨b, off, rfl, hcell⟩ := hr (by omega)
  have ea : (⟨b, off, none⟩ : Addr).add (k * 5) = ⟨b, off + k * 5, none⟩ := by unfold Addr.add; split <;> simp_all
  refine ⟨b, off + k * 5, by unfold slA; rw [if_neg (by omega), Option.map_some, ea], fun j u hj => ?_⟩
  rw [Nat.add_assoc]
  refine hcell (k * 5 + j) u ?_
  have hflat : ∀ (l : List Clm) (k : Nat), k ≤ l.length → (l.flatMap cEnc)[k * 5 + j]? = ((l.drop k).flatMap cEnc)[j]? := by
    intro l k hk
    conv => lhs; rw [← List.take_append_drop k l, List.flatMap_append]
    rw [List.getElem?_append_right (by rw [flat_len cEnc_len, List.length_take]; omega), flat_len cEnc_len, List.length_take]
    congr 1
    have : min k l.length = k := by omega
    rw [this]
    omega
  rw [hflat xs k hk]
  exact hj
/-- .. and up to k. -/
theorem ReadsC.take {w : World} {A : Option Addr} {n c c' : Nat} {xs : List Clm} (h : ReadsC w (.slice A n c) xs) {k : Nat} (hk : k ≤ xs.length) : ReadsC w (.slice A k c') (xs.take k) := by
  obtain ⟨A', c2, he, hr⟩ := h
  injection he with e1 e2 e3
  subst e1
  have hl : (xs.take k).length = k := by rw [List.length_take]; omega
  refine ⟨A, c', by rw [hl], fun hp => ?_⟩
  rw [hl] at hp
  obtain ⟨b, off, rfl, hcell⟩ := hr (by omega)
  refine ⟨b, off, rfl, fun j u hj => hcell j u ?_⟩
  have : (xs.flatMap cEnc)[j]? = ((xs.take k).flatMap cEnc ++ (xs.drop k).flatMap cEnc)[j]? := by rw [← List.flatMap_append, List.take_append_drop]
  rw [this, List.getElem?_append_left (List.getElem?_eq_some_iff.1 hj).1]
  exact hj
theorem own_spot {w : World} {base n : Nat} {e : TypeId} {size : Nat} {v : Value} {xs : List Value} (h : w.ownsRow base e size v n xs) : ∀ A m c, v = .slice A m c → ∀ a, A = some a → a.spot = none := by
  intro A m c hv a ha
  rcases h.2 with ⟨h1, _⟩ | ⟨g, cap, cur, h1, _⟩
  · rw [h1] at hv; injection hv with e1; rw [← e1] at ha; cases ha
  · rw [h1] at hv; injection hv with e1; rw [← e1] at ha; injection ha with ha; rw [← ha]
/-- Claims that are the same but for their order and number are refused alike. -/
theorem allM_same {xs ys : List Clm} (h : ∀ c, c ∈ xs ↔ c ∈ ys) (h1 : xs.length ≤ 4096) (h2 : ys.length ≤ 4096) : allM ys = allM xs := by
  have e : (ys.any fun c => !mayB c) = (xs.any fun c => !mayB c) := by
    rw [Bool.eq_iff_iff, List.any_eq_true, List.any_eq_true]
    exact ⟨fun ⟨c, hc, hm⟩ => ⟨c, (h c).2 hc, hm⟩, fun ⟨c, hc, hm⟩ => ⟨c, (h c).1 hc, hm⟩⟩
  unfold allM
  rw [e]
  split
  · rfl
  · rw [if_neg (by omega), if_neg (by omega)]
theorem allM_sub {xs ys : List Clm} (h : ∀ c ∈ ys, c ∈ xs) (h0 : allM xs = 0) (h2 : ys.length ≤ 4096) : allM ys = 0 := by
  obtain ⟨_, hm⟩ := allM_ok h0
  unfold allM
  rw [if_neg, if_neg (by omega)]
  intro ha
  obtain ⟨c, hc, hb⟩ := List.any_eq_true.1 ha
  rw [hm c (h c hc)] at hb
  simp at hb
theorem award_any {w : World} {v : Value} {xs : List Clm} (h : ReadsC w v xs) (h0 : ∀ A n c, v = .slice A n c → ∀ a, A = some a → a.spot = none) (hs : Short xs) (hl : xs.length ≤ 4096) (hth : ∀ x ∈ xs, x.thing.size ≤ 1000000) :
    Calls Tryz.prog 22 #[v] w fun e w' => ∃ u, ∃ n : Int, e = .returned (.tuple #[u, .int .i64 n]) ∧ Only (fun _ => False) w w' := by
  by_cases he : allM xs = 0
  · exact (award_yes w h (.inr h0) hs hl he hth).mono fun e w' ⟨v', _, h1, _, _, h3⟩ => ⟨v', _, h1, h3⟩
  · exact (award_no w h hs (by omega) he).mono fun e w' h => ⟨_, _, h.1, h.2⟩
def onlyT (xs : List Clm) (t : ByteArray) (i : Nat) : List Clm := (xs.take i).filter fun c => decide (c.thing = t)
theorem onlyT_step {xs : List Clm} {t : ByteArray} {i : Nat} {c : Clm} (h : xs[i]? = some c) : onlyT xs t (i + 1) = if c.thing = t then onlyT xs t i ++ [c] else onlyT xs t i := by
  unfold onlyT
  rw [List.take_add_one, h, List.filter_append]
  by_cases hc : c.thing = t <;> simp [hc]
theorem onlyT_le (xs : List Clm) (t : ByteArray) (i : Nat) : (onlyT xs t i).length ≤ i := by
  unfold onlyT
  exact Nat.le_trans (List.length_filter_le _ _) (by simp; omega)
theorem onlyT_mem {xs : List Clm} {t : ByteArray} {c : Clm} : c ∈ onlyT xs t xs.length ↔ c ∈ xs ∧ c.thing = t := by
  unfold onlyT
  rw [List.take_length, List.mem_filter, decide_eq_true_iff]
def turnM (xs : List Clm) (k : Nat) : List Clm := ([] ++ xs.drop k ++ xs.take k) ++ xs
theorem turnM_mem {xs : List Clm} {k : Nat} {c : Clm} : c ∈ xs ↔ c ∈ turnM xs k := by
  unfold turnM
  simp only [List.nil_append, List.mem_append]
  exact ⟨.inr, fun h => h.elim (fun h => h.elim List.mem_of_mem_drop List.mem_of_mem_take) id⟩
theorem slice_cap {P : Program} {W : World} {t e : TypeId} {base : Nat} {A : Option Addr} {n c : Nat} (hu : P.underlying t = some (.slice e)) (h : Value.okWide P W .any base t (.slice A n c)) : n ≤ c := by
  unfold Value.okWide at h
  rw [hu] at h
  unfold Cell.okWide at h
  rw [hu] at h
  unfold Cell.ok at h
  rw [hu] at h
  rcases A with _ | a
  · by_cases hn : n = 0
    · omega
    · exfalso
      simp only at h
      split at h <;> simp_all
  · exact h.1
end Go.Proofs.YteecfjkljmmecaaGreat
