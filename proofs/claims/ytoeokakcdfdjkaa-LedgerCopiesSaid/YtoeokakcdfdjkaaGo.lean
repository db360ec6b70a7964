/- THE LEDGER, PURE: every act keeps what holds of a ledger. -/
import Derived.Test.YtoeokakcdfdjkaaWk
namespace Go.Proofs.Ytoeokakcdfdjkaa
open Go.RowKit

section
variable {K V : Type} [DecidableEq K]
theorem mem_put {l : List (K × V)} (hn : (akeys l).Nodup) {x : K} {v : V} {p : K × V} (h : p ∈ aput l x v) : p = (x, v) ∨ (p.1 ≠ x ∧ p ∈ l) := by
  have h1 := aget_of_mem (nodup_put hn x v) (x := p.1) (v := p.2) h
  rw [aget_put] at h1
  split at h1
  · rename_i e
    injection h1 with h1
    exact .inl (by obtain ⟨a, b⟩ := p; simp only at e h1; rw [e, h1])
  · rename_i e
    exact .inr ⟨e, aget_mem h1⟩
theorem mem_del {l : List (K × V)} (hn : (akeys l).Nodup) {x : K} {p : K × V} (h : p ∈ adel l x) : p.1 ≠ x ∧ p ∈ l := by
  have h1 := aget_of_mem (nodup_del hn x) (x := p.1) (v := p.2) h
  rw [aget_del hn] at h1
  split at h1
  · cases h1
  · rename_i e
    exact ⟨e, aget_mem h1⟩
theorem aget_some {l : List (K × V)} {x : K} (h : x ∈ akeys l) : ∃ v, aget l x = some v := by
  cases hv : aget l x with
  | none => exact absurd h (aget_none.1 hv)
  | some v => exact ⟨v, rfl⟩
end
def amtAt (h : HoldD) (k : Key) : Int := if h.key = k then h.amt else 0
theorem heldOf_app (a b : List (ByteArray × HoldD)) (k : Key) : heldOf (a ++ b) k = heldOf a k + heldOf b k := by simp [heldOf]
theorem heldOf_cons (p : ByteArray × HoldD) (b : List (ByteArray × HoldD)) (k : Key) : heldOf (p :: b) k = amtAt p.2 k + heldOf b k := by simp [heldOf, amtAt]
theorem heldOf_nil (k : Key) : heldOf [] k = 0 := rfl
theorem heldOf_new {H : List (ByteArray × HoldD)} {i : ByteArray} (h : aget H i = none) (u : HoldD) (k : Key) : heldOf (aput H i u) k = heldOf H k + amtAt u k := by
  rw [aput_new h, heldOf_app, heldOf_cons, heldOf_nil]; simp
theorem heldOf_put {H : List (ByteArray × HoldD)} {i : ByteArray} {v : HoldD} (h : aget H i = some v) (u : HoldD) (k : Key) : heldOf (aput H i u) k = heldOf H k - amtAt v k + amtAt u k := by
  obtain ⟨a, b, h1, _, h3, _⟩ := aget_split h
  rw [h3 u, h1]
  simp only [heldOf_app, heldOf_cons]; omega
theorem heldOf_del {H : List (ByteArray × HoldD)} {i : ByteArray} {v : HoldD} (h : aget H i = some v) (k : Key) : heldOf (adel H i) k = heldOf H k - amtAt v k := by
  obtain ⟨a, b, h1, _, _, h4⟩ := aget_split h
  rw [h4, h1]
  simp only [heldOf_app, heldOf_cons]; omega
theorem heldOf_zero {H : List (ByteArray × HoldD)} {k : Key} (h : ∀ p ∈ H, p.2.key ≠ k) : heldOf H k = 0 := by
  induction H with
  | nil => rfl
  | cons p r ih => rw [heldOf_cons, ih fun q hq => h q (by simp [hq])]; simp [amtAt, h p (by simp)]
theorem maxA_eq : maxA = 1099511627776 := rfl
theorem Good.empty : Good ⟨[], [], []⟩ := ⟨by simp [akeys], by simp [akeys], by simp, by simp, by simp⟩
section
variable {S : Led}
theorem Good.open (G : Good S) (a c : ByteArray) (fl : Int) : Good (openM S a c fl).1 := by
  unfold openM
  split
  · exact G
  · split
    · exact G
    · split
      · exact G
      · split
        · exact G
        · rename_i h1 h2 h3 h4
          have hno : aget S.A (a, c) = none := by simpa using h3
          refine ⟨nodup_put G.nodA _ _, G.nodH, fun p hp => ?_, fun p hp => ?_, fun p hp => ?_⟩
          · rcases mem_put G.nodA hp with rfl | ⟨_, hp⟩
            · simp only [Acct.free, maxA_eq] at *; omega
            · exact G.acct p hp
          · have := G.hold p hp
            exact ⟨this.1, this.2.1, this.2.2.1, mem_keys_put.2 (.inr this.2.2.2)⟩
          · rcases mem_put G.nodA hp with rfl | ⟨_, hp⟩
            · exact (heldOf_zero fun q hq e => aget_none.1 hno (by have := (G.hold q hq).2.2.2; rw [e] at this; exact this)).symm
            · exact G.held p hp
theorem acctOr_mem (G : Good S) {p : Key × Acct} (hp : p ∈ S.A) : acctOr S.A p.1 = p.2 := acctOr_of (aget_of_mem G.nodA hp)
/-- A hold's account held more, by what the holds say. -/
theorem Good.keep (G : Good S) {k : Key} {more : Int} {H' : List (ByteArray × HoldD)} (hk : k ∈ akeys S.A) (hn : (akeys H').Nodup) (hf : more ≤ (acctOr S.A k).free)
    (hh : ∀ p ∈ H', p.2.id = p.1 ∧ 1 ≤ p.2.amt ∧ p.2.amt ≤ maxA ∧ p.2.key ∈ akeys S.A) (hs : ∀ j, heldOf H' j = heldOf S.H j + if k = j then more else 0) : Good { S with A := keepL S.A k more, H := H' } := by
  obtain ⟨v, hv⟩ := aget_some hk
  have hm := aget_mem hv
  have ha := acctOr_of hv
  rw [ha] at hf
  refine ⟨nodup_put G.nodA _ _, hn, fun p hp => ?_, fun p hp => ?_, fun p hp => ?_⟩
  · rcases mem_put G.nodA hp with rfl | ⟨_, hp⟩
    · have := G.acct _ hm
      rw [ha]
      simp only [Acct.free] at *; omega
    · exact G.acct p hp
  · have := hh p hp
    exact ⟨this.1, this.2.1, this.2.2.1, mem_keys_put.2 (.inr this.2.2.2)⟩
  · rcases mem_put G.nodA hp with rfl | ⟨hne, hp⟩
    · have := G.held _ hm
      simp only at this
      rw [hs, if_pos rfl, ha, ← this]
    · rw [hs, if_neg (fun e => hne e.symm), G.held p hp]; simp
theorem Good.holds (G : Good S) (i a c : ByteArray) (n : Int) : Good (holdM S i a c n).1 := by
  unfold holdM
  split
  · exact G
  · split
    · exact G
    · split
      · exact G
      · split
        · exact G
        · split
          · exact G
          · split
            · exact G
            · rename_i h1 h2 h3 h4 h5 h6
              have hno : aget S.H i = none := by simpa using h2
              have hk : (a, c) ∈ akeys S.A := isSome_mem (by cases hx : (aget S.A (a, c)).isSome <;> simp [hx] at h3 ⊢)
              refine G.keep (k := (a, c)) (more := n) hk (nodup_put G.nodH _ _) (by omega) (fun p hp => ?_) (fun j => ?_)
              · rcases mem_put G.nodH hp with rfl | ⟨_, hp⟩
                · exact ⟨rfl, by show 1 ≤ n; omega, by show n ≤ maxA; omega, hk⟩
                · exact G.hold p hp
              · rw [heldOf_new hno]
                rfl
theorem Good.less (G : Good S) {i : ByteArray} {hd : HoldD} (hh : aget S.H i = some hd) {n : Int} (h0 : 0 ≤ n) (h1 : n ≤ hd.amt) : Good (lessM S hd n) := by
  have hg := G.hold _ (aget_mem hh)
  simp only at hg
  unfold lessM
  have hid : hd.id = i := hg.1
  rw [hid]
  have hfr := (G.bounds hd.key).2.2.2.2.2.2
  refine G.keep (k := hd.key) (more := -n) hg.2.2.2 ?_ (by omega) (fun p hp => ?_) (fun j => ?_)
  · split
    · exact nodup_del G.nodH _
    · exact nodup_put G.nodH _ _
  · split at hp
    · exact G.hold p (mem_del G.nodH hp).2
    · rcases mem_put G.nodH hp with rfl | ⟨_, hp⟩
      · exact ⟨rfl, by show 1 ≤ hd.amt - n; omega, by show hd.amt - n ≤ maxA; have := hg.2.2.1; omega, hg.2.2.2⟩
      · exact G.hold p hp
  · split
    · rw [heldOf_del hh]
      unfold amtAt
      split <;> omega
    · rw [heldOf_put hh]
      unfold amtAt
      simp only [HoldD.key]
      by_cases hj : (hd.acct, hd.cur) = j <;> simp only [hj, if_true, if_false] <;> omega
theorem Good.book (G : Good S) (t : ByteArray) (x : List Ent) {D : List (Key × Int)} (hD : ∀ p ∈ S.A, p.2.bal + (aget D p.1).getD 0 ≤ maxA ∧ 0 ≤ p.2.free + (aget D p.1).getD 0) : Good (bookM S t x D) := by
  refine ⟨by show (akeys (addAll S.A D)).Nodup; rw [akeys_addAll]; exact G.nodA, G.nodH, fun p hp => ?_, fun p hp => ?_, fun p hp => ?_⟩
  · obtain ⟨q, hq, rfl⟩ := List.mem_map.1 hp
    have h1 := hD q hq
    have h2 := G.acct q hq
    simp only [Acct.free] at *
    omega
  · show p.2.id = p.1 ∧ 1 ≤ p.2.amt ∧ p.2.amt ≤ maxA ∧ p.2.key ∈ akeys (addAll S.A D)
    rw [akeys_addAll]
    exact G.hold p hp
  · obtain ⟨q, hq, rfl⟩ := List.mem_map.1 hp
    exact G.held q hq
theorem Good.post (G : Good S) (t : ByteArray) (x : List Ent) : Good (postM S t x).1 := by
  unfold postM
  split
  · exact G
  · split
    · exact G
    · split
      · exact G
      · rename_i h1 h2 h3
        refine G.book t x fun p hp => ?_
        have ha := acctOr_mem G hp
        have hg := G.acct p hp
        cases hd : aget (chgM x) p.1 with
        | none => simp only [Option.getD_none, Acct.free] at *; omega
        | some v =>
          have hm := aget_mem hd
          simp only [Option.getD_some]
          constructor
          · have : ¬ ((acctOr S.A p.1).bal + v > maxA) := fun hh => h2 (List.any_eq_true.2 ⟨_, hm, decide_eq_true hh⟩)
            rw [ha] at this; omega
          · have : ¬ (v < 0 ∧ (acctOr S.A p.1).free < -v) := fun hh => h3 (List.any_eq_true.2 ⟨_, hm, decide_eq_true hh⟩)
            rw [ha] at this; omega
theorem Good.lets (G : Good S) (i : ByteArray) : Good (letM S i).1 := by
  unfold letM
  split
  · rename_i h
    obtain ⟨hd, hh⟩ := Option.isSome_iff_exists.1 h
    rw [holdOr_of hh]
    have := G.hold _ (aget_mem hh)
    simp only at this
    exact G.less hh (by omega) (by omega)
  · exact G
theorem Good.take (G : Good S) (i to : ByteArray) (n : Int) : Good (takeM S i to n).1 := by
  unfold takeM
  simp only
  split
  · exact G
  · split
    · exact G
    · split
      · exact G
      · split
        · exact G
        · split
          · exact G
          · rename_i h1 h2 h3 h4 h5
            have hs : (aget S.H i).isSome = true := by
              cases hx : (aget S.H i).isSome <;> simp [hx] at h1 ⊢
            obtain ⟨hd, hh⟩ := Option.isSome_iff_exists.1 hs
            rw [holdOr_of hh] at *
            have hg := G.hold _ (aget_mem hh)
            simp only at hg
            have G2 := G.less hh (n := n) (by omega) (by omega)
            refine G2.book _ _ fun p hp => ?_
            have hg2 := G2.acct p hp
            have ha := acctOr_mem G2 hp
            have hA : acctOr (lessM S hd n).A p.1 = if p.1 = hd.key then { acctOr S.A hd.key with held := (acctOr S.A hd.key).held + -n } else acctOr S.A p.1 := acctOr_keepL S.A hd.key (-n) p.1
            rw [ha] at hA
            simp only [aget]
            by_cases e1 : (hd.acct, hd.cur) = p.1
            · rw [if_pos e1]
              have e1' : p.1 = hd.key := e1.symm
              rw [if_pos e1'] at hA
              have hb := G.bounds hd.key
              rw [hA]
              simp only [Option.getD_some, Acct.free] at *
              omega
            · rw [if_neg e1]
              have e1' : ¬ p.1 = hd.key := fun e => e1 e.symm
              rw [if_neg e1'] at hA
              by_cases e2 : (to, hd.cur) = p.1
              · rw [if_pos e2]
                rw [← e2] at hA
                rw [hA]
                rw [hA] at hg2
                simp only [Option.getD_some, Acct.free] at *
                omega
              · rw [if_neg e2]
                simp only [Option.getD_none, Acct.free] at *
                omega
theorem Good.do (G : Good S) (x : ActM) : Good (doM S x).1 := by
  unfold doM
  split
  · exact G.open _ _ _
  · split
    · exact G.post _ _
    · split
      · exact G.holds _ _ _ _
      · split
        · exact G.take _ _ _
        · exact G.lets _
end
end Go.Proofs.Ytoeokakcdfdjkaa
