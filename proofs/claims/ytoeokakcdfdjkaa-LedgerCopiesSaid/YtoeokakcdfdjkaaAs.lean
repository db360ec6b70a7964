/- THE LEDGER, PURE: what the first posts alone make. -/
import Derived.Test.YtoeokakcdfdjkaaBk
namespace Go.Proofs.Ytoeokakcdfdjkaa
open Go.RowKit
/-- Each account at its floor, with a balance. -/
def atM (A0 : List (Key × Acct)) (f : Key → Int) : List (Key × Acct) := A0.map fun p => (p.1, ⟨p.2.floor, f p.1, 0⟩)
theorem akeys_at (A0 : List (Key × Acct)) (f : Key → Int) : akeys (atM A0 f) = akeys A0 := by simp [akeys, atM]
theorem atM_snoc (A0 : List (Key × Acct)) (p : Key × Acct) (f : Key → Int) : atM (A0 ++ [p]) f = atM A0 f ++ [(p.1, ⟨p.2.floor, f p.1, 0⟩)] := by simp [atM]
theorem aget_at (A0 : List (Key × Acct)) (f : Key → Int) (k : Key) : aget (atM A0 f) k = (aget A0 k).map fun a => ⟨a.floor, f k, 0⟩ := by
  induction A0 with
  | nil => rfl
  | cons p r ih =>
    obtain ⟨j, a⟩ := p
    by_cases h : j = k
    · subst h; simp [atM, aget]
    · simp only [atM, List.map_cons, aget, h, if_false]
      exact ih
theorem atM_put {A0 : List (Key × Acct)} (hn : (akeys A0).Nodup) {f : Key → Int} {k : Key} (hk : k ∈ akeys A0) (n : Int) : aput (atM A0 f) k ⟨(acctOr (atM A0 f) k).floor, n, (acctOr (atM A0 f) k).held⟩ = atM A0 fun j => if k = j then n else f j := by
  obtain ⟨v, hv⟩ := aget_some hk
  have ha : aget (atM A0 f) k = some ⟨v.floor, f k, 0⟩ := by rw [aget_at, hv]; rfl
  rw [acctOr_of ha]
  unfold atM
  refine map_put hn (fun j a => (⟨a.floor, f j, 0⟩ : Acct)) (fun j a => (⟨a.floor, if k = j then n else f j, 0⟩ : Acct)) hk (fun j hj b => ?_) (fun b hb => ?_)
  · simp [Ne.symm hj]
  · rw [hv] at hb
    injection hb with hb
    subst hb
    simp
theorem acct_at {A0 : List (Key × Acct)} {f : Key → Int} {k : Key} (hk : k ∈ akeys A0) : (acctOr (atM A0 f) k).bal = f k ∧ (acctOr (atM A0 f) k).held = 0 := by
  obtain ⟨v, hv⟩ := aget_some hk
  have ha : aget (atM A0 f) k = some ⟨v.floor, f k, 0⟩ := by rw [aget_at, hv]; rfl
  rw [acctOr_of ha]
  exact ⟨rfl, rfl⟩
/-- How many posts: within what there is. -/
def within (n : Int) (m : Nat) : Nat := min n.toNat m
theorem within_le (n : Int) (m : Nat) : within n m ≤ m := Nat.min_le_right _ _
def asM (A0 : List (Key × Acct)) (P : List PostM) : Led := ⟨atM A0 (postSum P), P, []⟩
section
variable {S : Led} {A0 : List (Key × Acct)}
theorem asM_good (G : Good S) (B : Books S) (hp : A0.Perm S.A) (n : Nat) : Good (asM A0 (S.P.take n)) := by
  have hn : (akeys A0).Nodup := (hp.map _).nodup_iff.2 G.nodA
  refine ⟨by show (akeys (atM A0 _)).Nodup; rw [akeys_at]; exact hn, by simp [akeys, asM], fun p hp' => ?_, by simp [asM], fun p hp' => ?_⟩
  · obtain ⟨q, hq, rfl⟩ := List.mem_map.1 hp'
    have hq' := hp.mem_iff.1 hq
    have h1 := G.acct q hq'
    have h2 := B.pre n q hq'
    simp only [Acct.free] at *
    omega
  · obtain ⟨q, hq, rfl⟩ := List.mem_map.1 hp'
    rfl
theorem take_take_min {α : Type} (l : List α) (n m : Nat) : (l.take n).take m = l.take (min m n) := by rw [List.take_take]
theorem asM_books (B : Books S) (hp : A0.Perm S.A) (n : Nat) : Books (asM A0 (S.P.take n)) := by
  refine ⟨fun p hp' => ?_, fun p hp' e he => ?_, fun p hp' => B.cur p (List.mem_of_mem_take hp'), fun p hp' => B.len p (List.mem_of_mem_take hp'), fun m p hp' => ?_, fun i p hi => ?_⟩
  · obtain ⟨q, hq, rfl⟩ := List.mem_map.1 hp'
    rfl
  · have := B.keys p (List.mem_of_mem_take hp') e he
    refine ⟨?_, this.2⟩
    show e.key ∈ akeys (atM A0 _)
    rw [akeys_at]
    exact (hp.map _).mem_iff.2 this.1
  · obtain ⟨q, hq, rfl⟩ := List.mem_map.1 hp'
    show q.2.floor ≤ postSum ((S.P.take n).take m) q.1 ∧ postSum ((S.P.take n).take m) q.1 ≤ maxA
    rw [take_take_min]
    exact B.pre _ q (hp.mem_iff.1 hq)
  · have hi' : (S.P.take n)[i]? = some p := hi
    rw [List.getElem?_take] at hi'
    split at hi'
    · exact B.num i p hi'
    · cases hi'
end
end Go.Proofs.Ytoeokakcdfdjkaa
