/- THE LEDGER, PURE: what each of its functions makes of accounts, posts and holds. -/
import Derived.Shelf.GgClosure.StringsIndexFuncTop
import Derived.Test.YtoeokakcdfdjkaaBase
namespace Go.Proofs.Ytoeokakcdfdjkaa
open Go.RowKit

structure Acct where
  floor : Int
  bal : Int
  held : Int
structure HoldD where
  id : ByteArray
  acct : ByteArray
  cur : ByteArray
  amt : Int
structure Ent where
  acct : ByteArray
  cur : ByteArray
  amt : Int
structure PostM where
  num : Int
  text : ByteArray
  ents : List Ent
abbrev Key := ByteArray × ByteArray
structure Led where
  A : List (Key × Acct)
  P : List PostM
  H : List (ByteArray × HoldD)

def Ent.key (e : Ent) : Key := (e.acct, e.cur)
def HoldD.key (h : HoldD) : Key := (h.acct, h.cur)
def maxA : Int := 1099511627776
def acctOr (A : List (Key × Acct)) (k : Key) : Acct := (aget A k).getD ⟨0, 0, 0⟩
def holdOr (H : List (ByteArray × HoldD)) (k : ByteArray) : HoldD := (aget H k).getD ⟨ByteArray.empty, ByteArray.empty, ByteArray.empty, 0⟩
def Acct.free (a : Acct) : Int := a.bal - a.held - a.floor

def oddName (r : Nat) : Bool := (decide ((r : Int) < 97) || decide ((r : Int) > 122)) && (decide ((r : Int) < 48) || decide ((r : Int) > 57)) && ((r : Int) != 45) && ((r : Int) != 58)
def oddCur (r : Nat) : Bool := decide ((r : Int) < 65) || decide ((r : Int) > 90)

def keepL (A : List (Key × Acct)) (k : Key) (more : Int) : List (Key × Acct) := aput A k { acctOr A k with held := (acctOr A k).held + more }
/-- Every account by its change. -/
def addAll (A : List (Key × Acct)) (D : List (Key × Int)) : List (Key × Acct) := A.map fun p => (p.1, { p.2 with bal := p.2.bal + (aget D p.1).getD 0 })

def nameB (s : ByteArray) : Bool := decide (1 ≤ s.size) && decide (s.size ≤ 32) && decide (Lib.idxFunc oddName true s < 0)
def curB (s : ByteArray) : Bool := decide (s.size = 3) && decide (Lib.idxFunc oddCur true s < 0)
def openM (S : Led) (a c : ByteArray) (fl : Int) : Led × Int :=
  if !nameB a || !curB c then (S, 1) else if fl < -maxA ∨ fl > 0 then (S, 3) else if (aget S.A (a, c)).isSome then (S, 5) else if 4096 ≤ S.A.length then (S, 7) else ({ S with A := aput S.A (a, c) ⟨fl, 0, 0⟩ }, 0)
def holdM (S : Led) (id a c : ByteArray) (n : Int) : Led × Int :=
  if !nameB id then (S, 1) else if (aget S.H id).isSome then (S, 5) else if !(aget S.A (a, c)).isSome then (S, 4) else if n < 1 ∨ n > maxA then (S, 3) else if (acctOr S.A (a, c)).free < n then (S, 10) else if 4096 ≤ S.H.length then (S, 7)
  else ({ S with H := aput S.H id ⟨id, a, c, n⟩, A := keepL S.A (a, c) n }, 0)
def lessM (S : Led) (h : HoldD) (n : Int) : Led :=
  { S with A := keepL S.A h.key (-n), H := if h.amt - n = 0 then adel S.H h.id else aput S.H h.id { h with amt := h.amt - n } }
def bookM (S : Led) (text : ByteArray) (x : List Ent) (D : List (Key × Int)) : Led := { S with A := addAll S.A D, P := S.P ++ [⟨(S.P.length : Int) + 1, text, x⟩] }
def takeText (id : ByteArray) : ByteArray := ⟨#[116, 97, 107, 101, 32]⟩ ++ id
def takeM (S : Led) (id to : ByteArray) (n : Int) : Led × Int :=
  let h := holdOr S.H id
  if !(aget S.H id).isSome || !(aget S.A (to, h.cur)).isSome then (S, 4) else if to = h.acct then (S, 1) else if n < 1 ∨ n > h.amt then (S, 3) else if 4096 ≤ S.P.length then (S, 7) else if (acctOr S.A (to, h.cur)).bal + n > maxA then (S, 3)
  else (bookM (lessM S h n) (takeText id) [⟨h.acct, h.cur, -n⟩, ⟨to, h.cur, n⟩] [((h.acct, h.cur), -n), ((to, h.cur), n)], 0)
def letM (S : Led) (id : ByteArray) : Led × Int := if (aget S.H id).isSome then (lessM S (holdOr S.H id) (holdOr S.H id).amt, 0) else (S, 4)
def chgM (x : List Ent) : List (Key × Int) := x.foldl (fun m e => aput m e.key ((aget m e.key).getD 0 + e.amt)) []
def sumM (x : List Ent) : List (ByteArray × Int) := x.foldl (fun m e => aput m e.cur ((aget m e.cur).getD 0 + e.amt)) []
def wrongM (S : Led) (text : ByteArray) (x : List Ent) : Int :=
  if 4096 < text.size ∨ x.length < 1 ∨ 64 < x.length then 1 else if 4096 ≤ S.P.length then 7 else if x.any (fun e => !(aget S.A e.key).isSome) then 4 else if x.any (fun e => decide (e.amt < -maxA ∨ e.amt > maxA)) then 3
  else if (sumM x).any (fun p => decide (p.2 ≠ 0)) then 2 else 0
def postM (S : Led) (text : ByteArray) (x : List Ent) : Led × Int × Int :=
  if wrongM S text x ≠ 0 then (S, 0, wrongM S text x) else if (chgM x).any (fun p => decide ((acctOr S.A p.1).bal + p.2 > maxA)) then (S, 0, 3) else if (chgM x).any (fun p => decide (p.2 < 0 ∧ (acctOr S.A p.1).free < -p.2)) then (S, 0, 10)
  else (bookM S text x (chgM x), (S.P.length : Int) + 1, 0)

/-- What holds of a ledger behind whatever acts. -/
def heldOf (H : List (ByteArray × HoldD)) (k : Key) : Int := (H.map fun p => if p.2.key = k then p.2.amt else 0).sum
structure Good (S : Led) : Prop where
  nodA : (akeys S.A).Nodup
  nodH : (akeys S.H).Nodup
  acct : ∀ p ∈ S.A, -maxA ≤ p.2.floor ∧ p.2.floor ≤ 0 ∧ p.2.bal ≤ maxA ∧ 0 ≤ p.2.free
  hold : ∀ p ∈ S.H, p.2.id = p.1 ∧ 1 ≤ p.2.amt ∧ p.2.amt ≤ maxA ∧ p.2.key ∈ akeys S.A
  held : ∀ p ∈ S.A, p.2.held = heldOf S.H p.1

theorem acctOr_of {A : List (Key × Acct)} {k : Key} {a : Acct} (h : aget A k = some a) : acctOr A k = a := by simp [acctOr, h]
theorem acctOr_none {A : List (Key × Acct)} {k : Key} (h : aget A k = none) : acctOr A k = ⟨0, 0, 0⟩ := by simp [acctOr, h]
theorem holdOr_of {A : List (ByteArray × HoldD)} {k : ByteArray} {a : HoldD} (h : aget A k = some a) : holdOr A k = a := by simp [holdOr, h]
theorem sum_nonneg (l : List Int) (h : ∀ x ∈ l, 0 ≤ x) : 0 ≤ l.sum := by
  induction l with
  | nil => simp
  | cons x r ih =>
    have h1 := h x (by simp)
    have h2 := ih fun y hy => h y (by simp [hy])
    simp; omega
theorem heldOf_nonneg {S : Led} (G : Good S) (k : Key) : 0 ≤ heldOf S.H k := by
  refine sum_nonneg _ fun x hx => ?_
  obtain ⟨p, hp, rfl⟩ := List.mem_map.1 hx
  have := (G.hold p hp).2.1
  split <;> omega
theorem Good.bounds {S : Led} (G : Good S) (k : Key) : -maxA ≤ (acctOr S.A k).floor ∧ (acctOr S.A k).floor ≤ 0 ∧ -maxA ≤ (acctOr S.A k).bal ∧ (acctOr S.A k).bal ≤ maxA ∧ 0 ≤ (acctOr S.A k).held ∧ (acctOr S.A k).held ≤ 2 * maxA ∧ 0 ≤ (acctOr S.A k).free := by
  cases h : aget S.A k with
  | none => rw [acctOr_none h]; simp [maxA, Acct.free]
  | some a =>
    rw [acctOr_of h]
    have hm := aget_mem h
    have h1 := G.acct _ hm
    have h2 := G.held _ hm
    have h3 := heldOf_nonneg G k
    simp only [Acct.free] at *
    have hM : maxA = 1099511627776 := rfl
    omega
end Go.Proofs.Ytoeokakcdfdjkaa
