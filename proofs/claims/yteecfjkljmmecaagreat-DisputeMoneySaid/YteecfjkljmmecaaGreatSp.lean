/- PURE: what share.Split computes. -/
import Derived.Test.YteecfjkljmmecaaGreatCq
namespace Go.Proofs.YteecfjkljmmecaaGreat
open Go.RowKit Go.Sort Go.Shelf
def sumI (l : List Int) : Int := l.foldr (· + ·) 0
@[simp] theorem sumI_nil : sumI [] = 0 := rfl
@[simp] theorem sumI_cons (x : Int) (l : List Int) : sumI (x :: l) = x + sumI l := rfl
theorem sumI_append (a b : List Int) : sumI (a ++ b) = sumI a + sumI b := by
  induction a with
  | nil => simp
  | cons x r ih => rw [List.cons_append, sumI_cons, sumI_cons, ih]; omega
theorem sumI_take {l : List Int} {i : Nat} {x : Int} (h : l[i]? = some x) : sumI (l.take (i + 1)) = sumI (l.take i) + x := by
  rw [List.take_add_one, h, sumI_append]
  simp
def qM (t s w : Int) : Int := t * w / s
def rM (t s w : Int) : Int := t * w % s
theorem sum_parts (t s : Int) (ws : List Int) : sumI (ws.map (qM t s)) * s + sumI (ws.map (rM t s)) = t * sumI ws := by
  induction ws with
  | nil => simp
  | cons w r ih =>
    simp only [List.map_cons, sumI_cons]
    have e : qM t s w * s + rM t s w = t * w := Int.ediv_mul_add_emod (t * w) s
    rw [Int.add_mul, Int.mul_add]
    omega
theorem sum_rests (t s : Int) (hs : 0 < s) (ws : List Int) : 0 ≤ sumI (ws.map (rM t s)) ∧ sumI (ws.map (rM t s)) ≤ ws.length * (s - 1) := by
  induction ws with
  | nil => simp
  | cons w r ih =>
    have h1 : 0 ≤ rM t s w := Int.emod_nonneg _ (by omega)
    have h2 : rM t s w < s := Int.emod_lt_of_pos _ hs
    simp only [List.map_cons, sumI_cons, List.length_cons, Int.natCast_add, Int.add_mul]
    constructor
    · omega
    · simp only [Int.natCast_one, Int.one_mul]; omega
def leftM (t : Int) (ws : List Int) : Int := t - sumI (ws.map (qM t (sumI ws)))
theorem left_bd (t : Int) (ws : List Int) (hs : 0 < sumI ws) : 0 ≤ leftM t ws ∧ leftM t ws ≤ ws.length := by
  have h1 := sum_parts t (sumI ws) ws
  have h2 := sum_rests t (sumI ws) hs ws
  have h3 : leftM t ws * sumI ws = sumI (ws.map (rM t (sumI ws))) := by
    unfold leftM
    rw [Int.sub_mul]
    omega
  constructor
  · apply Int.le_of_not_gt
    intro hn
    have : leftM t ws * sumI ws ≤ -1 * sumI ws := Int.mul_le_mul_of_nonneg_right (by omega) (by omega)
    omega
  · apply Int.le_of_not_gt
    intro hn
    have h4 : ((ws.length : Int) + 1) * sumI ws ≤ leftM t ws * sumI ws := Int.mul_le_mul_of_nonneg_right (by omega) (by omega)
    have h5 : (ws.length : Int) * (sumI ws - 1) = ws.length * sumI ws - ws.length := by rw [Int.mul_sub, Int.mul_one]
    rw [Int.add_mul, Int.one_mul] at h4
    omega
/-- The places in the order in which they get one more. -/
def placeCf (rs : List Int) (n : Nat) (a b : Fin n) : Int := restCf (rs[a.val]?.getD 0) (rs[b.val]?.getD 0) a.val b.val
def orderM (rs : List Int) (n : Nat) : List Nat := ((List.finRange n).mergeSort fun x y => !(ltOf (placeCf rs n)) y x).map (·.val)
def bump (l : List Int) (ks : List Nat) : List Int := ks.foldl (fun l k => l.set k (l[k]?.getD 0 + 1)) l
def splitM (t : Int) (ws : List Int) : List Int :=
  if t = 0 then ws.map fun _ => 0
  else bump (ws.map (qM t (sumI ws))) ((orderM (ws.map (rM t (sumI ws))) ws.length).take (leftM t ws).toNat)
theorem bump_length (ks : List Nat) (l : List Int) : (bump l ks).length = l.length := by
  induction ks generalizing l with
  | nil => rfl
  | cons k r ih => unfold bump at *; rw [List.foldl_cons, ih, List.length_set]
theorem order_perm (rs : List Int) (n : Nat) : (orderM rs n).Perm (List.range n) := by
  unfold orderM
  have h := (List.mergeSort_perm (List.finRange n) fun x y => !(ltOf (placeCf rs n)) y x).map (·.val)
  have e : (List.finRange n).map (·.val) = List.range n := by
    apply List.ext_getElem <;> simp
  rwa [e] at h
theorem order_length (rs : List Int) (n : Nat) : (orderM rs n).length = n := by
  rw [(order_perm rs n).length_eq, List.length_range]
theorem order_lt {rs : List Int} {n k : Nat} (h : k ∈ orderM rs n) : k < n := by
  rw [(order_perm rs n).mem_iff, List.mem_range] at h
  exact h
theorem order_nodup (rs : List Int) (n : Nat) : (orderM rs n).Nodup := (order_perm rs n).nodup_iff.2 List.nodup_range
theorem firstNot2 (a b : Int) : firstNot [a, b] = if a = 0 then b else a := by
  unfold firstNot
  by_cases h : a = 0
  · by_cases g : b = 0 <;> simp [h, g]
  · simp [h]
theorem icmp_lt0 {a b : Int} : icmp a b < 0 ↔ a < b := by unfold icmp; split <;> (try split) <;> omega
theorem icmp_eq0 {a b : Int} : icmp a b = 0 ↔ a = b := by unfold icmp; split <;> (try split) <;> omega
theorem restCf_neg (ra rb : Int) (a b : Nat) : restCf ra rb a b < 0 ↔ rb < ra ∨ (ra = rb ∧ a < b) := by
  unfold restCf
  rw [firstNot2]
  by_cases h : icmp rb ra = 0
  · have := icmp_eq0.1 h
    rw [if_pos h, icmp_lt0]
    omega
  · have h2 := mt icmp_eq0.2 h
    rw [if_neg h, icmp_lt0]
    omega
theorem place_lt (rs : List Int) (n : Nat) (a b : Fin n) : ltOf (placeCf rs n) a b = true ↔ rs[b.val]?.getD 0 < rs[a.val]?.getD 0 ∨ (rs[a.val]?.getD 0 = rs[b.val]?.getD 0 ∧ a.val < b.val) := by
  unfold ltOf placeCf
  rw [decide_eq_true_iff, restCf_neg]
theorem place_swo (rs : List Int) (n : Nat) : SWO (ltOf (placeCf rs n)) where
  irrefl x := by rw [Bool.eq_false_iff]; intro h; rw [place_lt] at h; omega
  trans x y z h k := by rw [place_lt] at *; omega
  ntrans x y z h k := by
    rw [Bool.eq_false_iff, Ne, place_lt] at *
    omega
theorem place_parts (rs : List Int) (n : Nat) (x y : Fin n) (h : ltOf (placeCf rs n) x y = false) (k : ltOf (placeCf rs n) y x = false) : x = y := by
  rw [Bool.eq_false_iff, Ne, place_lt] at *
  apply Fin.ext
  omega
end Go.Proofs.YteecfjkljmmecaaGreat
