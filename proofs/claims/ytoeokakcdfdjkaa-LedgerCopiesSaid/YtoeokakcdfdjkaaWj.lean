/- WALKS: Holds, Total. -/
import Derived.Test.YtoeokakcdfdjkaaIt
import Derived.Test.YtoeokakcdfdjkaaWi
namespace Go.Proofs.Ytoeokakcdfdjkaa
open Go.RowKit Go.Shelf

def holdCells : List HoldD → List Value
  | [] => []
  | h :: r => .string h.id :: .string h.acct :: .string h.cur :: .int .i64 h.amt :: holdCells r
theorem holdCells_snoc (l : List HoldD) (h : HoldD) : holdCells (l ++ [h]) = holdCells l ++ [.string h.id, .string h.acct, .string h.cur, .int .i64 h.amt] := by
  induction l with
  | nil => rfl
  | cons x r ih => simp [holdCells, ih]
theorem info66 : (Try.prog.info? 66).map (fun i => (i.zero, i.size, i.bytes)) = some (some (.agg #[.string ByteArray.empty, .string ByteArray.empty, .string ByteArray.empty, .int .i64 0]), 4, 56) := by kernel_rfl
/-- A text of a row of texts of its own. -/
theorem own_str {w : World} {base : Nat} {v : Value} {ks : List ByteArray} (h : w.ownsRow base 9 1 v ks.length (ks.map eStr)) : ∃ A c, v = .slice A ks.length c ∧ ∀ i k, ks[i]? = some k → ∃ b, A = some ⟨b, 0, none⟩ ∧ w.cell? ⟨b, i, none⟩ = some (.string k) := by
  rcases h.2 with ⟨rfl, h0⟩ | ⟨g, cap, cur, rfl, hb, hh, h1, h2, h3, h4⟩
  · exact ⟨none, 0, by rw [h0], fun i k hk => by have := (List.getElem?_eq_some_iff.1 hk).1; omega⟩
  · refine ⟨_, cap, rfl, fun i k hk => ⟨g, rfl, ?_⟩⟩
    have hj : (ks.map eStr)[i]? = some (.string k) := by rw [List.getElem?_map, hk]; rfl
    rw [← h4, List.getElem?_take] at hj
    split at hj
    · simp only [World.cell?, hh]
      simpa using hj
    · cases hj
section
variable {w : World} {l : Loc} {S : Led}
def HoldsPost (S : Led) (w : World) (e : Ending) (w' : World) : Prop := ∃ (v : Value) (ks : List ByteArray), e = .returned v ∧ ks.Perm (akeys S.H) ∧ (ks.map bl).Pairwise (· ≤ ·) ∧ w'.ownsRow w.heap.size 66 4 v ks.length (holdCells (ks.map (holdOr S.H))) ∧ Only (fun _ => False) w w'
theorem ownsRow_empty (w : World) (base : Nat) (e : TypeId) (size : Nat) : w.ownsRow base e size (.slice none 0 0) 0 [] := ⟨by simp, .inl ⟨rfl, rfl⟩⟩
set_option maxHeartbeats 4000000 in
set_option maxRecDepth 100000 in
theorem holds_any (h : LAt w l S) (hk : ∀ k ∈ akeys S.H, k.size ≤ 1000000) (hl : S.H.length ≤ 100000) :
    Calls Try.prog 30 #[.pointer (some ⟨l.lb, 0, none⟩)] w (HoldsPost S w) := by
  obtain ⟨c0, c1, c2, c3⟩ := h.c
  have hlt := h.lt
  have hS := Lib.hid (sortedKeys_any h.holds hk (by omega))
  obtain ⟨i0, hi, hz0, hz1, hz2⟩ := info_parts info66
  go_enter Try.func30, Try.ntmps30
  go_wp2_with (first
    | (go_at_call 57; refine (keys_any _ _).mono ?_; rintro e w1 ⟨rfl, rfl⟩)
    | (go_at_call 56; refine (hS.out).mono ?_; rintro e w2 ⟨v2, ks, rfl, hp, hpw, hrow, ho2⟩; obtain ⟨A, c, rfl, hr⟩ := own_str hrow))
  have ho3 : Only (fun _ => False) w w2 := (show Only (fun _ => False) w _ from (Only.refl (fun _ => False) w).alloc _).trans ho2 fun _ _ h => h
  have hkl : ks.length ≤ 100000 := by have := hp.length_eq; simp [akeys] at this; omega
  have hPP := Lib.hid hp
  have hPW := Lib.hid hpw
  clear hp hpw hS ho2
  go_loopg [3, 13] (ks.length) (fun g v3 v13 wr => ∃ i : Nat, v13 = .int .i64 (i : Int) ∧ i + g = ks.length ∧ Only (fun _ => False) w wr ∧ Only (fun i => w2.heap.size ≤ i) w2 wr ∧ wr.ownsRow w2.heap.size 66 4 v3 i (holdCells ((ks.take i).map (holdOr S.H))))
  case atStart => exact ⟨0, rfl, by omega, ho3, Only.refl _ _, ownsRow_empty _ _ _ _⟩
  case round =>
    obtain ⟨i, rfl, hg, ho, ho4, hown⟩ := hrel
    by_cases hi' : i < ks.length
    · obtain ⟨k, hk'⟩ : ∃ k, ks[i]? = some k := ⟨ks[i], List.getElem?_eq_getElem hi'⟩
      obtain ⟨b, rfl, hcell⟩ := hr i k hk'
      have hbw : b < w2.heap.size := by
        simp only [World.cell?] at hcell
        cases hb : w2.heap[b]? with
        | none => rw [hb] at hcell; cases hcell
        | some o => exact (Array.getElem?_eq_some_iff.1 hb).1
      have hc0 : wr.cell? ⟨b, i, none⟩ = some (.string k) := ho4.keeps hcell (fun e => by simp only at e; omega)
      have hcl : wr.cell? ⟨l.lb, 3, none⟩ = some (.map (some l.hb)) := ho.keeps c3 not_false
      have hlk := look_hold (h.holds.only ho not_false) k false
      obtain ⟨sA, sc, rfl⟩ := own_sl hown
      have htk : (ks.take (i + 1)).map (holdOr S.H) = (ks.take i).map (holdOr S.H) ++ [holdOr S.H k] := by rw [take_snoc hk']; simp
      have hTK := Lib.hid htk
      clear htk
      generalize holdOr S.H k = q at hlk hTK
      obtain ⟨q1, q2, q3, q4⟩ := q
      simp only [Bool.false_eq_true, if_false, eHold] at hlk
      have hsz := ho4.size
      go_wp2_with (at_builtin; refine wpList_append_own_at _ rfl _ _ 52 rfl w2.heap.size 66 i0 _ 4 56 Try.underlying52 hi hz0 hz1 hz2 rfl (by decide) _ i (holdCells ((ks.take i).map (holdOr S.H))) rfl (hown.alloc _) ⟨wr.heap.size, 0, none⟩ 1 1 [.string q1, .string q2, .string q3, .int .i64 q4] rfl rfl (news_at (W := wr) (cs := #[.string q1, .string q2, .string q3, .int .i64 q4]) (t := 66)) ?c2 ?c3 ?c4 ?c5 ?_
                   case c2 => intro u hu; simp at hu; rcases hu with rfl | rfl | rfl | rfl <;> rfl
                   case c3 => unfold maxLen; omega
                   case c4 => omega
                   case c5 => simp; omega
                   intro v1 w8 hown8 hg8 _ hat8)
      go_roundg (ks.length - (i + 1))
      case measure => omega
      case rel =>
        have hold : ∀ k', (Value.slice sA i sc).ownBlock = some k' → w2.heap.size ≤ k' := fun k' hk' => by
          obtain ⟨_, _, hge⟩ := ownsRow_block hown hk'; exact hge
        refine ⟨i + 1, by simp, by omega, (ho.alloc _).grown hg8 (fun k' hk' hlt' => ?_), (ho4.alloc _).grown hg8 (fun k' hk' _ => hold k' hk'), ?_⟩
        · have h1 := hold k' hk'
          have h2 := ho3.size
          omega
        · rw [hTK.out, holdCells_snoc]
          exact hown8
    · have hie : i = ks.length := by omega
      subst hie
      rw [List.take_length] at hown
      go_wp2
      go_ret
      exact ⟨_, ks, rfl, hPP.out, hPW.out, ownsRow_base hown ho3.size, ho⟩
def totM (A : List (Key × Acct)) (cur : ByteArray) : Int := (A.map fun p => if p.1.2 = cur then p.2.bal else 0).sum
theorem totM_snoc (A : List (Key × Acct)) (p : Key × Acct) (cur : ByteArray) : totM (A ++ [p]) cur = totM A cur + if p.1.2 = cur then p.2.bal else 0 := by simp [totM]
theorem sum_perm {α : Type} {l m : List α} (f : α → Int) (h : l.Perm m) : (l.map f).sum = (m.map f).sum := by
  induction h with
  | nil => rfl
  | cons x _ ih => simp [ih]
  | swap x y l => simp; omega
  | trans _ _ h1 h2 => exact h1.trans h2
theorem totM_bound {A : List (Key × Acct)} (h : ∀ p ∈ A, -1099511627776 ≤ p.2.bal ∧ p.2.bal ≤ 1099511627776) (cur : ByteArray) : -((A.length : Int) * 1099511627776) ≤ totM A cur ∧ totM A cur ≤ (A.length : Int) * 1099511627776 := by
  induction A with
  | nil => simp [totM]
  | cons p r ih =>
    have h1 := ih fun q hq => h q (by simp [hq])
    have h2 := h p (by simp)
    have e : totM (p :: r) cur = (if p.1.2 = cur then p.2.bal else 0) + totM r cur := by simp [totM]
    rw [e]
    simp only [List.length_cons]
    have e2 : (((r.length + 1 : Nat) : Int)) * 1099511627776 = (r.length : Int) * 1099511627776 + 1099511627776 := by omega
    rw [e2]
    split <;> omega
def TotPost (S : Led) (cur : ByteArray) (w : World) (e : Ending) (w' : World) : Prop := e = .returned (.int .i64 (totM S.A cur)) ∧ Only (fun _ => False) w w'
set_option maxHeartbeats 4000000 in
set_option maxRecDepth 100000 in
theorem total_any (h : LAt w l S) (hb : ∀ p ∈ S.A, -1099511627776 ≤ p.2.bal ∧ p.2.bal ≤ 1099511627776) (hl : S.A.length ≤ 100000) (cur : ByteArray) :
    Calls Try.prog 21 #[.pointer (some ⟨l.lb, 0, none⟩), .string cur] w (TotPost S cur w) := by
  obtain ⟨c0, c1, c2, c3⟩ := h.c
  have hlt := h.lt
  have hab := h.accts.lt
  have hA := h.accts
  have hB := Lib.hid hb
  clear hb
  go_enter Try.func21, Try.ntmps21
  go_wp2_with (first | (at_range; refine wpList_range_map rfl _ 72 70 rfl Try.underlying72 l.ab S.A hA rfl ?_; intro w0 hIt0 ho0 hs0))
  clear hA
  go_frame
  go_loopg [5] (S.A.length) (fun g v5 wr => ∃ done, v5 = .int .i64 (totM done cur) ∧ IterAt ePair eAcct wr l.ab w.heap.size S.A done ∧ done.length + g = S.A.length ∧ Only (fun _ => False) w wr)
  case atStart => exact ⟨[], rfl, hIt0, by simp, ho0⟩
  case round =>
    clear hIt0 ho0 hs0
    obtain ⟨done, rfl, hIt, hg, ho⟩ := hrel
    have hgd := Lib.hid hg
    have htb := totM_bound (A := done) (fun p hp => hB.out p (hIt.sub p hp)) cur
    have hdl : done.length ≤ 100000 := by omega
    clear hg
    go_wp2_with (first | (at_next; refine wpList_next_map rfl _ rfl kOps l.ab w.heap.size S.A done hIt rfl ?_ ?_))
    · intro hperm
      go_wp2
      go_ret
      exact ⟨congrArg (fun n => Ending.returned (Value.int .i64 n)) (sum_perm _ hperm), ho⟩
    · intro k1 k2 a w1 hin hnot hIt1 ho1 hs1 hen
      have how := ho.new ho1 (Nat.le_refl _)
      have hle := hIt1.length_le
      have hba := hB.out _ hin
      have hsn := totM_snoc done ((k1, k2), a) cur
      obtain ⟨af, ab, ah⟩ := a
      simp only at hsn hba
      simp only [ePair, eAcct] at hen ⊢
      have hSN := Lib.hid hsn
      clear hsn
      generalize htd : totM done cur = td at *
      go_wp2
      · go_roundg (S.A.length - (done.length + 1))
        case measure => have := hgd.out; simp only [List.length_append, List.length_cons, List.length_nil] at hle; omega
        case rel =>
          refine ⟨done ++ [((k1, k2), ⟨af, ab, ah⟩)], ?_, (hIt1.only ((Only.refl (fun _ => False) w1).alloc _) not_false not_false).only ((Only.refl (fun _ => False) _).alloc _) not_false not_false, by simp only [List.length_append, List.length_cons, List.length_nil] at hle ⊢; omega, (how.alloc _).alloc _⟩
          rw [hSN.out, if_pos (str_eq (by assumption))]
      · go_roundg (S.A.length - (done.length + 1))
        case measure => have := hgd.out; simp only [List.length_append, List.length_cons, List.length_nil] at hle; omega
        case rel =>
          refine ⟨done ++ [((k1, k2), ⟨af, ab, ah⟩)], ?_, (hIt1.only ((Only.refl (fun _ => False) w1).alloc _) not_false not_false).only ((Only.refl (fun _ => False) _).alloc _) not_false not_false, by simp only [List.length_append, List.length_cons, List.length_nil] at hle ⊢; omega, (how.alloc _).alloc _⟩
          rw [hSN.out, if_neg (str_ne (by assumption))]; simp
end
end Go.Proofs.Ytoeokakcdfdjkaa
