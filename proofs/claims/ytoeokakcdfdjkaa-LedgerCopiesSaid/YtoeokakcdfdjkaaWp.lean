/- WALKS: Accounts. -/
import Derived.Test.YtoeokakcdfdjkaaWo
import Derived.Test.YtoeokakcdfdjkaaWj
import Derived.Test.YtoeokakcdfdjkaaOb
import Derived.Test.YtoeokakcdfdjkaaSio
namespace Go.Proofs.Ytoeokakcdfdjkaa
open Go.RowKit Go.Shelf Go.Sort
instance : Inhabited Ent := ⟨⟨ByteArray.empty, ByteArray.empty, 0⟩⟩
theorem entCells_flat (xs : List Ent) : entCells xs = xs.flatMap entEnc := by
  induction xs with
  | nil => rfl
  | cons e r ih => simp [entCells, ih, entEnc]
theorem entEnc_len (x : Ent) : (entEnc x).length = 3 := rfl
theorem entEnc_one (x : Ent) : ∀ v ∈ entEnc x, v.oneCell' = true := by
  intro v hv
  simp only [entEnc, List.mem_cons, List.not_mem_nil, or_false] at hv
  rcases hv with rfl | rfl | rfl <;> rfl
theorem isAgg44 (w : World) : (isAgg 44).run Try.prog w = .ok true w := by kernel_rfl
theorem enters40 : ∀ args w, (callFunc 40 args).run Try.prog w = .ok (.enter 40 args) w := enters_of Try.func40 (by kernel_rfl) rfl
theorem cmpLays40 (blk off size : Nat) (w : World) : CmpLays Try.prog 40 #[] entEnc 3 entCf blk off size w := fun _ _ _ _ x y => accCf_any x y _
theorem sort_ents {w : World} {base n : Nat} {v : Value} {xs : List Ent} (hn : xs.length = n) (h : w.ownsRow base 44 3 v n (entCells xs)) (hl : n ≤ 1000000) :
    Calls Try.prog 39 #[v, .func (.func 40) #[] #[]] w fun e w' => e = .returned (.tuple #[]) ∧ ∃ ys : List Ent, ys.Perm xs ∧ (ys.Pairwise fun a b => ltOf entCf b a = false) ∧ w'.ownsRow base 44 3 v n (entCells ys) ∧ Only (fun i => v.ownBlock = some i) w w' := by
  rw [entCells_flat] at h
  rcases h.2 with ⟨rfl, h0⟩ | ⟨g, cap, cur, rfl, hb, hh, h1, h2, h3, h4⟩
  · have : xs = [] := List.eq_nil_of_length_eq_zero (by omega)
    subst this
    subst h0
    exact (AnyF.slices_SortFunc_none Try.sort39 none 0 _ w).mono fun e w' ⟨he, hw⟩ => ⟨he, [], List.Perm.refl _, List.Pairwise.nil, hw ▸ (by rw [entCells_flat]; exact h), hw ▸ Only.refl _ _⟩
  · obtain ⟨hH, hg⟩ := holdsK_own entEnc_len (by decide) h
    have hc := AnyQ.slices_SortFunc Try.sort39 3 isAgg44 size44 entEnc entEnc_len entEnc_one entCf ent_swo 40 #[] g 0 cap xs.toArray w enters40 (cmpLays40 _ _ _ _) hH hg (by simp; omega)
    have e1 : xs.toArray.size = n := by simpa using hn
    rw [e1] at hc
    refine hc.mono fun e w' ⟨he, d', m, os, hp, hs, hw⟩ => ⟨he, d'.toList, ?_, ?_, ?_, ?_⟩
    · have := perm_of_in (e1.symm ▸ hp)
      simpa using this
    · have hd : d'.size = n := by rw [hp.1, e1]
      exact sorted_of_in (hd.symm ▸ hs)
    · have hd : d'.size = n := by rw [hp.1, e1]
      rw [hw, entCells_flat]
      exact own_sorted entEnc_len (by decide) hn hd h
    · rw [hw]
      exact (only_sorted d').mono fun i _ hi => by subst hi; rfl
def entsOf (A : List (Key × Acct)) : List Ent := A.map fun p => ⟨p.1.1, p.1.2, p.2.bal⟩
theorem entsOf_snoc (A : List (Key × Acct)) (p : Key × Acct) : entsOf (A ++ [p]) = entsOf A ++ [⟨p.1.1, p.1.2, p.2.bal⟩] := by simp [entsOf]
theorem entCells_snoc (l : List Ent) (h : Ent) : entCells (l ++ [h]) = entCells l ++ [.string h.acct, .string h.cur, .int .i64 h.amt] := by
  induction l with
  | nil => rfl
  | cons x r ih => simp [entCells, ih]
theorem entsOf_keys (A : List (Key × Acct)) : (entsOf A).map Ent.key = akeys A := by simp [entsOf, akeys, Ent.key]
section
variable {w : World} {l : Loc} {S : Led}
def AccPost (S : Led) (w : World) (e : Ending) (w' : World) : Prop := ∃ (v : Value) (xs : List Ent), e = .returned v ∧ xs.Perm (entsOf S.A) ∧ Rising xs ∧ w'.ownsRow w.heap.size 44 3 v xs.length (entCells xs) ∧ Only (fun _ => False) w w'
set_option maxHeartbeats 4000000 in
set_option maxRecDepth 100000 in
theorem accounts_any (h : LAt w l S) (hl : S.A.length ≤ 100000) :
    Calls Try.prog 20 #[.pointer (some ⟨l.lb, 0, none⟩)] w (AccPost S w) := by
  obtain ⟨c0, c1, c2, c3⟩ := h.c
  have hlt := h.lt
  have hab := h.accts.lt
  have hA := h.accts
  have hND := Lib.hid h.accts.keys_nodup
  obtain ⟨i0, hi, hz0, hz1, hz2⟩ := info_parts info44
  go_enter Try.func20, Try.ntmps20
  go_wp2_with (first | (at_range; refine wpList_range_map rfl _ 72 70 rfl Try.underlying72 l.ab S.A hA rfl ?_; intro w0 hIt0 ho0 hs0))
  clear hA
  have hz : w.heap.size + 1 ≤ w0.heap.size := by omega
  clear hs0
  go_frame
  go_loopg [3] (S.A.length) (fun g v3 wr => ∃ done, IterAt ePair eAcct wr l.ab w.heap.size S.A done ∧ done.length + g = S.A.length ∧ Only (fun _ => False) w wr ∧ w0.heap.size ≤ wr.heap.size ∧ wr.ownsRow w0.heap.size 44 3 v3 done.length (entCells (entsOf done)))
  case atStart => exact ⟨[], hIt0, by simp, ho0, Nat.le_refl _, ownsRow_empty _ _ _ _⟩
  case round =>
    clear hIt0 ho0
    obtain ⟨done, hIt, hg, ho, hz2', hown⟩ := hrel
    have hgd := Lib.hid hg
    have hdl : done.length ≤ 100000 := by omega
    clear hg
    go_wp2_with (first | (at_next; refine wpList_next_map rfl _ rfl kOps l.ab w.heap.size S.A done hIt rfl ?_ ?_))
    · intro hperm
      have hP := Lib.hid hperm
      have hel : (entsOf done).length = done.length := by simp [entsOf]
      have hS := Lib.hid (sort_ents hel hown (by omega))
      have hO := Lib.hid hown
      clear hperm hel hown hIt
      go_wp2_with (go_at_call 39; have hc := hS.out; refine hc.mono ?_; clear hc; rintro e w1 ⟨rfl, ys, hp, hpw, hrow, ho1⟩)
      go_ret
      have hyl : ys.length = done.length := by rw [hp.length_eq]; simp [entsOf]
      refine ⟨_, ys, rfl, hp.trans (hP.out.map _), rising_of hpw ?_, ?_, ho.trans ho1 fun i hi hf => ?_⟩
      · refine ((hp.trans (hP.out.map _)).map Ent.key).nodup_iff.2 ?_
        have := entsOf_keys S.A
        unfold entsOf at this
        rw [this]
        exact hND.out
      · rw [hyl]
        exact ownsRow_base hrow (by omega)
      · obtain ⟨_, _, hge⟩ := ownsRow_block hO.out hf
        omega
    · intro k1 k2 a w1 hin hnot hIt1 ho1 hs1 hen
      have how := ho.new ho1 (Nat.le_refl _)
      have hle := hIt1.length_le
      have hsn := entsOf_snoc done ((k1, k2), a)
      have hown1 := ownsRow_only hown ho1 (fun b hb e => by obtain ⟨_, _, hge⟩ := ownsRow_block hown hb; omega)
      have hwr : wr.heap.size ≤ w1.heap.size := ho1.size
      obtain ⟨af, ab, ah⟩ := a
      simp only at hsn
      simp only [ePair, eAcct] at hen ⊢
      have hSN := Lib.hid hsn
      clear hsn hown hs1
      obtain ⟨sA, sc, rfl⟩ := own_sl hown1
      have hoB : Only (fun _ => False) w1 (((w1.alloc (.cells #[.string k1, .string k2] 68)).alloc (.cells #[.int .i64 af, .int .i64 ab, .int .i64 ah] 70)).alloc (.cells #[.string k1, .string k2, .int .i64 ab] 44)) := (((Only.refl _ w1).alloc _).alloc _).alloc _
      have hownB := Lib.hid (ownsRow_only hown1 hoB fun _ _ => id)
      have hO1 := Lib.hid hown1
      clear hown1
      go_wp2_with (at_builtin; refine wpList_append_own_at _ rfl _ _ 29 rfl w0.heap.size 44 i0 _ 3 40 Try.underlying29 hi hz0 hz1 hz2 rfl (by decide) _ done.length (entCells (entsOf done)) rfl hownB.out ⟨w1.heap.size + 2, 0, none⟩ 1 1 [.string k1, .string k2, .int .i64 ab] rfl rfl ?c1 ?c2 ?c3 ?c4 ?c5 ?_
                   case c1 => have := news_at (W := (w1.alloc (.cells #[.string k1, .string k2] 68)).alloc (.cells #[.int .i64 af, .int .i64 ab, .int .i64 ah] 70)) (cs := #[.string k1, .string k2, .int .i64 ab]) (t := 44); simpa using this
                   case c2 => intro u hu; simp at hu; rcases hu with rfl | rfl | rfl <;> rfl
                   case c3 => unfold maxLen; omega
                   case c4 => omega
                   case c5 => simp; omega
                   intro v1 w8 hown8 hg8 _ hat8)
      go_roundg (S.A.length - (done.length + 1))
      case measure => have := hgd.out; simp only [List.length_append, List.length_cons, List.length_nil] at hle; omega
      case rel =>
        have hold : ∀ k', (Value.slice sA done.length sc).ownBlock = some k' → w0.heap.size ≤ k' := fun k' hk' => by
          obtain ⟨_, _, hge⟩ := ownsRow_block hO1.out hk'; exact hge
        have ho8 : Only (fun i => (Value.slice sA done.length sc).ownBlock = some i) w1 w8 := (hoB.mono fun _ _ h => h.elim).grown hg8 (fun k' hk' _ => hk')
        refine ⟨done ++ [((k1, k2), ⟨af, ab, ah⟩)], hIt1.only ho8 (fun e => by have := hold _ e; omega) (fun e => by have := hold _ e; omega), by simp only [List.length_append, List.length_cons, List.length_nil] at hle ⊢; omega, how.trans ho8 fun i hi' hf => ?_, ?_, ?_⟩
        · have := hold _ hf; omega
        · have := ho8.size; omega
        · rw [hSN.out, entCells_snoc, List.length_append]
          exact hown8
end
end Go.Proofs.Ytoeokakcdfdjkaa
