/- PURE: what dispute.Award computes: each thing once, in order, to one whom nobody that claims it is ahead of. -/
import Derived.Test.YteecfjkljmmecaaGreatNm
import Derived.Test.YteecfjkljmmecaaGreatIt
namespace Go.Proofs.YteecfjkljmmecaaGreat
open Go.RowKit Go.Sort Go.Shelf
def bStep (m : List (ByteArray × ByteArray)) (c : Clm) : List (ByteArray × ByteArray) := if (aget m c.thing).isSome = true then m else aput m c.thing c.name
def bestM (r : List Clm) : List (ByteArray × ByteArray) := r.foldl bStep []
theorem bestM_step {r : List Clm} {i : Nat} {c : Clm} (h : r[i]? = some c) : bestM (r.take (i + 1)) = bStep (bestM (r.take i)) c := by
  unfold bestM
  rw [List.take_add_one, h, List.foldl_append]
  rfl
theorem bStep_get (m : List (ByteArray × ByteArray)) (c : Clm) (t : ByteArray) : aget (bStep m c) t = (aget m t).or (if c.thing = t then some c.name else none) := by
  unfold bStep
  by_cases h : (aget m c.thing).isSome = true
  · rw [if_pos h]
    by_cases ht : c.thing = t
    · subst ht
      rw [Option.isSome_iff_exists] at h
      obtain ⟨a, ha⟩ := h
      simp [ha]
    · simp [ht]
  · rw [if_neg h, aget_put]
    by_cases ht : t = c.thing
    · subst ht
      have : aget m c.thing = none := by simpa using h
      simp [this]
    · rw [if_neg ht, if_neg (fun e => ht e.symm)]
      simp
theorem foldl_get (r : List Clm) (t : ByteArray) : ∀ m, aget (r.foldl bStep m) t = (aget m t).or ((r.find? fun c => decide (c.thing = t)).map (·.name)) := by
  induction r with
  | nil => intro m; simp
  | cons c r ih =>
    intro m
    rw [List.foldl_cons, ih, bStep_get]
    by_cases h : c.thing = t
    · rw [if_pos h, List.find?_cons_of_pos (by simpa using h)]
      cases aget m t <;> simp
    · rw [if_neg h, List.find?_cons_of_neg (by simpa using h)]
      simp
theorem best_get (r : List Clm) (t : ByteArray) : aget (bestM r) t = (r.find? fun c => decide (c.thing = t)).map (·.name) := by
  unfold bestM
  rw [foldl_get]
  simp [aget]
theorem best_keys {r : List Clm} {t : ByteArray} : t ∈ akeys (bestM r) ↔ ∃ c ∈ r, c.thing = t := by
  constructor
  · intro h
    apply Classical.byContradiction
    intro hn
    have : aget (bestM r) t = none := by
      rw [best_get, Option.map_eq_none_iff, List.find?_eq_none]
      intro c hc he
      exact hn ⟨c, hc, by simpa using he⟩
    exact aget_none.1 this h
  · rintro ⟨c, hc, ht⟩
    apply Classical.byContradiction
    intro hn
    have := aget_none.2 hn
    rw [best_get, Option.map_eq_none_iff, List.find?_eq_none] at this
    exact this c hc (by simpa using ht)
theorem foldl_nodup (r : List Clm) : ∀ m, (akeys m).Nodup → (akeys (r.foldl bStep m)).Nodup := by
  induction r with
  | nil => intro m h; exact h
  | cons c r ih =>
    intro m h
    rw [List.foldl_cons]
    refine ih _ ?_
    unfold bStep
    split
    · exact h
    · exact nodup_put h _ _
theorem best_nodup (r : List Clm) : (akeys (bestM r)).Nodup := foldl_nodup r [] (by simp [akeys])
theorem best_length (r : List Clm) : (bestM r).length ≤ r.length := by
  have key : ∀ (r : List Clm) m, (r.foldl bStep m).length ≤ m.length + r.length := by
    intro r
    induction r with
    | nil => intro m; simp
    | cons c r ih =>
      intro m
      rw [List.foldl_cons]
      have h1 := ih (bStep m c)
      have h2 : (bStep m c).length ≤ m.length + 1 := by
        unfold bStep
        split
        · omega
        · exact length_put_le _ _ _
      simp only [List.length_cons]
      omega
  have := key r []; simpa [bestM] using this
/-- What an award of claims says. -/
structure IsAward (l : List Clm) (ga : List (ByteArray × ByteArray)) : Prop where
  sorted : ga.Pairwise fun p q => sLt p.1 q.1
  won : ∀ p ∈ ga, ∃ c ∈ l, c.thing = p.1 ∧ c.name = p.2 ∧ ∀ d ∈ l, d.thing = c.thing → ¬ Ahead d c
  all : ∀ c ∈ l, ∃ p ∈ ga, p.1 = c.thing
theorem sLt_of {ks : List ByteArray} (h : (ks.map bl).Pairwise (· ≤ ·)) (hn : ks.Nodup) : ks.Pairwise sLt := by
  induction ks with
  | nil => exact .nil
  | cons k r ih =>
    rw [List.map_cons, List.pairwise_cons] at h
    rw [List.nodup_cons] at hn
    refine List.pairwise_cons.2 ⟨fun x hx => ?_, ih h.2 hn.2⟩
    have h1 := h.1 (bl x) (List.mem_map.2 ⟨x, hx, rfl⟩)
    rcases List.le_iff_lt_or_eq.1 h1 with h2 | h2
    · exact h2
    · exact absurd (ba_inj h2) (fun e => hn.1 (e ▸ hx))
theorem rankM_sorted (l : List Clm) : (rankM l).Pairwise fun x y => ¬ Ahead y x := by
  have h := List.pairwise_mergeSort (le := fun x y => !(ltOf cmpM y x)) (fun a b c h1 h2 => by
      simp only [Bool.not_eq_true', ← Bool.not_eq_true, ltOf_clm] at *
      intro h3
      by_cases e : a = b
      · exact h2 (e ▸ h3)
      · by_cases e2 : b = c
        · exact h1 (e2 ▸ h3)
        · exact Ahead.asymm h3 ((Ahead.total h1 (fun e' => e e'.symm)).trans (Ahead.total h2 (fun e' => e2 e'.symm)))) (fun a b => by
      simp only [Bool.or_eq_true, Bool.not_eq_true', ← Bool.not_eq_true, ltOf_clm]
      apply Classical.byContradiction
      intro hn
      rw [not_or, Classical.not_not, Classical.not_not] at hn
      exact Ahead.asymm hn.1 hn.2) l
  exact h.imp fun {x y} hxy => by simpa only [Bool.not_eq_true', ← Bool.not_eq_true, ltOf_clm] using hxy
def pairOf (m : List (ByteArray × ByteArray)) (k : ByteArray) : ByteArray × ByteArray := (k, (aget m k).getD ByteArray.empty)
theorem award_is {l : List Clm} {ks : List ByteArray} (hp : ks.Perm (akeys (bestM (rankM l)))) (hs : (ks.map bl).Pairwise (· ≤ ·)) : IsAward l (ks.map (pairOf (bestM (rankM l)))) where
  sorted := by
    rw [List.pairwise_map]
    exact sLt_of hs (hp.nodup_iff.2 (best_nodup _))
  won := by
    intro p hp'
    obtain ⟨k, hk, rfl⟩ := List.mem_map.1 hp'
    have hk2 := hp.mem_iff.1 hk
    have hne : aget (bestM (rankM l)) k ≠ none := fun e => aget_none.1 e hk2
    have hg := best_get (rankM l) k
    cases hf : (rankM l).find? fun c => decide (c.thing = k) with
    | none => rw [hf] at hg; exact absurd hg hne
    | some c =>
      rw [hf] at hg
      obtain ⟨h1, ga, bs, h2, h3⟩ := List.find?_eq_some_iff_append.1 hf
      have hck : c.thing = k := by simpa using h1
      refine ⟨c, (rankM_perm l).mem_iff.1 (by rw [h2]; simp), hck, ?_, fun d hd hdt => ?_⟩
      · show c.name = (aget (bestM (rankM l)) k).getD ByteArray.empty
        rw [hg]
        rfl
      · have hd2 := (rankM_perm l).mem_iff.2 hd
        have hso := rankM_sorted l
        rw [h2] at hd2 hso
        rcases List.mem_append.1 hd2 with hd3 | hd3
        · have := h3 d hd3
          simp [hdt, hck] at this
        · rcases List.mem_cons.1 hd3 with rfl | hd3
          · exact Ahead.irrefl _
          · have := (List.pairwise_append.1 hso).2.1
            exact (List.pairwise_cons.1 this).1 d hd3
  all := by
    intro c hc
    have : c.thing ∈ ks := hp.mem_iff.2 (best_keys.2 ⟨c, (rankM_perm l).mem_iff.2 hc, rfl⟩)
    exact ⟨_, List.mem_map.2 ⟨c.thing, this, rfl⟩, rfl⟩
theorem sorted_ext : ∀ {ga bs : List (ByteArray × ByteArray)}, (ga.Pairwise fun p q => sLt p.1 q.1) → (bs.Pairwise fun p q => sLt p.1 q.1) → (∀ p, p ∈ ga ↔ p ∈ bs) → ga = bs
  | [], [], _, _, _ => rfl
  | [], b :: bs, _, _, h => by have := (h b).2 (by simp); simp at this
  | a :: ga, [], _, _, h => by have := (h a).1 (by simp); simp at this
  | a :: ga, b :: bs, ha, hb, h => by
    rw [List.pairwise_cons] at ha hb
    have hab : a = b := by
      rcases List.mem_cons.1 ((h a).1 (by simp)) with e | h1
      · exact e
      · rcases List.mem_cons.1 ((h b).2 (by simp)) with e | h2
        · exact e.symm
        · exact absurd (sLt_trans (hb.1 a h1) (ha.1 b h2)) (sLt_irrefl _)
    subst hab
    congr 1
    refine sorted_ext ha.2 hb.2 fun p => ⟨fun hp => ?_, fun hp => ?_⟩
    · rcases List.mem_cons.1 ((h p).1 (by simp [hp])) with e | h1
      · subst e; exact absurd (ha.1 p hp) (sLt_irrefl _)
      · exact h1
    · rcases List.mem_cons.1 ((h p).2 (by simp [hp])) with e | h1
      · subst e; exact absurd (hb.1 p hp) (sLt_irrefl _)
      · exact h1
theorem IsAward.sub {l m : List Clm} {ga bs : List (ByteArray × ByteArray)} (ha : IsAward l ga) (hb : IsAward m bs) {t : ByteArray} (h : ∀ c, c.thing = t → (c ∈ l ↔ c ∈ m)) {p : ByteArray × ByteArray} (hp : p ∈ ga) (ht : p.1 = t) : p ∈ bs := by
  obtain ⟨c, hc, h1, h2, h3⟩ := ha.won p hp
  have hct : c.thing = t := h1.trans ht
  have hcm := (h c hct).1 hc
  obtain ⟨q, hq, hqt⟩ := hb.all c hcm
  obtain ⟨d, hd, k1, k2, k3⟩ := hb.won q hq
  have hdt : d.thing = t := k1.trans (hqt.trans hct)
  have hdl := (h d hdt).2 hd
  have hcd : c = d := by
    apply Classical.byContradiction
    intro hne
    exact h3 d hdl (hdt.trans hct.symm) (Ahead.total (k3 c hcm (hct.trans hdt.symm)) hne)
  have : p = q := Prod.ext (h1.symm.trans hqt.symm) (by rw [← h2, ← k2, hcd])
  exact this ▸ hq
theorem IsAward.unique {l m : List Clm} {ga bs : List (ByteArray × ByteArray)} (ha : IsAward l ga) (hb : IsAward m bs) (h : ∀ c, c ∈ l ↔ c ∈ m) : ga = bs :=
  sorted_ext ha.sorted hb.sorted fun _ => ⟨fun hp => ha.sub hb (fun c _ => h c) hp rfl, fun hp => hb.sub ha (fun c _ => (h c).symm) hp rfl⟩
/-- One thing, claimed alone. -/
theorem IsAward.alone {l m : List Clm} {ga bs : List (ByteArray × ByteArray)} {t : ByteArray} (ha : IsAward l ga) (hb : IsAward m bs) (h : ∀ c, c ∈ m ↔ c ∈ l ∧ c.thing = t) : bs.length ≤ 1 ∧ ∀ p ∈ ga, p.1 = t → bs = [p] := by
  have hall : ∀ q ∈ bs, q.1 = t := fun q hq => by
    obtain ⟨c, hc, h1, _⟩ := hb.won q hq
    exact h1.symm.trans ((h c).1 hc).2
  have hlen : bs.length ≤ 1 := by
    have hs := hb.sorted
    rcases bs with _ | ⟨a, _ | ⟨b, r⟩⟩
    · simp
    · simp
    · rw [List.pairwise_cons] at hs
      have h1 := hs.1 b (by simp)
      rw [hall a (by simp), hall b (by simp)] at h1
      exact absurd h1 (sLt_irrefl _)
  refine ⟨hlen, fun p hp ht => ?_⟩
  have hin : p ∈ bs := ha.sub hb (t := t) (fun c hc => ⟨fun h1 => (h c).2 ⟨h1, hc⟩, fun h1 => ((h c).1 h1).1⟩) hp ht
  rcases bs with _ | ⟨a, _ | ⟨b, r⟩⟩
  · simp at hin
  · simp at hin
    rw [hin]
  · simp at hlen
theorem pair_step (m : List (ByteArray × ByteArray)) {ks : List ByteArray} {i : Nat} {k : ByteArray} (h : ks[i]? = some k) : (ks.take (i + 1)).map (pairOf m) = (ks.take i).map (pairOf m) ++ [pairOf m k] := by
  rw [List.take_add_one, h, List.map_append]
  rfl
end Go.Proofs.YteecfjkljmmecaaGreat
