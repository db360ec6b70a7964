/- WALKS: book. -/
import Derived.Test.YtoeokakcdfdjkaaWd
import Derived.Test.YtoeokakcdfdjkaaMoe
import Derived.Deep.LoopGhost
import Derived.Shelf.SlicesE.Clone
import Derived.Ground.SlgnProg
namespace Go.Proofs.Ytoeokakcdfdjkaa
open Go.RowKit Go.Shelf

/-- A slice that reads as entries. -/
def ReadsEnts (w : World) (v : Value) (xs : List Ent) : Prop :=
  ∃ A c, v = .slice A xs.length c ∧ (0 < xs.length → ∃ b off, A = some ⟨b, off, none⟩ ∧ ∀ j u, (entCells xs)[j]? = some u → w.cell? ⟨b, off + j, none⟩ = some u)
theorem entCells_length (xs : List Ent) : (entCells xs).length = xs.length * 3 := by
  induction xs with
  | nil => rfl
  | cons e r ih => simp [entCells, ih]; omega
theorem entCells_one (xs : List Ent) : ∀ u ∈ entCells xs, u.oneCell' = true := by
  induction xs with
  | nil => simp [entCells]
  | cons e r ih =>
    intro u hu
    simp only [entCells, List.mem_cons] at hu
    rcases hu with rfl | rfl | rfl | hu
    · rfl
    · rfl
    · rfl
    · exact ih u hu
theorem ReadsEnts.only {F : Nat → Prop} {w w' : World} {v : Value} {xs : List Ent} (h : ReadsEnts w v xs) (ho : Only F w w') (hf : ∀ b, v.ownBlock = some b → ¬ F b) : ReadsEnts w' v xs := by
  obtain ⟨A, c, rfl, hc⟩ := h
  refine ⟨A, c, rfl, fun hp => ?_⟩
  obtain ⟨b, off, rfl, hr⟩ := hc hp
  exact ⟨b, off, rfl, fun j u hj => ho.keeps (hr j u hj) (hf b rfl)⟩
theorem ReadsEnts.only' {F : Nat → Prop} {w w' : World} {v : Value} {xs : List Ent} (h : ReadsEnts w v xs) (ho : Only F w w') (hf : 0 < xs.length → ∀ b, v.ownBlock = some b → ¬ F b) : ReadsEnts w' v xs := by
  obtain ⟨A, c, rfl, hc⟩ := h
  refine ⟨A, c, rfl, fun hp => ?_⟩
  obtain ⟨b, off, rfl, hr⟩ := hc hp
  exact ⟨b, off, rfl, fun j u hj => ho.keeps (hr j u hj) (hf hp b rfl)⟩
theorem ReadsEnts.of_own {w : World} {base : Nat} {v : Value} {xs : List Ent} (h : w.ownsRow base 44 3 v xs.length (entCells xs)) : ReadsEnts w v xs := by
  rcases h.2 with ⟨rfl, h0⟩ | ⟨g, cap, cur, rfl, hb, hh, h1, h2, h3, h4⟩
  · exact ⟨none, 0, by rw [h0], fun hp => by rw [h0] at hp; omega⟩
  · refine ⟨_, cap, rfl, fun _ => ⟨g, 0, rfl, fun j u hj => ?_⟩⟩
    rw [← h4] at hj
    rw [List.getElem?_take] at hj
    split at hj
    · simp only [World.cell?, hh]
      simpa using hj
    · cases hj

theorem info44 : (Try.prog.info? 44).map (fun i => (i.zero, i.size, i.bytes)) = some (some (.agg #[.string ByteArray.empty, .string ByteArray.empty, .int .i64 0]), 3, 40) := by kernel_rfl
theorem info46 : (Try.prog.info? 46).map (fun i => (i.zero, i.size, i.bytes)) = some (some (.agg #[.int .i64 0, .string ByteArray.empty, .slice none 0 0]), 3, 48) := by kernel_rfl
theorem size44 (w : World) : (Go.sizeOf 44).run Try.prog w = .ok 3 w := by kernel_rfl
theorem clone_ents {w : World} {v : Value} {xs : List Ent} (h : ReadsEnts w v xs) (h0 : 0 < xs.length ∨ ∀ A n c, v = .slice A n c → ∀ a, A = some a → a.spot = none) (hl : xs.length ≤ 100000) :
    Calls Try.prog 61 #[v] w fun e w' => ∃ v', e = .returned v' ∧ w'.ownsRow w.heap.size 44 3 v' xs.length (entCells xs) ∧ Only (fun _ => False) w w' := by
  obtain ⟨A, c, rfl, hc⟩ := h
  obtain ⟨i0, hi, hz0, hz1, hz2⟩ := info_parts info44
  rcases A with _ | ⟨b, off, sp⟩
  · have h0 : xs = [] := by
      cases xs with
      | nil => rfl
      | cons e r => obtain ⟨b, off, hA, _⟩ := hc (by simp); cases hA
    subst h0
    exact (AnyE.slices_Clone_nil Try.clone61 _ _ w).mono fun e w' ⟨he, hw⟩ => ⟨_, he, ⟨by simp [entCells], .inl ⟨rfl, rfl⟩⟩, hw ▸ Only.refl _ _⟩
  · have hsp : sp = none := by
      rcases h0 with hp | h0
      · obtain ⟨b', off', hA, hr⟩ := hc hp
        cases hA
        rfl
      · exact h0 _ _ _ rfl _ rfl
    subst hsp
    have hr : ∀ (j : Nat) (u : Value), (entCells xs)[j]? = some u → w.cell? ⟨b, off + j, none⟩ = some u := by
      intro j u hj
      have hp : 0 < xs.length := by
        cases xs with
        | nil => simp [entCells] at hj
        | cons e r => simp
      obtain ⟨b', off', hA, hr⟩ := hc hp
      cases hA
      exact hr j u hj
    exact (AnyE.slices_Clone Try.clone61 i0 _ 3 40 hi hz0 hz1 hz2 rfl (by decide) size44 b off _ c (entCells xs) w (entCells_length _) (by unfold maxLen; omega) (by omega) hr (entCells_one _)).mono fun e' w' ⟨v', he, ho, _, hb⟩ => ⟨v', he, ho, Only.of_below hb⟩

theorem news_at {W : World} {cs : Array Value} {t : TypeId} : ∀ j u, cs.toList[j]? = some u → (W.alloc (.cells cs t)).cell? ((⟨W.heap.size, 0, none⟩ : Addr).add j) = some u := by
  intro j u hj
  have e : (⟨W.heap.size, 0, none⟩ : Addr).add j = ⟨W.heap.size, j, none⟩ := by
    unfold Addr.add; split <;> simp_all
  rw [e]
  simpa using hj
theorem nodup_sub_length {α : Type} [DecidableEq α] {l m : List α} (hn : l.Nodup) (h : ∀ x ∈ l, x ∈ m) : l.length ≤ m.length := by
  induction l generalizing m with
  | nil => simp
  | cons x r ih =>
    simp only [List.nodup_cons] at hn
    have hx := h x (by simp)
    have := ih (m := m.erase x) hn.2 (fun y hy => by
      have hne : y ≠ x := fun e => hn.1 (e ▸ hy)
      exact (List.mem_erase_of_ne hne).2 (h y (by simp [hy])))
    rw [List.length_erase_of_mem hx] at this
    have : 0 < m.length := List.length_pos_of_mem hx
    simp only [List.length_cons]
    omega
theorem IterAt.length_le {K V : Type} [DecidableEq K] {ek : K → Value} {ev : V → Value} {w : World} {b r : Nat} {M done : List (K × V)} (h : IterAt ek ev w b r M done) : done.length ≤ M.length := by
  have := nodup_sub_length h.nodup (m := akeys M) (fun x hx => by
    obtain ⟨p, hp, rfl⟩ := List.mem_map.1 hx
    exact List.mem_map.2 ⟨p, h.sub p hp, rfl⟩)
  simpa [akeys] using this

theorem own_sl {w : World} {base n : Nat} {e : TypeId} {size : Nat} {v : Value} {xs : List Value} (h : w.ownsRow base e size v n xs) : ∃ A c, v = .slice A n c := by
  rcases h.2 with ⟨rfl, rfl⟩ | ⟨g, cap, cur, rfl, _⟩
  · exact ⟨none, 0, rfl⟩
  · exact ⟨_, cap, rfl⟩
section
variable {w : World} {l : Loc} {S : Led}
set_option maxHeartbeats 4000000 in
set_option maxRecDepth 100000 in
theorem book_any (h : LAt w l S) (hn : (akeys S.A).Nodup) (text : ByteArray) {xv : Value} {xs : List Ent} (hx : ReadsEnts w xv xs) (hx0 : 0 < xs.length) (hx1 : xs.length ≤ 1000) (hP : S.P.length ≤ 100000) {cb : Nat} {D : List (Key × Int)} (hm : MapAt ePair eInt w cb D) (hcb : cb ≠ l.ab) (hxF : ∀ b, xv.ownBlock = some b → ¬ (b = l.ab))
    (hk : ∀ p ∈ D, p.1 ∈ akeys S.A) (hb : ∀ p ∈ D, -9000000000000000000 ≤ (acctOr S.A p.1).bal + p.2 ∧ (acctOr S.A p.1).bal + p.2 ≤ 9000000000000000000) :
    Calls Try.prog 37 #[.pointer (some ⟨l.lb, 0, none⟩), .string text, xv, .map (some cb)] w fun e w' => ∃ pv', e = .returned (.int .i64 ((S.P.length : Int) + 1)) ∧ LAt w' { l with pv := pv' } (bookM S text xs D) ∧ Only l.F w w' ∧ (pv'.ownBlock = l.pv.ownBlock ∨ ∀ b, pv'.ownBlock = some b → w.heap.size ≤ b) := by
  have hcl := hm.lt
  have hab := h.accts.lt
  have hbs := Lib.hid hb
  have hks := Lib.hid hk
  clear hb hk
  go_enter Try.func37, Try.ntmps37
  go_wp2_with (first | (at_range; refine wpList_range_map rfl _ 82 2 rfl Try.underlying82 cb D hm rfl ?_; intro w0 hIt0 ho0 hs0))
  go_frame
  go_loopg [9] (D.length) (fun g _ wr => ∃ done, IterAt ePair eInt wr cb w.heap.size D done ∧ done.length + g = D.length ∧ LAt wr l { S with A := addAll S.A done } ∧ Only (fun i => i = l.ab) w wr)
  case atStart => exact ⟨[], hIt0, by simp, by rw [addAll_nil]; exact h.quiet ho0, ho0.mono fun _ _ h => h.elim⟩
  case round =>
    obtain ⟨done, hIt, hg, hL, ho⟩ := hrel
    have hgd := Lib.hid hg
    clear hg hIt0 ho0 hs0
    obtain ⟨c0, c1, c2, c3⟩ := hL.c
    go_wp2_with (first | (at_next; refine wpList_next_map rfl _ rfl kOps cb w.heap.size D done hIt rfl ?_ ?_))
    · intro hperm
      have hAD : addAll S.A done = addAll S.A D := addAll_perm hIt.nodup hperm
      rw [hAD] at hL
      have hwr : w.heap.size ≤ wr.heap.size := ho.size
      have hxr : ReadsEnts wr xv xs := hx.only ho hxF
      clear hAD hperm hIt hgd
      have hlen : ∀ W, (Builtin.len_ #[40] 3 #[l.pv]).run Try.prog W = .ok (.int .i64 S.P.length) W := by
        intro W
        obtain ⟨evs, _, h2, _⟩ := h.posts
        obtain ⟨A, c, hA⟩ := own_sl h2
        rw [hA]
        simp [Builtin.len_, run_underlying Try.underlying40, Result.andThen, goInt]
      have hC := Lib.hid (fun (W : World) (hW : Only (fun _ => False) wr W) => clone_ents (hxr.only hW (fun _ _ => id)) (.inl hx0) (by omega))
      have hf2 : ∀ W, Only (fun _ => False) wr.drew W → W.cell? ⟨l.lb, 2, none⟩ = some l.pv := fun W hW => hW.keeps c2 not_false
      go_wp2
      refine wp_region_ord (.read 0 (.read 1 (.read 2 (.read 3 (.read 4 (.read 5 (.read 6 (.read 7 (.fork 8 10 (.read 9 (.turn 10 (.turn 11 .stop))) (.turn 8 (.read 9 (.turn 11 .stop)))))))))))) (Only (fun _ => False) _) (by kernel_rfl) (by kernel_rfl) (by kernel_rfl) (by first | exact Only.refl _ _ | assumption) ?_
      refine wpOrd_reads (v := ?_) rfl rfl (fun _ _ _ h => h) ?_ ?_
      rotate_left
      · intro W hW; go_simp; try with_reducible rfl
      go_frame
      refine wpOrd_reads (v := ?_) rfl rfl (fun _ _ _ h => h) ?_ ?_
      rotate_left
      · intro W hW; go_simp; try with_reducible rfl
      go_frame
      refine wpOrd_reads (v := ?_) rfl rfl (fun _ _ _ h => h) ?_ ?_
      rotate_left
      · intro W hW; go_simp; try with_reducible rfl
      go_frame
      refine wpOrd_reads (v := ?_) rfl rfl (fun _ _ _ h => h) ?_ ?_
      rotate_left
      · intro W hW; go_simp; try with_reducible rfl
      go_frame
      refine wpOrd_reads (v := ?_) rfl rfl (fun _ _ _ h => h) ?_ ?_
      rotate_left
      · intro W hW; go_simp; try with_reducible rfl
      go_frame
      refine wpOrd_reads (v := ?_) rfl rfl (fun _ _ _ h => h) ?_ ?_
      rotate_left
      · intro W hW; go_simp; try with_reducible rfl
      go_frame
      refine wpOrd_reads (v := ?_) rfl rfl (fun _ _ _ h => h) ?_ ?_
      rotate_left
      · intro W hW; go_simp; try with_reducible rfl
      go_frame
      refine wpOrd_reads (v := ?_) rfl rfl (fun _ _ _ h => h) ?_ ?_
      rotate_left
      · intro W hW; go_simp; try with_reducible rfl
      go_frame
      refine wpOrd_forks ?_ ?_
      · refine wpOrd_turns rfl ?_
        go_wp2_with (go_at_call 61; refine (hC.out _ (by repeat (first | exact Only.refl _ _ | refine Only.drew ?_ | refine Only.alloc ?_ _))).mono ?_; rintro e w5 ⟨v', rfl, hrow, ho5⟩; have hz5 := ho5.size; obtain ⟨sA, sc, rfl⟩ := own_sl hrow)
        try
          (refine (fun (g0 : w5.cell? ⟨wr.heap.size, 0, none⟩ = some (.int .i64 0)) (g1 : w5.cell? ⟨wr.heap.size, 1, none⟩ = some (.string ⟨#[]⟩)) (g2 : w5.cell? ⟨wr.heap.size, 2, none⟩ = some (.slice none 0 0)) (g3 : w5.frozen? ⟨wr.heap.size, 0, none⟩ = false) (g4 : w5.frozen? ⟨wr.heap.size, 1, none⟩ = false) (g5 : w5.frozen? ⟨wr.heap.size, 2, none⟩ = false) => ?_) (ho5.keeps ?_ not_false) (ho5.keeps ?_ not_false) (ho5.keeps ?_ not_false) ((ho5.frozen ?_ not_false).trans ?_) ((ho5.frozen ?_ not_false).trans ?_) ((ho5.frozen ?_ not_false).trans ?_)
           rotate_left
           iterate 9 (focus (simp; done)))
        have ho6 : Only (fun _ => False) wr.drew w5 := by first | exact ho5 | exact (show Only (fun _ => False) wr.drew _ from (Only.refl _ wr.drew).alloc _).andThen ho5
        refine ⟨ho6, ?_⟩
        refine wpOrd_reads (v := ?_) rfl rfl (fun _ _ _ h => h) ?_ ?_
        rotate_left
        · intro W hW; go_simp; try with_reducible rfl
        go_frame
        refine wpOrd_turns rfl ?_
        go_wp2
        refine ⟨by first | exact (Only.refl _ wr.drew).alloc _ | exact ho6.alloc _, ?_⟩
        refine wpOrd_turns rfl ?_
        go_wp2
        refine ⟨by first | exact ho6.alloc _ | exact ((ho6.setCell (fun h => absurd h (by simp)) _).setCell (fun h => absurd h (by simp)) _).setCell (fun h => absurd h (by simp)) _, ?_⟩
        refine wpOrd_nil ?_
        go_wp2
        first
          | (generalize hW7 : World.alloc w5 _ = W7
             generalize hB : w5.heap.size = B
             have hoW : Only (fun _ => False) wr.drew W7 := hW7 ▸ ho6.alloc _
             have hrow7 : W7.ownsRow 0 44 3 (.slice sA xs.length sc) xs.length (entCells xs) := ownsRow_base (ownsRow_only hrow (hW7 ▸ (Only.refl (fun _ => False) w5).alloc _) (fun _ _ => not_false)) (Nat.zero_le _))
          | (generalize hW7 : World.setCell _ _ _ = W7
             generalize hB : wr.heap.size = B
             have hoW : Only (fun _ => False) wr.drew W7 := hW7 ▸ ((ho6.setCell (fun h => absurd h (by simp)) _).setCell (fun h => absurd h (by simp)) _).setCell (fun h => absurd h (by simp)) _
             have hrow7 : W7.ownsRow 0 44 3 (.slice sA xs.length sc) xs.length (entCells xs) := ownsRow_base (ownsRow_only (F := fun i => i = B) hrow (hW7 ▸ Only.setCell (F := fun i => i = B) (Only.setCell (F := fun i => i = B) (Only.setCell (F := fun i => i = B) (Only.refl _ w5) (fun _ => hB) _) (fun _ => hB) _) (fun _ => hB) _) (fun b hb e => by obtain ⟨_, _, hge⟩ := ownsRow_block hrow hb; simp at hge; omega)) (Nat.zero_le _))
        have e0 : W7.cell? ⟨B, 0, none⟩ = some (.int .i64 ((S.P.length : Int) + 1)) := by subst hB hW7; go_simp
        have e1 : W7.cell? ⟨B, 1, none⟩ = some (.string text) := by subst hB hW7; go_simp
        have e2 : W7.cell? ⟨B, 2, none⟩ = some (.slice sA xs.length sc) := by subst hB hW7; go_simp
        have hBge : wr.heap.size ≤ B := by have := ho6.size; simp at this; omega
        clear hB hW7 hrow hz5 hC hlen
        obtain ⟨evs, hel, hrp, hents⟩ := hL.posts
        obtain ⟨i0, hi, hz0, hz1, hz2⟩ := info_parts info46
        have hL7 := (hL.quiet ((Only.refl _ _).drew)).quiet hoW
        have hpv : ∀ b, l.pv.ownBlock = some b → b < w.heap.size := fun b hb => h.F_lt (.inr (.inr (.inr hb)))
        have hlbl := h.lt
        have hpl : ¬ (l.pv.ownBlock = some l.lb) := h.pv_ne.1
        have hrp7 : (W7.drew).ownsRow 0 46 3 l.pv S.P.length (postCells S.P evs) := ownsRow_only hrp (((Only.refl (fun _ => False) wr).drew.trans hoW fun _ _ h => h).drew) (fun _ _ => not_false)
        have k2 : ∀ W, Only (fun i => l.pv.ownBlock = some i) W7.drew W → W.cell? ⟨l.lb, 2, none⟩ = some l.pv := fun W hW => hW.keeps (hoW.keeps c2 not_false) hpl
        have j0 : ∀ W, Only (fun i => l.pv.ownBlock = some i) W7.drew W → W.cell? ⟨B, 0, none⟩ = some (.int .i64 ((S.P.length : Int) + 1)) := fun W hW => hW.keeps e0 (fun e => by have := hpv _ e; simp only at this; omega)
        have j1 : ∀ W, Only (fun i => l.pv.ownBlock = some i) W7.drew W → W.cell? ⟨B, 1, none⟩ = some (.string text) := fun W hW => hW.keeps e1 (fun e => by have := hpv _ e; simp only at this; omega)
        have j2 : ∀ W, Only (fun i => l.pv.ownBlock = some i) W7.drew W → W.cell? ⟨B, 2, none⟩ = some (.slice sA xs.length sc) := fun W hW => hW.keeps e2 (fun e => by have := hpv _ e; simp only at this; omega)
        refine wp_region_ord (.read 0 (.read 1 (.read 2 (.read 3 (.read 4 (.read 5 (.turn 6 (.turn 7 (.read 8 (.read 9 (.last 10))))))))))) (Only (fun i => l.pv.ownBlock = some i) _) (by kernel_rfl) (by kernel_rfl) (by kernel_rfl) (by first | exact Only.refl _ _ | assumption) ?_
        refine wpOrd_reads (v := ?_) rfl rfl (fun _ _ _ h => h) ?_ ?_
        rotate_left
        · intro W hW; go_simp; try with_reducible rfl
        go_frame
        refine wpOrd_reads (v := ?_) rfl rfl (fun _ _ _ h => h) ?_ ?_
        rotate_left
        · intro W hW; go_simp; try with_reducible rfl
        go_frame
        refine wpOrd_reads (v := ?_) rfl rfl (fun _ _ _ h => h) ?_ ?_
        rotate_left
        · intro W hW; go_simp; try with_reducible rfl
        go_frame
        refine wpOrd_reads (v := ?_) rfl rfl (fun _ _ _ h => h) ?_ ?_
        rotate_left
        · intro W hW; go_simp; try with_reducible rfl
        go_frame
        refine wpOrd_reads (v := ?_) rfl rfl (fun _ _ _ h => h) ?_ ?_
        rotate_left
        · intro W hW; go_simp; try with_reducible rfl
        go_frame
        refine wpOrd_reads (v := ?_) rfl rfl (fun _ _ _ h => h) ?_ ?_
        rotate_left
        · intro W hW; go_simp; try with_reducible rfl
        go_frame
        refine wpOrd_turns rfl ?_
        go_wp2
        refine ⟨(Only.refl _ W7.drew).alloc _, ?_⟩
        refine wpOrd_turns rfl ?_
        refine wpList_append_own_at _ rfl _ _ 40 rfl 0 46 i0 _ 3 48 Try.underlying40 hi hz0 hz1 hz2 rfl (by decide) l.pv S.P.length (postCells S.P evs) rfl (hrp7.alloc _) ⟨W7.heap.size, 0, none⟩ 1 1 [.int .i64 ((S.P.length : Int) + 1), .string text, .slice sA xs.length sc] rfl rfl ?c1 ?c2 ?c3 ?c4 ?c5 ?_
        case c1 => exact news_at (W := W7) (cs := #[.int .i64 ((S.P.length : Int) + 1), .string text, .slice sA xs.length sc]) (t := 46)
        case c2 => intro u hu; simp at hu; rcases hu with rfl | rfl | rfl <;> rfl
        case c3 => unfold maxLen; omega
        case c4 => omega
        case c5 => exact Nat.zero_le _
        intro v1 w8 hown8 hg8 _ hat8
        have ho8 : Only (fun i => l.pv.ownBlock = some i) W7.drew w8 := (show Only (fun i => l.pv.ownBlock = some i) W7.drew _ from (Only.refl _ W7.drew).alloc _).grown hg8 (fun k hk _ => hk)
        refine wpList_nil ⟨ho8, ?_⟩
        refine wpOrd_reads (v := ?_) rfl rfl (fun _ _ _ h => h) ?_ ?_
        rotate_left
        · intro W hW; go_simp; try with_reducible rfl
        go_frame
        refine wpOrd_reads (v := ?_) rfl rfl (fun _ _ _ h => h) ?_ ?_
        rotate_left
        · intro W hW; go_simp; try with_reducible rfl
        go_frame
        refine wpOrd_lasts rfl ?_
        obtain ⟨sA1, sc1, rfl⟩ := own_sl hown8
        have he2 : w8.cell? ⟨l.lb, 2, none⟩ = some l.pv := ho8.keeps (hoW.keeps c2 not_false) hpl
        have hfr : w8.frozen? ⟨l.lb, 2, none⟩ = false := by
          have := ho8.heap (hL7.quiet (Only.refl _ _).drew).cell hpl
          simp [World.frozen?, this]
        have he0 : w8.cell? ⟨B, 0, none⟩ = some (.int .i64 ((S.P.length : Int) + 1)) := j0 _ ho8
        have hBl : B ≠ l.lb := by omega
        go_wp2
        refine ⟨trivial, ?_⟩
        go_wp2
        go_ret
        have hge : w.heap.size ≤ W7.heap.size := Nat.le_trans hwr (by have := hoW.size; simpa using this)
        have hvo : (Value.slice sA1 (S.P.length + 1) sc1).ownBlock = l.pv.ownBlock ∨ ∀ b, (Value.slice sA1 (S.P.length + 1) sc1).ownBlock = some b → w.heap.size ≤ b := hat8.imp id (fun e b hb => by rw [e] at hb; simp at hb; omega)
        have hvo' : (Value.slice sA1 (S.P.length + 1) sc1).ownBlock = l.pv.ownBlock ∨ ∀ b, (Value.slice sA1 (S.P.length + 1) sc1).ownBlock = some b → W7.drew.heap.size ≤ b := hat8.imp id (fun e b hb => by rw [e] at hb; simp at hb; simp; omega)
        have hNE : NoEnts (fun i => l.pv.ownBlock = some i) W7.drew := fun b c fr hb => (hL7.quiet (Only.refl _ _).drew).noEnts b c fr (.inr (.inr (.inr hb)))
        have hents8 : ∀ (j : Nat) (p : PostM) (v : Value), S.P[j]? = some p → evs[j]? = some v → w8.ownsRow 0 44 3 v p.ents.length (entCells p.ents) := fun j p v hj hv => by
          have h0 := ownsRow_only (hents j p v hj hv) (((Only.refl (fun _ => False) wr).drew.trans hoW fun _ _ h => h).drew) (fun _ _ => not_false)
          exact ownsRow_only h0 ho8 fun b hb hf => by obtain ⟨c, hc, _⟩ := ownsRow_block h0 hb; exact hNE b c _ hf hc
        have hnew8 : w8.ownsRow 0 44 3 (.slice sA xs.length sc) xs.length (entCells xs) := by
          have h0 := ownsRow_only hrow7 (Only.refl (fun _ => False) W7).drew (fun _ _ => not_false)
          exact ownsRow_only h0 ho8 fun b hb hf => by obtain ⟨c, hc, _⟩ := ownsRow_block h0 hb; exact hNE b c _ hf hc
        have hPA : PostsAt w8 (.slice sA1 (S.P.length + 1) sc1) (S.P ++ [⟨(S.P.length : Int) + 1, text, xs⟩]) := PostsAt.snoc hel hents8 hnew8 hown8
        refine ⟨.slice sA1 (S.P.length + 1) sc1, rfl, (hL7.quiet (Only.refl _ _).drew).putP ho8 hPA hvo', ?_, hvo⟩
        refine Only.setCell ?_ (fun _ => .inl rfl) _
        have hoA : Only l.F w wr := ho.mono fun i _ e => .inr (.inl e)
        have hoB : Only l.F wr W7.drew := ((Only.refl (fun _ => False) wr).drew.trans hoW fun _ _ h => h).drew.mono fun _ _ h => h.elim
        exact (hoA.trans hoB fun _ _ h => h).trans ho8 fun i _ h => .inr (.inr (.inr h))
      · refine wpOrd_turns rfl ?_
        go_wp2
        refine ⟨by first | exact (Only.refl _ wr.drew).alloc _ | exact ho6.alloc _, ?_⟩
        refine wpOrd_turns rfl ?_
        go_wp2_with (go_at_call 61; refine (hC.out _ (by repeat (first | exact Only.refl _ _ | refine Only.drew ?_ | refine Only.alloc ?_ _))).mono ?_; rintro e w5 ⟨v', rfl, hrow, ho5⟩; have hz5 := ho5.size; obtain ⟨sA, sc, rfl⟩ := own_sl hrow)
        try
          (refine (fun (g0 : w5.cell? ⟨wr.heap.size, 0, none⟩ = some (.int .i64 0)) (g1 : w5.cell? ⟨wr.heap.size, 1, none⟩ = some (.string ⟨#[]⟩)) (g2 : w5.cell? ⟨wr.heap.size, 2, none⟩ = some (.slice none 0 0)) (g3 : w5.frozen? ⟨wr.heap.size, 0, none⟩ = false) (g4 : w5.frozen? ⟨wr.heap.size, 1, none⟩ = false) (g5 : w5.frozen? ⟨wr.heap.size, 2, none⟩ = false) => ?_) (ho5.keeps ?_ not_false) (ho5.keeps ?_ not_false) (ho5.keeps ?_ not_false) ((ho5.frozen ?_ not_false).trans ?_) ((ho5.frozen ?_ not_false).trans ?_) ((ho5.frozen ?_ not_false).trans ?_)
           rotate_left
           iterate 9 (focus (simp; done)))
        have ho6 : Only (fun _ => False) wr.drew w5 := by first | exact ho5 | exact (show Only (fun _ => False) wr.drew _ from (Only.refl _ wr.drew).alloc _).andThen ho5
        refine ⟨ho6, ?_⟩
        refine wpOrd_reads (v := ?_) rfl rfl (fun _ _ _ h => h) ?_ ?_
        rotate_left
        · intro W hW; go_simp; try with_reducible rfl
        go_frame
        refine wpOrd_turns rfl ?_
        go_wp2
        refine ⟨by first | exact ho6.alloc _ | exact ((ho6.setCell (fun h => absurd h (by simp)) _).setCell (fun h => absurd h (by simp)) _).setCell (fun h => absurd h (by simp)) _, ?_⟩
        refine wpOrd_nil ?_
        go_wp2
        first
          | (generalize hW7 : World.alloc w5 _ = W7
             generalize hB : w5.heap.size = B
             have hoW : Only (fun _ => False) wr.drew W7 := hW7 ▸ ho6.alloc _
             have hrow7 : W7.ownsRow 0 44 3 (.slice sA xs.length sc) xs.length (entCells xs) := ownsRow_base (ownsRow_only hrow (hW7 ▸ (Only.refl (fun _ => False) w5).alloc _) (fun _ _ => not_false)) (Nat.zero_le _))
          | (generalize hW7 : World.setCell _ _ _ = W7
             generalize hB : wr.heap.size = B
             have hoW : Only (fun _ => False) wr.drew W7 := hW7 ▸ ((ho6.setCell (fun h => absurd h (by simp)) _).setCell (fun h => absurd h (by simp)) _).setCell (fun h => absurd h (by simp)) _
             have hrow7 : W7.ownsRow 0 44 3 (.slice sA xs.length sc) xs.length (entCells xs) := ownsRow_base (ownsRow_only (F := fun i => i = B) hrow (hW7 ▸ Only.setCell (F := fun i => i = B) (Only.setCell (F := fun i => i = B) (Only.setCell (F := fun i => i = B) (Only.refl _ w5) (fun _ => hB) _) (fun _ => hB) _) (fun _ => hB) _) (fun b hb e => by obtain ⟨_, _, hge⟩ := ownsRow_block hrow hb; simp at hge; omega)) (Nat.zero_le _))
        have e0 : W7.cell? ⟨B, 0, none⟩ = some (.int .i64 ((S.P.length : Int) + 1)) := by subst hB hW7; go_simp
        have e1 : W7.cell? ⟨B, 1, none⟩ = some (.string text) := by subst hB hW7; go_simp
        have e2 : W7.cell? ⟨B, 2, none⟩ = some (.slice sA xs.length sc) := by subst hB hW7; go_simp
        have hBge : wr.heap.size ≤ B := by have := ho6.size; simp at this; omega
        clear hB hW7 hrow hz5 hC hlen
        obtain ⟨evs, hel, hrp, hents⟩ := hL.posts
        obtain ⟨i0, hi, hz0, hz1, hz2⟩ := info_parts info46
        have hL7 := (hL.quiet ((Only.refl _ _).drew)).quiet hoW
        have hpv : ∀ b, l.pv.ownBlock = some b → b < w.heap.size := fun b hb => h.F_lt (.inr (.inr (.inr hb)))
        have hlbl := h.lt
        have hpl : ¬ (l.pv.ownBlock = some l.lb) := h.pv_ne.1
        have hrp7 : (W7.drew).ownsRow 0 46 3 l.pv S.P.length (postCells S.P evs) := ownsRow_only hrp (((Only.refl (fun _ => False) wr).drew.trans hoW fun _ _ h => h).drew) (fun _ _ => not_false)
        have k2 : ∀ W, Only (fun i => l.pv.ownBlock = some i) W7.drew W → W.cell? ⟨l.lb, 2, none⟩ = some l.pv := fun W hW => hW.keeps (hoW.keeps c2 not_false) hpl
        have j0 : ∀ W, Only (fun i => l.pv.ownBlock = some i) W7.drew W → W.cell? ⟨B, 0, none⟩ = some (.int .i64 ((S.P.length : Int) + 1)) := fun W hW => hW.keeps e0 (fun e => by have := hpv _ e; simp only at this; omega)
        have j1 : ∀ W, Only (fun i => l.pv.ownBlock = some i) W7.drew W → W.cell? ⟨B, 1, none⟩ = some (.string text) := fun W hW => hW.keeps e1 (fun e => by have := hpv _ e; simp only at this; omega)
        have j2 : ∀ W, Only (fun i => l.pv.ownBlock = some i) W7.drew W → W.cell? ⟨B, 2, none⟩ = some (.slice sA xs.length sc) := fun W hW => hW.keeps e2 (fun e => by have := hpv _ e; simp only at this; omega)
        refine wp_region_ord (.read 0 (.read 1 (.read 2 (.read 3 (.read 4 (.read 5 (.turn 6 (.turn 7 (.read 8 (.read 9 (.last 10))))))))))) (Only (fun i => l.pv.ownBlock = some i) _) (by kernel_rfl) (by kernel_rfl) (by kernel_rfl) (by first | exact Only.refl _ _ | assumption) ?_
        refine wpOrd_reads (v := ?_) rfl rfl (fun _ _ _ h => h) ?_ ?_
        rotate_left
        · intro W hW; go_simp; try with_reducible rfl
        go_frame
        refine wpOrd_reads (v := ?_) rfl rfl (fun _ _ _ h => h) ?_ ?_
        rotate_left
        · intro W hW; go_simp; try with_reducible rfl
        go_frame
        refine wpOrd_reads (v := ?_) rfl rfl (fun _ _ _ h => h) ?_ ?_
        rotate_left
        · intro W hW; go_simp; try with_reducible rfl
        go_frame
        refine wpOrd_reads (v := ?_) rfl rfl (fun _ _ _ h => h) ?_ ?_
        rotate_left
        · intro W hW; go_simp; try with_reducible rfl
        go_frame
        refine wpOrd_reads (v := ?_) rfl rfl (fun _ _ _ h => h) ?_ ?_
        rotate_left
        · intro W hW; go_simp; try with_reducible rfl
        go_frame
        refine wpOrd_reads (v := ?_) rfl rfl (fun _ _ _ h => h) ?_ ?_
        rotate_left
        · intro W hW; go_simp; try with_reducible rfl
        go_frame
        refine wpOrd_turns rfl ?_
        go_wp2
        refine ⟨(Only.refl _ W7.drew).alloc _, ?_⟩
        refine wpOrd_turns rfl ?_
        refine wpList_append_own_at _ rfl _ _ 40 rfl 0 46 i0 _ 3 48 Try.underlying40 hi hz0 hz1 hz2 rfl (by decide) l.pv S.P.length (postCells S.P evs) rfl (hrp7.alloc _) ⟨W7.heap.size, 0, none⟩ 1 1 [.int .i64 ((S.P.length : Int) + 1), .string text, .slice sA xs.length sc] rfl rfl ?c1 ?c2 ?c3 ?c4 ?c5 ?_
        case c1 => exact news_at (W := W7) (cs := #[.int .i64 ((S.P.length : Int) + 1), .string text, .slice sA xs.length sc]) (t := 46)
        case c2 => intro u hu; simp at hu; rcases hu with rfl | rfl | rfl <;> rfl
        case c3 => unfold maxLen; omega
        case c4 => omega
        case c5 => exact Nat.zero_le _
        intro v1 w8 hown8 hg8 _ hat8
        have ho8 : Only (fun i => l.pv.ownBlock = some i) W7.drew w8 := (show Only (fun i => l.pv.ownBlock = some i) W7.drew _ from (Only.refl _ W7.drew).alloc _).grown hg8 (fun k hk _ => hk)
        refine wpList_nil ⟨ho8, ?_⟩
        refine wpOrd_reads (v := ?_) rfl rfl (fun _ _ _ h => h) ?_ ?_
        rotate_left
        · intro W hW; go_simp; try with_reducible rfl
        go_frame
        refine wpOrd_reads (v := ?_) rfl rfl (fun _ _ _ h => h) ?_ ?_
        rotate_left
        · intro W hW; go_simp; try with_reducible rfl
        go_frame
        refine wpOrd_lasts rfl ?_
        obtain ⟨sA1, sc1, rfl⟩ := own_sl hown8
        have he2 : w8.cell? ⟨l.lb, 2, none⟩ = some l.pv := ho8.keeps (hoW.keeps c2 not_false) hpl
        have hfr : w8.frozen? ⟨l.lb, 2, none⟩ = false := by
          have := ho8.heap (hL7.quiet (Only.refl _ _).drew).cell hpl
          simp [World.frozen?, this]
        have he0 : w8.cell? ⟨B, 0, none⟩ = some (.int .i64 ((S.P.length : Int) + 1)) := j0 _ ho8
        have hBl : B ≠ l.lb := by omega
        go_wp2
        refine ⟨trivial, ?_⟩
        go_wp2
        go_ret
        have hge : w.heap.size ≤ W7.heap.size := Nat.le_trans hwr (by have := hoW.size; simpa using this)
        have hvo : (Value.slice sA1 (S.P.length + 1) sc1).ownBlock = l.pv.ownBlock ∨ ∀ b, (Value.slice sA1 (S.P.length + 1) sc1).ownBlock = some b → w.heap.size ≤ b := hat8.imp id (fun e b hb => by rw [e] at hb; simp at hb; omega)
        have hvo' : (Value.slice sA1 (S.P.length + 1) sc1).ownBlock = l.pv.ownBlock ∨ ∀ b, (Value.slice sA1 (S.P.length + 1) sc1).ownBlock = some b → W7.drew.heap.size ≤ b := hat8.imp id (fun e b hb => by rw [e] at hb; simp at hb; simp; omega)
        have hNE : NoEnts (fun i => l.pv.ownBlock = some i) W7.drew := fun b c fr hb => (hL7.quiet (Only.refl _ _).drew).noEnts b c fr (.inr (.inr (.inr hb)))
        have hents8 : ∀ (j : Nat) (p : PostM) (v : Value), S.P[j]? = some p → evs[j]? = some v → w8.ownsRow 0 44 3 v p.ents.length (entCells p.ents) := fun j p v hj hv => by
          have h0 := ownsRow_only (hents j p v hj hv) (((Only.refl (fun _ => False) wr).drew.trans hoW fun _ _ h => h).drew) (fun _ _ => not_false)
          exact ownsRow_only h0 ho8 fun b hb hf => by obtain ⟨c, hc, _⟩ := ownsRow_block h0 hb; exact hNE b c _ hf hc
        have hnew8 : w8.ownsRow 0 44 3 (.slice sA xs.length sc) xs.length (entCells xs) := by
          have h0 := ownsRow_only hrow7 (Only.refl (fun _ => False) W7).drew (fun _ _ => not_false)
          exact ownsRow_only h0 ho8 fun b hb hf => by obtain ⟨c, hc, _⟩ := ownsRow_block h0 hb; exact hNE b c _ hf hc
        have hPA : PostsAt w8 (.slice sA1 (S.P.length + 1) sc1) (S.P ++ [⟨(S.P.length : Int) + 1, text, xs⟩]) := PostsAt.snoc hel hents8 hnew8 hown8
        refine ⟨.slice sA1 (S.P.length + 1) sc1, rfl, (hL7.quiet (Only.refl _ _).drew).putP ho8 hPA hvo', ?_, hvo⟩
        refine Only.setCell ?_ (fun _ => .inl rfl) _
        have hoA : Only l.F w wr := ho.mono fun i _ e => .inr (.inl e)
        have hoB : Only l.F wr W7.drew := ((Only.refl (fun _ => False) wr).drew.trans hoW fun _ _ h => h).drew.mono fun _ _ h => h.elim
        exact (hoA.trans hoB fun _ _ h => h).trans ho8 fun i _ h => .inr (.inr (.inr h))
    · intro k1 k2 n w1 hin hnot hIt1 ho1 hs1 hen
      simp only [ePair, eInt] at hen ⊢
      have hs1' : wr.heap.size ≤ w1.heap.size := ho1.size
      have hrw := hIt.lt
      have hcw := hIt.map.lt
      clear hs1
      have hrF : ∀ i, l.F i → ¬ (i = w.heap.size) := fun i hi e => by have := h.F_lt hi; omega
      have hL1 := hL.only ho1 hrF (fun b c fr hb hc => by subst hb; obtain ⟨m, s, c', d, hr⟩ := hIt.iter; rw [hr] at hc; cases hc)
      have ho1w : Only (fun i => i = l.ab) w w1 := ho.new ho1 (Nat.le_refl _)
      have hkA : (k1, k2) ∈ akeys S.A := hks.out _ hin
      have hbb := hbs.out _ hin
      have hlk : ∀ W, Only (fun _ => False) w1 W → (Instr.lookup 72 (.map (some l.ab)) (.agg #[.string k1, .string k2]) false).run Try.prog W = .ok (.agg #[.int .i64 (acctOr S.A (k1, k2)).floor, .int .i64 (acctOr S.A (k1, k2)).bal, .int .i64 (acctOr S.A (k1, k2)).held]) W := fun W hW => by
        have := look_acct (hL1.accts.only hW not_false) k1 k2 false
        rw [show acctOr (addAll S.A done) (k1, k2) = acctOr S.A (k1, k2) from acctOr_addAll hnot] at this
        exact this
      have hstep := addAll_step hn (n := n) hkA hnot
      simp only at hbb
      generalize hr0 : acctOr S.A (k1, k2) = r at hlk hbb hstep
      clear hr0
      obtain ⟨rf, rb, rh⟩ := r
      simp only at hlk hbb hstep
      have hStep := Lib.hid hstep
      have hIn := Lib.hid hin
      have hNot := Lib.hid hnot
      obtain ⟨hbb1, hbb2⟩ := hbb
      clear hstep hin hnot hkA hIt
      obtain ⟨c0, c1, c2, c3⟩ := hL1.c
      go_wp2
      have ho0 := ((Only.refl (fun _ => False) w1).alloc (.cells #[.string k1, .string k2] 68)).drew
      have hc1 : ∀ W, Only (fun _ => False) (w1.alloc (.cells #[.string k1, .string k2] 68)).drew W → W.cell? ⟨l.lb, 1, none⟩ = some (.map (some l.ab)) := fun W hW => hW.keeps (ho0.keeps c1 not_false) not_false
      have hc4 : ∀ W, Only (fun _ => False) (w1.alloc (.cells #[.string k1, .string k2] 68)).drew W → W.cell? ⟨w1.heap.size, 0, none⟩ = some (.string k1) := fun W hW => hW.keeps (by go_simp) not_false
      have hc5 : ∀ W, Only (fun _ => False) (w1.alloc (.cells #[.string k1, .string k2] 68)).drew W → W.cell? ⟨w1.heap.size, 1, none⟩ = some (.string k2) := fun W hW => hW.keeps (by go_simp) not_false
      have hlk' : ∀ W, Only (fun _ => False) (w1.alloc (.cells #[.string k1, .string k2] 68)).drew W → (Instr.lookup 72 (.map (some l.ab)) (.agg #[.string k1, .string k2]) false).run Try.prog W = .ok (.agg #[.int .i64 rf, .int .i64 rb, .int .i64 rh]) W := fun W hW => hlk W (ho0.trans hW fun _ _ h => h)
      clear hlk
      refine wp_region_ord (.read 0 (.read 1 (.read 2 (.read 3 (.read 4 (.read 5 (.turn 6 (.turn 7 .stop)))))))) (Only (fun _ => False) _) (by kernel_rfl) (by kernel_rfl) (by kernel_rfl) (by first | exact Only.refl _ _ | assumption) ?_
      refine wpOrd_reads (v := ?_) rfl rfl (fun _ _ _ h => h) ?_ ?_
      rotate_left
      · intro W hW; go_simp; try with_reducible rfl
      go_frame
      refine wpOrd_reads (v := ?_) rfl rfl (fun _ _ _ h => h) ?_ ?_
      rotate_left
      · intro W hW; go_simp; try with_reducible rfl
      go_frame
      refine wpOrd_reads (v := ?_) rfl rfl (fun _ _ _ h => h) ?_ ?_
      rotate_left
      · intro W hW; go_simp; try with_reducible rfl
      go_frame
      refine wpOrd_reads (v := ?_) rfl rfl (fun _ _ _ h => h) ?_ ?_
      rotate_left
      · intro W hW; go_simp; try with_reducible rfl
      go_frame
      refine wpOrd_reads (v := ?_) rfl rfl (fun _ _ _ h => h) ?_ ?_
      rotate_left
      · intro W hW; go_simp; try with_reducible rfl
      go_frame
      refine wpOrd_reads (v := ?_) rfl rfl (fun _ _ _ h => h) ?_ ?_
      rotate_left
      · intro W hW; go_simp; try with_reducible rfl
      go_frame
      refine wpOrd_turns rfl ?_
      go_wp2
      refine ⟨(Only.refl _ _).alloc _, ?_⟩
      refine wpOrd_turns rfl ?_
      go_wp2
      refine ⟨(Only.refl _ _).alloc _, ?_⟩
      refine wpOrd_nil ?_
      go_wp2
      generalize hw2 : ((w1.alloc (Obj.cells #[Value.string k1, Value.string k2] 68)).alloc (Obj.cells #[Value.int IntKind.i64 rf, Value.int IntKind.i64 (rb + n), Value.int IntKind.i64 rh] 70)).drew = w2
      have ho2 : Only (fun _ => False) w1 w2 := hw2 ▸ (((Only.refl (fun _ => False) w1).alloc _).alloc _).drew
      have hd1 : w2.cell? ⟨l.lb, 1, none⟩ = some (.map (some l.ab)) := ho2.keeps c1 not_false
      have hd2 : w2.cell? ⟨w1.heap.size, 0, none⟩ = some (.string k1) := by subst hw2; go_simp
      have hd3 : w2.cell? ⟨w1.heap.size, 1, none⟩ = some (.string k2) := by subst hw2; go_simp
      have hd4 : w2.cell? ⟨w1.heap.size + 1, 0, none⟩ = some (.int .i64 rf) := by subst hw2; go_simp
      have hd5 : w2.cell? ⟨w1.heap.size + 1, 1, none⟩ = some (.int .i64 (rb + n)) := by subst hw2; go_simp
      have hd6 : w2.cell? ⟨w1.heap.size + 1, 2, none⟩ = some (.int .i64 rh) := by subst hw2; go_simp
      clear hw2 hc1 hc4 hc5 hlk'
      have hc1 : ∀ W, Only (fun i => i = l.ab) w2.drew W → W.cell? ⟨l.lb, 1, none⟩ = some (.map (some l.ab)) := fun W hW => hW.keeps hd1 h.ne_ab
      have hc2 : ∀ W, Only (fun i => i = l.ab) w2.drew W → W.cell? ⟨w1.heap.size, 0, none⟩ = some (.string k1) := fun W hW => hW.keeps hd2 (fun e => by simp only at e; omega)
      have hc3 : ∀ W, Only (fun i => i = l.ab) w2.drew W → W.cell? ⟨w1.heap.size, 1, none⟩ = some (.string k2) := fun W hW => hW.keeps hd3 (fun e => by simp only at e; omega)
      have hc4 : ∀ W, Only (fun i => i = l.ab) w2.drew W → W.cell? ⟨w1.heap.size + 1, 0, none⟩ = some (.int .i64 rf) := fun W hW => hW.keeps hd4 (fun e => by simp only at e; omega)
      have hc5 : ∀ W, Only (fun i => i = l.ab) w2.drew W → W.cell? ⟨w1.heap.size + 1, 1, none⟩ = some (.int .i64 (rb + n)) := fun W hW => hW.keeps hd5 (fun e => by simp only at e; omega)
      have hc6 : ∀ W, Only (fun i => i = l.ab) w2.drew W → W.cell? ⟨w1.heap.size + 1, 2, none⟩ = some (.int .i64 rh) := fun W hW => hW.keeps hd6 (fun e => by simp only at e; omega)
      refine wp_region_ord (.read 0 (.read 1 (.read 2 (.read 3 (.read 4 (.read 5 (.turn 6 .stop))))))) (Only (fun i => i = l.ab) _) (by kernel_rfl) (by kernel_rfl) (by kernel_rfl) (by first | exact Only.refl _ _ | assumption) ?_
      refine wpOrd_reads (v := ?_) rfl rfl (fun _ _ _ h => h) ?_ ?_
      rotate_left
      · intro W hW; go_simp; try with_reducible rfl
      go_frame
      refine wpOrd_reads (v := ?_) rfl rfl (fun _ _ _ h => h) ?_ ?_
      rotate_left
      · intro W hW; go_simp; try with_reducible rfl
      go_frame
      refine wpOrd_reads (v := ?_) rfl rfl (fun _ _ _ h => h) ?_ ?_
      rotate_left
      · intro W hW; go_simp; try with_reducible rfl
      go_frame
      refine wpOrd_reads (v := ?_) rfl rfl (fun _ _ _ h => h) ?_ ?_
      rotate_left
      · intro W hW; go_simp; try with_reducible rfl
      go_frame
      refine wpOrd_reads (v := ?_) rfl rfl (fun _ _ _ h => h) ?_ ?_
      rotate_left
      · intro W hW; go_simp; try with_reducible rfl
      go_frame
      refine wpOrd_reads (v := ?_) rfl rfl (fun _ _ _ h => h) ?_ ?_
      rotate_left
      · intro W hW; go_simp; try with_reducible rfl
      go_frame
      refine wpOrd_turns rfl ?_
      refine wpList_store_map rfl _ _ _ 72 70 rfl kOps Try.underlying72 l.ab (addAll S.A done) (hL1.accts.only ho2.drew not_false) rfl (k1, k2) ⟨rf, rb + n, rh⟩ rfl rfl ?_
      intro w3 hM3 ho3 hs3
      refine wpList_nil ⟨ho3, ?_⟩
      refine wpOrd_nil ?_
      clear hs3
      go_wp2
      go_roundg (D.length - (done.length + 1))
      case measure =>
        have h1 := hIt1.length_le
        have h2 := hgd.out
        simp only [List.length_append, List.length_cons, List.length_nil] at h1
        omega
      case rel =>
        refine ⟨done ++ [((k1, k2), n)], (hIt1.only ho2.drew not_false not_false).only ho3 hcb (fun e => by omega), ?_, ?_, (ho1w.andQuiet ho2.drew).trans ho3 fun _ _ h => h⟩
        · have h1 := hIt1.length_le
          simp only [List.length_append, List.length_cons, List.length_nil] at h1 ⊢
          omega
        · have := (hL1.quiet ho2.drew).putA ho3 hM3
          rw [hStep.out] at this
          exact this
end
end Go.Proofs.Ytoeokakcdfdjkaa
