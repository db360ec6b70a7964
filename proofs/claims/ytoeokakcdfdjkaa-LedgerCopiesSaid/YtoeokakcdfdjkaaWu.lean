/- WALKS: the document's Same at equal entries; Copy; alike. -/
import Derived.Test.YtoeokakcdfdjkaaWs
import Derived.Test.YtoeokakcdfdjkaaEq
import Derived.Test.YtoeokakcdfdjkaaSjo
import Derived.Deep.QuietTactic
import Derived.BigQuiet
namespace Go.Proofs.Ytoeokakcdfdjkaa
open Go.RowKit Go.Shelf
attribute [local go_sem high] eqEnt
def SamePost (w : World) (e : Ending) (w' : World) : Prop := e = .returned (.bool true) ∧ Only (fun _ => False) w w'
theorem Only.drewN {F : Nat → Prop} {a b : World} (h : Only F a b) (n : Nat) : Only F a (b.drewN n) := ⟨h.os, h.tape, h.output, h.size, h.block⟩
set_option maxHeartbeats 4000000 in
set_option maxRecDepth 100000 in
theorem same_any {w : World} {va vb : Value} {xs : List Ent} (ha : ReadsEnts w va xs) (hb : ReadsEnts w vb xs) (hl : xs.length ≤ 100000) : Calls Try.prog 45 #[va, vb] w (SamePost w) := by
  have hA := Lib.hid ha
  have hB := Lib.hid hb
  obtain ⟨A1, c1, rfl, _⟩ := ha
  obtain ⟨A2, c2, rfl, _⟩ := hb
  go_enter Try.func45, Try.ntmps45
  go_wp2
  go_loopg [5] (xs.length) (fun g v5 wr => ∃ i : Nat, v5 = .int .i64 (i : Int) ∧ i + g = xs.length ∧ Only (fun _ => False) w wr)
  case atStart => exact ⟨0, rfl, by omega, Only.refl _ _⟩
  case round =>
    obtain ⟨i, rfl, hg, ho⟩ := hrel
    by_cases hi : i < xs.length
    · obtain ⟨x, hx⟩ : ∃ x, xs[i]? = some x := ⟨xs[i], List.getElem?_eq_getElem hi⟩
      obtain ⟨A', c', hA', hr⟩ := (hA.out.only ho fun _ _ => id).cells
      obtain ⟨A3, c3, hB', hs⟩ := (hB.out.only ho fun _ _ => id).cells
      injection hA' with hA1 hA2 hA3
      injection hB' with hB1 hB2 hB3
      subst hA1 hA3 hB1 hB3
      obtain ⟨b, off, rfl, k0, k1, k2⟩ := hr i x hx
      obtain ⟨b', off', rfl, j0, j1, j2⟩ := hs i x hx
      obtain ⟨x1, x2, x3⟩ := x
      simp only at k0 k1 k2 j0 j1 j2
      clear hr hs hx hA2 hB2
      go_wp2
      go_quiet (fail)
      go_wp2
      go_roundg (xs.length - (i + 1))
      case measure => omega
      case rel => exact ⟨i + 1, by simp, by omega, ho.drewN _⟩
    · go_wp2
      go_ret
      exact ⟨rfl, ho⟩
theorem clone_map {K V : Type} {ek : K → Value} {ev : V → Value} {w : World} {b f : Nat} {M : List (K × V)} (h : MapAt ek ev w b M) (hf : ∀ es clock, w.heap[b]? = some (.map es clock) → Calls Try.prog f #[.map (some b)] w fun e w' => e = .returned (.map (some w.heap.size)) ∧ w' = w.alloc (.map es clock)) :
    Calls Try.prog f #[.map (some b)] w fun e w' => e = .returned (.map (some w.heap.size)) ∧ MapAt ek ev w' w.heap.size M ∧ Only (fun _ => False) w w' ∧ w'.heap.size = w.heap.size + 1 := by
  obtain ⟨es, clock, hb, hs, hm⟩ := h
  refine (hf es clock hb).mono fun e w' ⟨he, hw⟩ => ⟨he, ?_, ?_, ?_⟩
  · subst hw
    exact ⟨es, clock, (MapKept.heap_alloc w _).1, hs, hm⟩
  · subst hw; exact (Only.refl _ _).alloc _
  · subst hw; simp
theorem PostsNew.at_ {w : World} {base : Nat} {pv : Value} {P : List PostM} (h : PostsNew w base pv P) : PostsAt w pv P := by
  obtain ⟨evs, h1, h2, h3⟩ := h
  exact ⟨evs, h1, ownsRow_base h2 (Nat.zero_le _), fun j p v hj hv => ownsRow_base (h3 j p v hj hv) (Nat.zero_le _)⟩
section
variable {w : World} {l : Loc} {S : Led}
/-- A ledger of its own, made since w. -/
def CopyPost (S : Led) (w : World) (e : Ending) (w' : World) : Prop := ∃ l', e = .returned (.pointer (some ⟨l'.lb, 0, none⟩)) ∧ Lives w w' l' S
set_option maxHeartbeats 4000000 in
set_option maxRecDepth 100000 in
theorem copy_any (h : LAt w l S) (hl : S.P.length ≤ 100000) (hpe : ∀ p ∈ S.P, p.ents.length ≤ 100000) : Calls Try.prog 22 #[.pointer (some ⟨l.lb, 0, none⟩)] w (CopyPost S w) := by
  obtain ⟨c0, c1, c2, c3⟩ := h.c
  have k0 : ∀ V, Only (fun _ => False) w.drew V → V.cell? ⟨l.lb, 0, none⟩ = some (.string l.own) := fun V hV => hV.keeps c0 not_false
  have k1 : ∀ V, Only (fun _ => False) w.drew V → V.cell? ⟨l.lb, 1, none⟩ = some (.map (some l.ab)) := fun V hV => hV.keeps c1 not_false
  have k2 : ∀ V, Only (fun _ => False) w.drew V → V.cell? ⟨l.lb, 2, none⟩ = some l.pv := fun V hV => hV.keeps c2 not_false
  have k3 : ∀ V, Only (fun _ => False) w.drew V → V.cell? ⟨l.lb, 3, none⟩ = some (.map (some l.hb)) := fun V hV => hV.keeps c3 not_false
  have hA := Lib.hid (fun V (hV : Only (fun _ => False) w V) => clone_map (h.accts.only hV not_false) fun es clock hb => AnyW.maps_Clone Try.clone43 l.ab es clock V hb)
  have hH := Lib.hid (fun V (hV : Only (fun _ => False) w V) => clone_map (h.holds.only hV not_false) fun es clock hb => AnyW.maps_Clone Try.clone44 l.hb es clock V hb)
  have hO := Lib.hid (fun V (hV : Only (fun _ => False) w V) => own_any (h.quiet hV).posts hl hpe)
  go_enter Try.func22, Try.ntmps22
  go_wp2
  refine wp_region_ord (.read 0 (.read 1 (.read 2 (.read 3 (.read 4 (.read 5 (.read 6 (.read 7 (.read 9 (.read 10 (.read 11 (.read 12 (.read 14 (.read 15 (.read 16 (.read 17 (.turn 8 (.turn 13 (.turn 18 (.read 19 (.turn 20 (.read 21 .stop)))))))))))))))))))))) (Only (fun _ => False) _) (by kernel_rfl) (by kernel_rfl) (by kernel_rfl) (by first | exact Only.refl _ _ | assumption) ?_
  refine wpOrd_reads (v := ?_) rfl rfl (fun _ _ _ h => h) ?_ ?_
  rotate_left
  · intro W hW; go_simp; try with_reducible rfl
  go_frame
  refine wpOrd_reads (v := ?_) rfl rfl (fun _ _ _ h => h) ?_ ?_
  rotate_left
  · intro W hW; go_simp; try with_reducible rfl
  go_frame
  refine wpOrd_reads (v := ?_) rfl rfl (fun _ _ _ h => h) ?_ ?_
  rotate_left
  · intro W hW; go_simp; try with_reducible rfl
  go_frame
  refine wpOrd_reads (v := ?_) rfl rfl (fun _ _ _ h => h) ?_ ?_
  rotate_left
  · intro W hW; go_simp; try with_reducible rfl
  go_frame
  refine wpOrd_reads (v := ?_) rfl rfl (fun _ _ _ h => h) ?_ ?_
  rotate_left
  · intro W hW; go_simp; try with_reducible rfl
  go_frame
  refine wpOrd_reads (v := ?_) rfl rfl (fun _ _ _ h => h) ?_ ?_
  rotate_left
  · intro W hW; go_simp; try with_reducible rfl
  go_frame
  refine wpOrd_reads (v := ?_) rfl rfl (fun _ _ _ h => h) ?_ ?_
  rotate_left
  · intro W hW; go_simp; try with_reducible rfl
  go_frame
  refine wpOrd_reads (v := ?_) rfl rfl (fun _ _ _ h => h) ?_ ?_
  rotate_left
  · intro W hW; go_simp; try with_reducible rfl
  go_frame
  refine wpOrd_reads (v := ?_) rfl rfl (fun _ _ _ h => h) ?_ ?_
  rotate_left
  · intro W hW; go_simp; try with_reducible rfl
  go_frame
  refine wpOrd_reads (v := ?_) rfl rfl (fun _ _ _ h => h) ?_ ?_
  rotate_left
  · intro W hW; go_simp; try with_reducible rfl
  go_frame
  refine wpOrd_reads (v := ?_) rfl rfl (fun _ _ _ h => h) ?_ ?_
  rotate_left
  · intro W hW; go_simp; try with_reducible rfl
  go_frame
  refine wpOrd_reads (v := ?_) rfl rfl (fun _ _ _ h => h) ?_ ?_
  rotate_left
  · intro W hW; go_simp; try with_reducible rfl
  go_frame
  refine wpOrd_reads (v := ?_) rfl rfl (fun _ _ _ h => h) ?_ ?_
  rotate_left
  · intro W hW; go_simp; try with_reducible rfl
  go_frame
  refine wpOrd_reads (v := ?_) rfl rfl (fun _ _ _ h => h) ?_ ?_
  rotate_left
  · intro W hW; go_simp; try with_reducible rfl
  go_frame
  refine wpOrd_reads (v := ?_) rfl rfl (fun _ _ _ h => h) ?_ ?_
  rotate_left
  · intro W hW; go_simp; try with_reducible rfl
  go_frame
  refine wpOrd_reads (v := ?_) rfl rfl (fun _ _ _ h => h) ?_ ?_
  rotate_left
  · intro W hW; go_simp; try with_reducible rfl
  go_frame
  refine wpOrd_turns rfl ?_
  go_wp2_with (go_at_call 43; have hc := hA.out w.drew (Only.refl _ w).drew; refine hc.mono ?_; clear hc; rintro e w1 ⟨rfl, hm1, ho1, hs1⟩)
  have hS1 := Lib.hid hs1
  clear hs1
  have hw1 : Only (fun _ => False) w w1 := (Only.refl _ w).drew.andThen ho1
  refine ⟨ho1, ?_⟩
  refine wpOrd_turns rfl ?_
  go_wp2_with (go_at_call 38; have hc := hO.out w1 hw1; refine hc.mono ?_; clear hc; rintro e w2 ⟨pv, rfl, hn2, ho2⟩; obtain ⟨pA, pc, rfl⟩ : ∃ A c, pv = .slice A S.P.length c := by obtain ⟨_, _, h2, _⟩ := hn2; exact own_sl h2)
  have hw2 : Only (fun _ => False) w w2 := hw1.andThen ho2
  refine ⟨ho1.andThen ho2, ?_⟩
  refine wpOrd_turns rfl ?_
  go_wp2_with (go_at_call 44; have hc := hH.out w2 hw2; refine hc.mono ?_; clear hc; rintro e w3 ⟨rfl, hm3, ho3, hs3⟩)
  have hS3 := Lib.hid hs3
  clear hs3
  have hw3 : Only (fun _ => False) w w3 := hw2.andThen ho3
  refine ⟨(ho1.andThen ho2).andThen ho3, ?_⟩
  refine wpOrd_reads (v := ?_) rfl rfl (fun _ _ _ h => h) ?_ ?_
  rotate_left
  · intro W hW; go_simp; try with_reducible rfl
  go_frame
  refine wpOrd_turns rfl ?_
  go_wp2
  refine ⟨((ho1.andThen ho2).andThen ho3).alloc _, ?_⟩
  refine wpOrd_reads (v := ?_) rfl rfl (fun _ _ _ h => h) ?_ ?_
  rotate_left
  · intro W hW; go_simp; try with_reducible rfl
  go_frame
  refine wpOrd_nil ?_
  go_wp2
  go_ret
  have h1 : w1.heap.size = w.heap.size + 1 := hS1.out
  have h2 := hS3.out
  have h3 := ho2.size
  have ho4 : Only (fun _ => False) w3 (w3.alloc (.cells #[.string l.own, .map (some w.drew.heap.size), .slice pA S.P.length pc, .map (some w2.heap.size)] 75)) := (Only.refl _ w3).alloc _
  refine ⟨⟨w3.heap.size, w.drew.heap.size, w2.heap.size, l.own, .slice pA S.P.length pc⟩, rfl, ⟨?_, ?_, ?_, ?_, ?_⟩, hw3.andThen ho4, ?_⟩
  · exact heap_alloc_new _ _
  · exact ((hm1.only ho2 not_false).only ho3 not_false).only ho4 not_false
  · exact hm3.only ho4 not_false
  · show w.heap.size ≠ w2.heap.size; omega
  · exact ((hn2.quiet ho3).quiet ho4).at_
  · intro i hi
    rcases hi with rfl | rfl | rfl | hi
    · simp only; omega
    · exact Nat.le_refl _
    · simp only; omega
    · obtain ⟨_, _, hr, _⟩ := hn2
      obtain ⟨_, _, hge⟩ := ownsRow_block hr hi
      omega
end
end Go.Proofs.Ytoeokakcdfdjkaa
