/- WALKS: own, Posts. -/
import Derived.Test.YtoeokakcdfdjkaaOw
namespace Go.Proofs.Ytoeokakcdfdjkaa
open Go.RowKit Go.Shelf
section
variable {w : World}
/-- Posts in memory made since the block base. -/
def PostsNew (w : World) (base : Nat) (pv : Value) (P : List PostM) : Prop :=
  ∃ evs : List Value, evs.length = P.length ∧ w.ownsRow base 46 3 pv P.length (postCells P evs) ∧ ∀ (j : Nat) (p : PostM) (v : Value), P[j]? = some p → evs[j]? = some v → w.ownsRow base 44 3 v p.ents.length (entCells p.ents)
def OwnPost (w : World) (P : List PostM) (e : Ending) (w' : World) : Prop := ∃ v', e = .returned v' ∧ PostsNew w' w.heap.size v' P ∧ Only (fun _ => False) w w'
set_option maxHeartbeats 4000000 in
set_option maxRecDepth 100000 in
theorem own_any {v : Value} {P : List PostM} (h : PostsAt w v P) (hl : P.length ≤ 100000) (hpe : ∀ p ∈ P, p.ents.length ≤ 100000) : Calls Try.prog 38 #[v] w (OwnPost w P) := by
  have hC := Lib.hid (clone_posts h hl)
  have hPE := Lib.hid hpe
  clear hpe
  go_enter Try.func38, Try.ntmps38
  go_wp2_with (go_at_call 62; refine (hC.out).mono ?_; rintro e w1 ⟨v', evs, rfl, hel, hrow, hents, ho1⟩; obtain ⟨A, c, rfl⟩ := own_sl hrow)
  clear hC
  go_loopg [9] (P.length) (fun g v9 wr => ∃ (i : Nat) (cur : List Value), v9 = .int .i64 (i : Int) ∧ i + g = P.length ∧ cur.length = P.length ∧ Only (fun _ => False) w wr ∧ wr.ownsRow w.heap.size 46 3 (.slice A P.length c) P.length (postCells P cur) ∧
    Hid (∀ (j : Nat) (p : PostM) (u : Value), P[j]? = some p → cur[j]? = some u → (j < i → wr.ownsRow w.heap.size 44 3 u p.ents.length (entCells p.ents)) ∧ (i ≤ j → wr.ownsRow 0 44 3 u p.ents.length (entCells p.ents))))
  case atStart => exact ⟨0, evs, rfl, by omega, hel, ho1, hrow, Lib.hid fun j p u hp hu => ⟨fun h => by omega, fun _ => ownsRow_only (hents j p u hp hu) ho1 fun _ _ => id⟩⟩
  case round =>
    clear hents hrow ho1
    obtain ⟨i, cur, rfl, hg, hcl, ho, hrow, hE⟩ := hrel
    by_cases hi : i < P.length
    · obtain ⟨p, hp⟩ : ∃ p, P[i]? = some p := ⟨P[i], List.getElem?_eq_getElem hi⟩
      obtain ⟨u, hu⟩ : ∃ u, cur[i]? = some u := ⟨cur[i]'(by omega), List.getElem?_eq_getElem (by omega)⟩
      have hown := (hE.out i p u hp hu).2 (Nat.le_refl _)
      obtain ⟨B, hB⟩ : ∃ B, P.length = B + 1 := ⟨P.length - 1, by omega⟩
      have hrow' := hrow
      rw [hB] at hrow'
      obtain ⟨g, c', he, hcell⟩ := own_first hrow'
      rw [← hB] at he
      injection he with he1 _ he2
      subst he1 he2
      have hc0 : wr.cell? ⟨g, i * 3 + 2, none⟩ = some u := by rw [show i * 3 + 2 = 3 * i + 2 by omega]; exact hcell _ _ (postCells_at hcl hp hu)
      have hro := Lib.hid hrow
      obtain ⟨bc, hbc, hbg⟩ := ownsRow_block hrow (b := g) rfl
      have hgl : g < wr.heap.size := (Array.getElem?_eq_some_iff.1 hbc).1
      have hf0 : wr.frozen? ⟨g, i * 3 + 2, none⟩ = false := by simp [World.frozen?, hbc]
      have hpl : p.ents.length ≤ 100000 := hPE.out p (List.mem_of_getElem? hp)
      have hK := Lib.hid (clone_ents (ReadsEnts.of_own hown) (.inr (fun A n c e a ha => by obtain ⟨_, h2⟩ := hown; rcases h2 with ⟨rfl, _⟩ | ⟨g', cap, cu, rfl, _⟩ <;> (injection e with e1; subst e1; cases ha; try rfl))) hpl)
      obtain ⟨cA, cc, rfl⟩ := own_sl hown
      clear hrow hrow' hcell hB hown
      go_wp2_with (go_at_call 61; refine (hK.out).mono ?_; rintro e w5 ⟨v5, rfl, hrow5, ho5⟩; have hc5 : w5.cell? ⟨g, i * 3 + 2, none⟩ = some (.slice cA p.ents.length cc) := ho5.keeps hc0 not_false; have hf5 : w5.frozen? ⟨g, i * 3 + 2, none⟩ = false := (ho5.frozen hgl not_false).trans hf0; obtain ⟨dA, dc, rfl⟩ := own_sl hrow5)
      have hz5 := ho5.size
      have hzw := ho.size
      have hr5 := ownsRow_set (ownsRow_only hro.out ho5 fun _ _ => id) (i * 3 + 2) (.slice dA p.ents.length dc)
      rw [show i * 3 + 2 = 3 * i + 2 by omega, postCells_set hcl, ← show i * 3 + 2 = 3 * i + 2 by omega] at hr5
      have hos : Only (fun k => k = g) w5 (w5.setCell ⟨g, i * 3 + 2, none⟩ (.slice dA p.ents.length dc)) := Only.setCell (F := fun k => k = g) (Only.refl _ _) (fun _ => rfl) _
      have hng : ∀ {u' : Value} {q : PostM} {b0 : Nat}, w5.ownsRow b0 44 3 u' q.ents.length (entCells q.ents) → (w5.setCell ⟨g, i * 3 + 2, none⟩ (.slice dA p.ents.length dc)).ownsRow b0 44 3 u' q.ents.length (entCells q.ents) := fun hq => ownsRow_only hq hos fun b hb e => by
        subst e
        obtain ⟨c2, h2, _⟩ := ownsRow_block hq hb
        have := ho5.heap hbc not_false
        rw [this] at h2
        injection h2 with h2
        injection h2 with _ h2
        exact absurd h2 (by decide)
      go_roundg (P.length - (i + 1))
      case measure => omega
      case rel =>
        refine ⟨i + 1, cur.set i (.slice dA p.ents.length dc), by simp, by omega, by simpa using hcl, (ho.andQuiet ho5).trans hos fun k hk e => by omega, hr5, Lib.hid fun j q u' hq hu' => ?_⟩
        rw [List.getElem?_set] at hu'
        by_cases hji : i = j
        · subst hji
          rw [if_pos rfl, if_pos (by omega)] at hu'
          injection hu' with hu'
          subst hu'
          rw [hp] at hq
          injection hq with hq
          subst hq
          exact ⟨fun _ => hng (ownsRow_base hrow5 hzw), fun h => by omega⟩
        · rw [if_neg hji] at hu'
          obtain ⟨k1, k2⟩ := hE.out j q u' hq hu'
          exact ⟨fun h => hng (ownsRow_only (k1 (by omega)) ho5 fun _ _ => id), fun h => hng (ownsRow_only (k2 (by omega)) ho5 fun _ _ => id)⟩
    · have hie : i = P.length := by omega
      subst hie
      go_wp2
      go_ret
      exact ⟨_, rfl, ⟨cur, hcl, hrow, fun j p u hp hu => (hE.out j p u hp hu).1 (List.getElem?_eq_some_iff.1 hp).1⟩, ho⟩
theorem posts_any {l : Loc} {S : Led} (h : LAt w l S) (hl : S.P.length ≤ 100000) (hpe : ∀ p ∈ S.P, p.ents.length ≤ 100000) : Calls Try.prog 19 #[.pointer (some ⟨l.lb, 0, none⟩)] w (OwnPost w S.P) := by
  obtain ⟨c0, c1, c2, c3⟩ := h.c
  have hO := Lib.hid (own_any h.posts hl hpe)
  go_enter Try.func19, Try.ntmps19
  go_wp2_with (go_at_call 38; have hc := hO.out; refine hc.mono ?_; clear hc; rintro e w1 ⟨v', rfl, hn, ho1⟩)
  go_ret
  exact ⟨_, rfl, hn, ho1⟩
end
end Go.Proofs.Ytoeokakcdfdjkaa
