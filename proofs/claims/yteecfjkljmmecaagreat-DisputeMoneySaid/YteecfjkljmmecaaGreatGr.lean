/- WHAT A CALL MAY DO THAT ONLY MAKES MEMORY: draws, and new blocks. -/
import Derived.Test.YteecfjkljmmecaaGreatBase
import Derived.Sort.Grow
import Derived.Deep.Draws
namespace Go.Proofs.YteecfjkljmmecaaGreat
open Go.RowKit Go.Sort
def Grows (w w' : World) : Prop := ∃ q os, w' = Sort.grow (w.drewN q) os
theorem drewN_grow (w : World) (q : Nat) (os : Array Obj) : (Sort.grow w os).drewN q = Sort.grow (w.drewN q) os := rfl
theorem Grows.refl (w : World) : Grows w w := ⟨0, #[], by rw [grow_empty]; rfl⟩
theorem Grows.trans {a b c : World} (h : Grows a b) (k : Grows b c) : Grows a c := by
  obtain ⟨q, os, rfl⟩ := h
  obtain ⟨r, ps, rfl⟩ := k
  exact ⟨q + r, os ++ ps, by rw [drewN_grow, grow_grow, World.drewN_drewN]⟩
theorem Grows.drew {a b : World} (h : Grows a b) : Grows a b.drew := h.trans ⟨1, #[], by rw [grow_empty]; rfl⟩
theorem Grows.drewN {a b : World} (h : Grows a b) (n : Nat) : Grows a (b.drewN n) := h.trans ⟨n, #[], by rw [grow_empty]⟩
theorem Grows.alloc {a b : World} (h : Grows a b) (o : Obj) : Grows a (b.alloc o) := h.trans ⟨0, #[o], by rw [alloc_eq_grow]; rfl⟩
theorem Grows.only {a b : World} (h : Grows a b) : Only (fun _ => False) a b := by
  obtain ⟨q, os, rfl⟩ := h
  exact ⟨rfl, rfl, rfl, by simp [Sort.grow, World.drewN], fun k hk _ => by show (a.heap ++ os)[k]? = _; rw [Array.getElem?_append_left hk]⟩
/-- A store into a block that was made since. -/
theorem Grows.setCell {a b : World} (h : Grows a b) {p : Addr} (hp : a.heap.size ≤ p.block) (u : Value) : Grows a (b.setCell p u) := by
  obtain ⟨q, os, rfl⟩ := h
  refine ⟨q, os.modify (p.block - a.heap.size) (fun | .cells c elem frozen => .cells (if p.spot.isSome then c else c.setIfInBounds p.off u) elem frozen | o => o), ?_⟩
  show World.mk _ _ _ _ _ = World.mk _ _ _ _ _
  congr 1
  exact modify_append_right a.heap os p.block _ hp
theorem Only.cellF {a b : World} (h : Only (fun _ => False) a b) {p : Addr} {v : Value} (hc : a.cell? p = some v) : b.cell? p = some v := h.keeps hc not_false
end Go.Proofs.YteecfjkljmmecaaGreat
