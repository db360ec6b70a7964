/-
  DERIVED: THE SHELF's CONTRACTS AT THIS DUMP, IN PLAIN WORDS (tools/lay-plain.mjs out of 'YtoeokakcdfdjkaaSj.lean', which tools/lay-shelf.mjs wrote): THE SAME DECLARATIONS UNDER THE SAME NAMES: 'import', 'namespace', 'open', 'def', 'theorem' AND NOTHING ELSE: no command of the shelf's: FOR A HAND-IN. Each laying: the table of numbers ('.._ren') and one theorem, a field a fact of the dump's own or the kernel's comparison; each contract: ONE APPLICATION.
-/
import Derived.Shelf.SlMaps.Clone
import Derived.Ground.SlmcProg
import Derived.Test.YtoeokakcdfdjkaaProg
namespace Go.Proofs
open Go.Shelf
def Try.clone43_ren : Go.Shelf.Ren := ⟨fun | 5 => 43 | 7 => 66 | n => n, fun | 23 => 72 | 25 => 68 | 3 => 70 | 4 => 4 | 20 => 20 | n => n, fun | n => n⟩
theorem Try.clone43 : Go.Proofs.SlLaysW.n5 Try.prog Try.clone43_ren := {
  mixed := by kernel_rfl
  f5 := ⟨Try.f43.name, by decide, Try.func43.trans (congrArg some (by kernel_rfl))⟩
  f7 := Try.func66.trans (congrArg some (by kernel_rfl))
  t4 := Try.underlying4
  a4 := Try.isAgg4
  z4 := Try.sizeOf4
  v4 := Try.zeroValue4
  t20 := Try.underlying20
  a20 := Try.isAgg20
  z20 := Try.sizeOf20
  v20 := Try.zeroValue20
  t23 := Try.underlying72
  a23 := Try.isAgg72
  z23 := Try.sizeOf72
  v23 := Try.zeroValue72 }
def Try.clone44_ren : Go.Shelf.Ren := ⟨fun | 5 => 44 | 7 => 66 | n => n, fun | 23 => 73 | 25 => 9 | 3 => 66 | 4 => 4 | 20 => 20 | n => n, fun | n => n⟩
theorem Try.clone44 : Go.Proofs.SlLaysW.n5 Try.prog Try.clone44_ren := {
  mixed := by kernel_rfl
  f5 := ⟨Try.f44.name, by decide, Try.func44.trans (congrArg some (by kernel_rfl))⟩
  f7 := Try.func66.trans (congrArg some (by kernel_rfl))
  t4 := Try.underlying4
  a4 := Try.isAgg4
  z4 := Try.sizeOf4
  v4 := Try.zeroValue4
  t20 := Try.underlying20
  a20 := Try.isAgg20
  z20 := Try.sizeOf20
  v20 := Try.zeroValue20
  t23 := Try.underlying73
  a23 := Try.isAgg73
  z23 := Try.sizeOf73
  v23 := Try.zeroValue73 }
end Go.Proofs
