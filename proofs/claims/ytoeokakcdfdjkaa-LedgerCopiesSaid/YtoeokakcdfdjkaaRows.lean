/-
  No cell of these rows narrows 'for every input' (looked for: loops, veiled, ifaces, maps, wideKeys, modest, calm, conditions, laid).
  DERIVED. THE GIVEN ROWS OF THIS SEAT. 6 by the template 'for every input the law returns true; each argument reads behind the call as it read before'; 0 by the template 'total and deterministic' (their statements: YtoeokakcdfdjkaaTotals.lean).
  GIVEN WITH THE SEED: the statements are not yours to turn. If you find one false, say at which input.
  Laid BY PROGRAM, IN A SANDBOX (cutbox-rows.mjs): the forced cells as the released guide's own fill.sh prints them over the translation 30bea2e4d5f8e7f6… (all of the seat's roots in one cut). By AI agents, Wed Nov 11 2026. No macro, syntax, notation, axiom, sorry.
-/
import Derived.Test.YtoeokakcdfdjkaaChecked
import GoSem.Claim
import GoSem.ClaimJoined
import GoSem.ClaimMapViews
import Derived.JoinedTies
import Derived.KernelRfl
namespace Go.Proofs.Ytoeokakcdfdjkaa
/- THE CELL 'sum', in the pinned program and in every row, IS THE sha256 OF THE DUMP (.gsa) THAT YtoeokakcdfdjkaaProg.lean LOADS. Nothing in Lean hashes anything: it is a label: what it is worth is what the hold of that sum in a sandbox is worth. -/
noncomputable def Try.pinned : Pinned := { name := "ytoeokakcdfdjkaa", sum := "30bea2e4d5f8e7f63a169d11f0b7954111e48f8c858f4dc2ae23cb665fcb6500", checked := Try.checked }
namespace Rows
def none {H : Type} : Left H := { results := [], args := [] }

/-- 'supercargolaw36.LedgerTakes': WHATEVER THE INPUT: true; the input reads as it did. -/
def ledgerTakesSpec : ChangeSpec := { name := "ledgerTakes", fn := fun _ => fun
  | [d1, d2, d3] => { results := [.lit (.bool true)], args := [d1, d2, d3] }
  | _ => none }
def ledgerTakesRow : OpenClaim := { program := "ytoeokakcdfdjkaa", sum := "30bea2e4d5f8e7f63a169d11f0b7954111e48f8c858f4dc2ae23cb665fcb6500", func := "supercargo/supercargolaw36.LedgerTakes", spec := "ledgerTakes", unfollowed := true, recurses := true, plainKeys := false, apart := false }
def LedgerTakesSaid : Prop := ledgerTakesRow.holds Try.pinned (OpenSpec.ofChange ledgerTakesSpec)

/-- ITS FALSE NEIGHBOUR: 'it returns false'. Refute it at one input. -/
def ledgerTakesWrong : ChangeSpec := { name := "ledgerTakes", fn := fun _ => fun
  | [d1, d2, d3] => { results := [.lit (.bool false)], args := [d1, d2, d3] }
  | _ => none }
def LedgerTakesWrongFalsely : Prop := ledgerTakesRow.holds Try.pinned (OpenSpec.ofChange ledgerTakesWrong)

/-- 'supercargolaw36.LedgerLets': WHATEVER THE INPUT: true; the input reads as it did. -/
def ledgerLetsSpec : ChangeSpec := { name := "ledgerLets", fn := fun _ => fun
  | [d1, d2] => { results := [.lit (.bool true)], args := [d1, d2] }
  | _ => none }
def ledgerLetsRow : OpenClaim := { program := "ytoeokakcdfdjkaa", sum := "30bea2e4d5f8e7f63a169d11f0b7954111e48f8c858f4dc2ae23cb665fcb6500", func := "supercargo/supercargolaw36.LedgerLets", spec := "ledgerLets", unfollowed := true, recurses := true, plainKeys := false, apart := false }
def LedgerLetsSaid : Prop := ledgerLetsRow.holds Try.pinned (OpenSpec.ofChange ledgerLetsSpec)

/-- ITS FALSE NEIGHBOUR: 'it returns false'. Refute it at one input. -/
def ledgerLetsWrong : ChangeSpec := { name := "ledgerLets", fn := fun _ => fun
  | [d1, d2] => { results := [.lit (.bool false)], args := [d1, d2] }
  | _ => none }
def LedgerLetsWrongFalsely : Prop := ledgerLetsRow.holds Try.pinned (OpenSpec.ofChange ledgerLetsWrong)

/-- 'supercargolaw36.LedgerSums': WHATEVER THE INPUT: true; the input reads as it did. -/
def ledgerSumsSpec : ChangeSpec := { name := "ledgerSums", fn := fun _ => fun
  | [d] => { results := [.lit (.bool true)], args := [d] }
  | _ => none }
def ledgerSumsRow : OpenClaim := { program := "ytoeokakcdfdjkaa", sum := "30bea2e4d5f8e7f63a169d11f0b7954111e48f8c858f4dc2ae23cb665fcb6500", func := "supercargo/supercargolaw36.LedgerSums", spec := "ledgerSums", unfollowed := true, recurses := true, plainKeys := false, apart := false }
def LedgerSumsSaid : Prop := ledgerSumsRow.holds Try.pinned (OpenSpec.ofChange ledgerSumsSpec)

/-- ITS FALSE NEIGHBOUR: 'it returns false'. Refute it at one input. -/
def ledgerSumsWrong : ChangeSpec := { name := "ledgerSums", fn := fun _ => fun
  | [d] => { results := [.lit (.bool false)], args := [d] }
  | _ => none }
def LedgerSumsWrongFalsely : Prop := ledgerSumsRow.holds Try.pinned (OpenSpec.ofChange ledgerSumsWrong)

/-- 'supercargolaw36.LedgerRefuses': WHATEVER THE INPUT: true; the input reads as it did. -/
def ledgerRefusesSpec : ChangeSpec := { name := "ledgerRefuses", fn := fun _ => fun
  | [d1, d2] => { results := [.lit (.bool true)], args := [d1, d2] }
  | _ => none }
def ledgerRefusesRow : OpenClaim := { program := "ytoeokakcdfdjkaa", sum := "30bea2e4d5f8e7f63a169d11f0b7954111e48f8c858f4dc2ae23cb665fcb6500", func := "supercargo/supercargolaw36.LedgerRefuses", spec := "ledgerRefuses", inPlace := ["maps.clone"], unfollowed := true, recurses := true, plainKeys := false, apart := false }
def LedgerRefusesSaid : Prop := ledgerRefusesRow.holds Try.pinned (OpenSpec.ofChange ledgerRefusesSpec)

/-- ITS FALSE NEIGHBOUR: 'it returns false'. Refute it at one input. -/
def ledgerRefusesWrong : ChangeSpec := { name := "ledgerRefuses", fn := fun _ => fun
  | [d1, d2] => { results := [.lit (.bool false)], args := [d1, d2] }
  | _ => none }
def LedgerRefusesWrongFalsely : Prop := ledgerRefusesRow.holds Try.pinned (OpenSpec.ofChange ledgerRefusesWrong)

/-- 'supercargolaw36.LedgerAs': WHATEVER THE INPUT: true; the input reads as it did. -/
def ledgerAsSpec : ChangeSpec := { name := "ledgerAs", fn := fun _ => fun
  | [d1, d2] => { results := [.lit (.bool true)], args := [d1, d2] }
  | _ => none }
def ledgerAsRow : OpenClaim := { program := "ytoeokakcdfdjkaa", sum := "30bea2e4d5f8e7f63a169d11f0b7954111e48f8c858f4dc2ae23cb665fcb6500", func := "supercargo/supercargolaw36.LedgerAs", spec := "ledgerAs", unfollowed := true, recurses := true, plainKeys := false, apart := false }
def LedgerAsSaid : Prop := ledgerAsRow.holds Try.pinned (OpenSpec.ofChange ledgerAsSpec)

/-- ITS FALSE NEIGHBOUR: 'it returns false'. Refute it at one input. -/
def ledgerAsWrong : ChangeSpec := { name := "ledgerAs", fn := fun _ => fun
  | [d1, d2] => { results := [.lit (.bool false)], args := [d1, d2] }
  | _ => none }
def LedgerAsWrongFalsely : Prop := ledgerAsRow.holds Try.pinned (OpenSpec.ofChange ledgerAsWrong)

/-- 'supercargolaw36.LedgerCopies': WHATEVER THE INPUT: true; the input reads as it did. -/
def ledgerCopiesSpec : ChangeSpec := { name := "ledgerCopies", fn := fun _ => fun
  | [d1, d2, d3] => { results := [.lit (.bool true)], args := [d1, d2, d3] }
  | _ => none }
def ledgerCopiesRow : OpenClaim := { program := "ytoeokakcdfdjkaa", sum := "30bea2e4d5f8e7f63a169d11f0b7954111e48f8c858f4dc2ae23cb665fcb6500", func := "supercargo/supercargolaw36.LedgerCopies", spec := "ledgerCopies", inPlace := ["maps.clone"], unfollowed := true, recurses := true, plainKeys := false, apart := false }
def LedgerCopiesSaid : Prop := ledgerCopiesRow.holds Try.pinned (OpenSpec.ofChange ledgerCopiesSpec)

/-- ITS FALSE NEIGHBOUR: 'it returns false'. Refute it at one input. -/
def ledgerCopiesWrong : ChangeSpec := { name := "ledgerCopies", fn := fun _ => fun
  | [d1, d2, d3] => { results := [.lit (.bool false)], args := [d1, d2, d3] }
  | _ => none }
def LedgerCopiesWrongFalsely : Prop := ledgerCopiesRow.holds Try.pinned (OpenSpec.ofChange ledgerCopiesWrong)

/- THE SECOND FORM. 'bulk': how many values and letters a reading holds, each counted each time it is reached (what is shared counts as often as it is met; a slice's spare places count too). A statement '..UptoSaid' is the law's where the arguments, and the package variables that the reading takes, are together of bulk at most 1048576: NARROWER than '..Said'. Prove '..Said' where nothing that the law and all that it calls make is longer than what came in: it says more and counts as full. Else prove '..UptoSaid'. A law counts once. -/
mutual
def uptoBulk {H : Type} : DataW H → Nat
  | .lit (.string bytes) => bytes.length + 1
  | .lit _ => 1
  | .nil => 1
  | .ptr d => uptoBulk d + 1
  | .slice elems spare => uptoBulkAll elems + uptoBulkAll spare + 1
  | .agg parts => uptoBulkAll parts + 1
  | .iface _ d => uptoBulk d + 1
  | .map entries => uptoBulkEntries entries + 1
  | .held _ => 1
def uptoBulkAll {H : Type} : List (DataW H) → Nat
  | [] => 0
  | d :: r => uptoBulk d + uptoBulkAll r
def uptoBulkEntries {H : Type} : List (Lit × DataW H) → Nat
  | [] => 0
  | x :: r => uptoBulkEntry x + uptoBulkEntries r
def uptoBulkEntry {H : Type} : Lit × DataW H → Nat
  | (.string bytes, d) => bytes.length + uptoBulk d + 1
  | (_, d) => uptoBulk d + 1
 end
def uptoSmall : (H : Type) → List (DataW H) → Bool := fun _ ds => decide (uptoBulkAll ds ≤ 1048576)
def OpenSpec.upto (s : _root_.Go.ChangeSpec) : _root_.Go.OpenSpec := { _root_.Go.OpenSpec.ofChange s with cond := some uptoSmall }

/-- 'supercargolaw36.LedgerTakes', WHERE WHAT IT READS IS OF BULK AT MOST 1048576: true; the input reads as it did. -/
def ledgerTakesUptoRow : OpenClaim := { program := "ytoeokakcdfdjkaa", sum := "30bea2e4d5f8e7f63a169d11f0b7954111e48f8c858f4dc2ae23cb665fcb6500", func := "supercargo/supercargolaw36.LedgerTakes", spec := "ledgerTakes", unfollowed := true, recurses := true, plainKeys := false, apart := false, narrowed := true }
def LedgerTakesUptoSaid : Prop := ledgerTakesUptoRow.holds Try.pinned (OpenSpec.upto ledgerTakesSpec)

/-- 'supercargolaw36.LedgerLets', WHERE WHAT IT READS IS OF BULK AT MOST 1048576: true; the input reads as it did. -/
def ledgerLetsUptoRow : OpenClaim := { program := "ytoeokakcdfdjkaa", sum := "30bea2e4d5f8e7f63a169d11f0b7954111e48f8c858f4dc2ae23cb665fcb6500", func := "supercargo/supercargolaw36.LedgerLets", spec := "ledgerLets", unfollowed := true, recurses := true, plainKeys := false, apart := false, narrowed := true }
def LedgerLetsUptoSaid : Prop := ledgerLetsUptoRow.holds Try.pinned (OpenSpec.upto ledgerLetsSpec)

/-- 'supercargolaw36.LedgerSums', WHERE WHAT IT READS IS OF BULK AT MOST 1048576: true; the input reads as it did. -/
def ledgerSumsUptoRow : OpenClaim := { program := "ytoeokakcdfdjkaa", sum := "30bea2e4d5f8e7f63a169d11f0b7954111e48f8c858f4dc2ae23cb665fcb6500", func := "supercargo/supercargolaw36.LedgerSums", spec := "ledgerSums", unfollowed := true, recurses := true, plainKeys := false, apart := false, narrowed := true }
def LedgerSumsUptoSaid : Prop := ledgerSumsUptoRow.holds Try.pinned (OpenSpec.upto ledgerSumsSpec)

/-- 'supercargolaw36.LedgerRefuses', WHERE WHAT IT READS IS OF BULK AT MOST 1048576: true; the input reads as it did. -/
def ledgerRefusesUptoRow : OpenClaim := { program := "ytoeokakcdfdjkaa", sum := "30bea2e4d5f8e7f63a169d11f0b7954111e48f8c858f4dc2ae23cb665fcb6500", func := "supercargo/supercargolaw36.LedgerRefuses", spec := "ledgerRefuses", inPlace := ["maps.clone"], unfollowed := true, recurses := true, plainKeys := false, apart := false, narrowed := true }
def LedgerRefusesUptoSaid : Prop := ledgerRefusesUptoRow.holds Try.pinned (OpenSpec.upto ledgerRefusesSpec)

/-- 'supercargolaw36.LedgerAs', WHERE WHAT IT READS IS OF BULK AT MOST 1048576: true; the input reads as it did. -/
def ledgerAsUptoRow : OpenClaim := { program := "ytoeokakcdfdjkaa", sum := "30bea2e4d5f8e7f63a169d11f0b7954111e48f8c858f4dc2ae23cb665fcb6500", func := "supercargo/supercargolaw36.LedgerAs", spec := "ledgerAs", unfollowed := true, recurses := true, plainKeys := false, apart := false, narrowed := true }
def LedgerAsUptoSaid : Prop := ledgerAsUptoRow.holds Try.pinned (OpenSpec.upto ledgerAsSpec)

/-- 'supercargolaw36.LedgerCopies', WHERE WHAT IT READS IS OF BULK AT MOST 1048576: true; the input reads as it did. -/
def ledgerCopiesUptoRow : OpenClaim := { program := "ytoeokakcdfdjkaa", sum := "30bea2e4d5f8e7f63a169d11f0b7954111e48f8c858f4dc2ae23cb665fcb6500", func := "supercargo/supercargolaw36.LedgerCopies", spec := "ledgerCopies", inPlace := ["maps.clone"], unfollowed := true, recurses := true, plainKeys := false, apart := false, narrowed := true }
def LedgerCopiesUptoSaid : Prop := ledgerCopiesUptoRow.holds Try.pinned (OpenSpec.upto ledgerCopiesSpec)

end Rows
end Go.Proofs.Ytoeokakcdfdjkaa
