/-
  No cell of these rows narrows 'for every input' (looked for: loops, veiled, ifaces, maps, wideKeys, modest, calm, conditions, laid).
  DERIVED. THE GIVEN ROWS OF THIS SEAT. 7 by the template 'for every input the law returns true; each argument reads behind the call as it read before'; 0 by the template 'total and deterministic' (their statements: YteecfjkljmmecaaGreatTotals.lean).
  GIVEN WITH THE SEED: the statements are not yours to turn. If you find one false, say at which input.
  Laid BY PROGRAM, IN A SANDBOX (cutbox-rows.mjs): the forced cells as the released guide's own fill.sh prints them over the translation 66a42afa1c1aa5ed… (all of the seat's roots in one cut). By AI agents, Wed Nov 11 2026. No macro, syntax, notation, axiom, sorry.
-/
import Derived.Test.YteecfjkljmmecaaGreatChecked
import GoSem.Claim
import GoSem.ClaimJoined
import GoSem.ClaimMapViews
import Derived.JoinedTies
import Derived.KernelRfl
namespace Go.Proofs.YteecfjkljmmecaaGreat
/- THE CELL 'sum', in the pinned program and in every row, IS THE sha256 OF THE DUMP (.gsa) THAT YteecfjkljmmecaaGreatProg.lean LOADS. Nothing in Lean hashes anything: it is a label: what it is worth is what the hold of that sum in a sandbox is worth. -/
noncomputable def Tryz.pinned : Pinned := { name := "yteecfjkljmmecaagreat", sum := "66a42afa1c1aa5edf2c02ca071a24b06eae1d4972db8e9258bb93b503876a230", checked := Tryz.checked }
namespace Rows
def none {H : Type} : Left H := { results := [], args := [] }

/-- 'supercargolaw47.DisputeBetter': WHATEVER THE INPUT: true; the input reads as it did. -/
def disputeBetterSpec : ChangeSpec := { name := "disputeBetter", fn := fun _ => fun
  | [d1, d2, d3] => { results := [.lit (.bool true)], args := [d1, d2, d3] }
  | _ => none }
def disputeBetterRow : OpenClaim := { program := "yteecfjkljmmecaagreat", sum := "66a42afa1c1aa5edf2c02ca071a24b06eae1d4972db8e9258bb93b503876a230", func := "supercargo/supercargolaw47.DisputeBetter", spec := "disputeBetter", inPlace := ["internal/bytealg.abigen_runtime_cmpstring"], unfollowed := true, recurses := true, named := ["math/bits.divideError", "math/bits.overflowError"], apart := false }
def DisputeBetterSaid : Prop := disputeBetterRow.holds Tryz.pinned (OpenSpec.ofChange disputeBetterSpec)

/-- ITS FALSE NEIGHBOUR: 'it returns false'. Refute it at one input. -/
def disputeBetterWrong : ChangeSpec := { name := "disputeBetter", fn := fun _ => fun
  | [d1, d2, d3] => { results := [.lit (.bool false)], args := [d1, d2, d3] }
  | _ => none }
def DisputeBetterWrongFalsely : Prop := disputeBetterRow.holds Tryz.pinned (OpenSpec.ofChange disputeBetterWrong)

/-- 'supercargolaw47.DisputeMoney': WHATEVER THE INPUT: true; the input reads as it did. -/
def disputeMoneySpec : ChangeSpec := { name := "disputeMoney", fn := fun _ => fun
  | [d1, d2] => { results := [.lit (.bool true)], args := [d1, d2] }
  | _ => none }
def disputeMoneyRow : OpenClaim := { program := "yteecfjkljmmecaagreat", sum := "66a42afa1c1aa5edf2c02ca071a24b06eae1d4972db8e9258bb93b503876a230", func := "supercargo/supercargolaw47.DisputeMoney", spec := "disputeMoney", inPlace := ["internal/bytealg.abigen_runtime_cmpstring"], unfollowed := true, recurses := true, named := ["math/bits.divideError", "math/bits.overflowError"], apart := false }
def DisputeMoneySaid : Prop := disputeMoneyRow.holds Tryz.pinned (OpenSpec.ofChange disputeMoneySpec)

/-- ITS FALSE NEIGHBOUR: 'it returns false'. Refute it at one input. -/
def disputeMoneyWrong : ChangeSpec := { name := "disputeMoney", fn := fun _ => fun
  | [d1, d2] => { results := [.lit (.bool false)], args := [d1, d2] }
  | _ => none }
def DisputeMoneyWrongFalsely : Prop := disputeMoneyRow.holds Tryz.pinned (OpenSpec.ofChange disputeMoneyWrong)

/-- 'supercargolaw47.DisputeOrders': WHATEVER THE INPUT: true; the input reads as it did. -/
def disputeOrdersSpec : ChangeSpec := { name := "disputeOrders", fn := fun _ => fun
  | [d1, d2, d3] => { results := [.lit (.bool true)], args := [d1, d2, d3] }
  | _ => none }
def disputeOrdersRow : OpenClaim := { program := "yteecfjkljmmecaagreat", sum := "66a42afa1c1aa5edf2c02ca071a24b06eae1d4972db8e9258bb93b503876a230", func := "supercargo/supercargolaw47.DisputeOrders", spec := "disputeOrders", inPlace := ["internal/bytealg.abigen_runtime_cmpstring"], unfollowed := true, recurses := true, named := ["math/bits.divideError", "math/bits.overflowError"], apart := false }
def DisputeOrdersSaid : Prop := disputeOrdersRow.holds Tryz.pinned (OpenSpec.ofChange disputeOrdersSpec)

/-- ITS FALSE NEIGHBOUR: 'it returns false'. Refute it at one input. -/
def disputeOrdersWrong : ChangeSpec := { name := "disputeOrders", fn := fun _ => fun
  | [d1, d2, d3] => { results := [.lit (.bool false)], args := [d1, d2, d3] }
  | _ => none }
def DisputeOrdersWrongFalsely : Prop := disputeOrdersRow.holds Tryz.pinned (OpenSpec.ofChange disputeOrdersWrong)

/-- 'supercargolaw47.DisputeBest': WHATEVER THE INPUT: true; the input reads as it did. -/
def disputeBestSpec : ChangeSpec := { name := "disputeBest", fn := fun _ => fun
  | [d] => { results := [.lit (.bool true)], args := [d] }
  | _ => none }
def disputeBestRow : OpenClaim := { program := "yteecfjkljmmecaagreat", sum := "66a42afa1c1aa5edf2c02ca071a24b06eae1d4972db8e9258bb93b503876a230", func := "supercargo/supercargolaw47.DisputeBest", spec := "disputeBest", inPlace := ["internal/bytealg.abigen_runtime_cmpstring"], unfollowed := true, recurses := true, named := ["math/bits.divideError", "math/bits.overflowError"], apart := false }
def DisputeBestSaid : Prop := disputeBestRow.holds Tryz.pinned (OpenSpec.ofChange disputeBestSpec)

/-- ITS FALSE NEIGHBOUR: 'it returns false'. Refute it at one input. -/
def disputeBestWrong : ChangeSpec := { name := "disputeBest", fn := fun _ => fun
  | [d] => { results := [.lit (.bool false)], args := [d] }
  | _ => none }
def DisputeBestWrongFalsely : Prop := disputeBestRow.holds Tryz.pinned (OpenSpec.ofChange disputeBestWrong)

/-- 'supercargolaw47.DisputeOrder': WHATEVER THE INPUT: true; the input reads as it did. -/
def disputeOrderSpec : ChangeSpec := { name := "disputeOrder", fn := fun _ => fun
  | [d1, d2, d3] => { results := [.lit (.bool true)], args := [d1, d2, d3] }
  | _ => none }
def disputeOrderRow : OpenClaim := { program := "yteecfjkljmmecaagreat", sum := "66a42afa1c1aa5edf2c02ca071a24b06eae1d4972db8e9258bb93b503876a230", func := "supercargo/supercargolaw47.DisputeOrder", spec := "disputeOrder", inPlace := ["internal/bytealg.abigen_runtime_cmpstring"], unfollowed := true, recurses := true, named := ["math/bits.divideError", "math/bits.overflowError"], apart := false }
def DisputeOrderSaid : Prop := disputeOrderRow.holds Tryz.pinned (OpenSpec.ofChange disputeOrderSpec)

/-- ITS FALSE NEIGHBOUR: 'it returns false'. Refute it at one input. -/
def disputeOrderWrong : ChangeSpec := { name := "disputeOrder", fn := fun _ => fun
  | [d1, d2, d3] => { results := [.lit (.bool false)], args := [d1, d2, d3] }
  | _ => none }
def DisputeOrderWrongFalsely : Prop := disputeOrderRow.holds Tryz.pinned (OpenSpec.ofChange disputeOrderWrong)

/-- 'supercargolaw47.DisputeSums': WHATEVER THE INPUT: true; the input reads as it did. -/
def disputeSumsSpec : ChangeSpec := { name := "disputeSums", fn := fun _ => fun
  | [d1, d2] => { results := [.lit (.bool true)], args := [d1, d2] }
  | _ => none }
def disputeSumsRow : OpenClaim := { program := "yteecfjkljmmecaagreat", sum := "66a42afa1c1aa5edf2c02ca071a24b06eae1d4972db8e9258bb93b503876a230", func := "supercargo/supercargolaw47.DisputeSums", spec := "disputeSums", inPlace := ["internal/bytealg.abigen_runtime_cmpstring"], unfollowed := true, recurses := true, named := ["math/bits.divideError", "math/bits.overflowError"], apart := false }
def DisputeSumsSaid : Prop := disputeSumsRow.holds Tryz.pinned (OpenSpec.ofChange disputeSumsSpec)

/-- ITS FALSE NEIGHBOUR: 'it returns false'. Refute it at one input. -/
def disputeSumsWrong : ChangeSpec := { name := "disputeSums", fn := fun _ => fun
  | [d1, d2] => { results := [.lit (.bool false)], args := [d1, d2] }
  | _ => none }
def DisputeSumsWrongFalsely : Prop := disputeSumsRow.holds Tryz.pinned (OpenSpec.ofChange disputeSumsWrong)

/-- 'supercargolaw47.DisputeTop': WHATEVER THE INPUT: true; the input reads as it did. -/
def disputeTopSpec : ChangeSpec := { name := "disputeTop", fn := fun _ => fun
  | [d1, d2, d3] => { results := [.lit (.bool true)], args := [d1, d2, d3] }
  | _ => none }
def disputeTopRow : OpenClaim := { program := "yteecfjkljmmecaagreat", sum := "66a42afa1c1aa5edf2c02ca071a24b06eae1d4972db8e9258bb93b503876a230", func := "supercargo/supercargolaw47.DisputeTop", spec := "disputeTop", inPlace := ["internal/bytealg.abigen_runtime_cmpstring"], unfollowed := true, recurses := true, named := ["math/bits.divideError", "math/bits.overflowError"], apart := false }
def DisputeTopSaid : Prop := disputeTopRow.holds Tryz.pinned (OpenSpec.ofChange disputeTopSpec)

/-- ITS FALSE NEIGHBOUR: 'it returns false'. Refute it at one input. -/
def disputeTopWrong : ChangeSpec := { name := "disputeTop", fn := fun _ => fun
  | [d1, d2, d3] => { results := [.lit (.bool false)], args := [d1, d2, d3] }
  | _ => none }
def DisputeTopWrongFalsely : Prop := disputeTopRow.holds Tryz.pinned (OpenSpec.ofChange disputeTopWrong)

/- THE SECOND FORM. 'bulk': how many values and letters a reading holds, each counted each time it is reached (what is shared counts as often as it is met; a slice's spare places count too). A statement '..UptoSaid' is the law's where the arguments, and the package variables that the reading takes, are together of bulk at most 1048576: NARROWER than '..Said'. Prove '..Said' where nothing that the law and all that it calls make is longer than what came in: it says more and counts as full. Else prove '..UptoSaid'. A law counts once. -/
mutual
def uptoBulk {H : Type} : DataW H → Nat
  | .lit (.string bytes) => bytes.length + 1
  | .lit _ => 1
  | .nil => 1
  | .ptr d => uptoBulk d + 1
  | .slice elems spare => uptoBulkAll elems + uptoBulkAll spare + 1
  | .agg parts => uptoBulkAll parts + 1
  | .iface _ d => uptoBulk d + 1
  | .map entries => uptoBulkEntries entries + 1
  | .held _ => 1
def uptoBulkAll {H : Type} : List (DataW H) → Nat
  | [] => 0
  | d :: r => uptoBulk d + uptoBulkAll r
def uptoBulkEntries {H : Type} : List (Lit × DataW H) → Nat
  | [] => 0
  | x :: r => uptoBulkEntry x + uptoBulkEntries r
def uptoBulkEntry {H : Type} : Lit × DataW H → Nat
  | (.string bytes, d) => bytes.length + uptoBulk d + 1
  | (_, d) => uptoBulk d + 1
 end
def uptoSmall : (H : Type) → List (DataW H) → Bool := fun _ ds => decide (uptoBulkAll ds ≤ 1048576)
def OpenSpec.upto (s : _root_.Go.ChangeSpec) : _root_.Go.OpenSpec := { _root_.Go.OpenSpec.ofChange s with cond := some uptoSmall }

/-- 'supercargolaw47.DisputeBetter', WHERE WHAT IT READS IS OF BULK AT MOST 1048576: true; the input reads as it did. -/
def disputeBetterUptoRow : OpenClaim := { program := "yteecfjkljmmecaagreat", sum := "66a42afa1c1aa5edf2c02ca071a24b06eae1d4972db8e9258bb93b503876a230", func := "supercargo/supercargolaw47.DisputeBetter", spec := "disputeBetter", inPlace := ["internal/bytealg.abigen_runtime_cmpstring"], unfollowed := true, recurses := true, named := ["math/bits.divideError", "math/bits.overflowError"], apart := false, narrowed := true }
def DisputeBetterUptoSaid : Prop := disputeBetterUptoRow.holds Tryz.pinned (OpenSpec.upto disputeBetterSpec)

/-- 'supercargolaw47.DisputeMoney', WHERE WHAT IT READS IS OF BULK AT MOST 1048576: true; the input reads as it did. -/
def disputeMoneyUptoRow : OpenClaim := { program := "yteecfjkljmmecaagreat", sum := "66a42afa1c1aa5edf2c02ca071a24b06eae1d4972db8e9258bb93b503876a230", func := "supercargo/supercargolaw47.DisputeMoney", spec := "disputeMoney", inPlace := ["internal/bytealg.abigen_runtime_cmpstring"], unfollowed := true, recurses := true, named := ["math/bits.divideError", "math/bits.overflowError"], apart := false, narrowed := true }
def DisputeMoneyUptoSaid : Prop := disputeMoneyUptoRow.holds Tryz.pinned (OpenSpec.upto disputeMoneySpec)

/-- 'supercargolaw47.DisputeOrders', WHERE WHAT IT READS IS OF BULK AT MOST 1048576: true; the input reads as it did. -/
def disputeOrdersUptoRow : OpenClaim := { program := "yteecfjkljmmecaagreat", sum := "66a42afa1c1aa5edf2c02ca071a24b06eae1d4972db8e9258bb93b503876a230", func := "supercargo/supercargolaw47.DisputeOrders", spec := "disputeOrders", inPlace := ["internal/bytealg.abigen_runtime_cmpstring"], unfollowed := true, recurses := true, named := ["math/bits.divideError", "math/bits.overflowError"], apart := false, narrowed := true }
def DisputeOrdersUptoSaid : Prop := disputeOrdersUptoRow.holds Tryz.pinned (OpenSpec.upto disputeOrdersSpec)

/-- 'supercargolaw47.DisputeBest', WHERE WHAT IT READS IS OF BULK AT MOST 1048576: true; the input reads as it did. -/
def disputeBestUptoRow : OpenClaim := { program := "yteecfjkljmmecaagreat", sum := "66a42afa1c1aa5edf2c02ca071a24b06eae1d4972db8e9258bb93b503876a230", func := "supercargo/supercargolaw47.DisputeBest", spec := "disputeBest", inPlace := ["internal/bytealg.abigen_runtime_cmpstring"], unfollowed := true, recurses := true, named := ["math/bits.divideError", "math/bits.overflowError"], apart := false, narrowed := true }
def DisputeBestUptoSaid : Prop := disputeBestUptoRow.holds Tryz.pinned (OpenSpec.upto disputeBestSpec)

/-- 'supercargolaw47.DisputeOrder', WHERE WHAT IT READS IS OF BULK AT MOST 1048576: true; the input reads as it did. -/
def disputeOrderUptoRow : OpenClaim := { program := "yteecfjkljmmecaagreat", sum := "66a42afa1c1aa5edf2c02ca071a24b06eae1d4972db8e9258bb93b503876a230", func := "supercargo/supercargolaw47.DisputeOrder", spec := "disputeOrder", inPlace := ["internal/bytealg.abigen_runtime_cmpstring"], unfollowed := true, recurses := true, named := ["math/bits.divideError", "math/bits.overflowError"], apart := false, narrowed := true }
def DisputeOrderUptoSaid : Prop := disputeOrderUptoRow.holds Tryz.pinned (OpenSpec.upto disputeOrderSpec)

/-- 'supercargolaw47.DisputeSums', WHERE WHAT IT READS IS OF BULK AT MOST 1048576: true; the input reads as it did. -/
def disputeSumsUptoRow : OpenClaim := { program := "yteecfjkljmmecaagreat", sum := "66a42afa1c1aa5edf2c02ca071a24b06eae1d4972db8e9258bb93b503876a230", func := "supercargo/supercargolaw47.DisputeSums", spec := "disputeSums", inPlace := ["internal/bytealg.abigen_runtime_cmpstring"], unfollowed := true, recurses := true, named := ["math/bits.divideError", "math/bits.overflowError"], apart := false, narrowed := true }
def DisputeSumsUptoSaid : Prop := disputeSumsUptoRow.holds Tryz.pinned (OpenSpec.upto disputeSumsSpec)

/-- 'supercargolaw47.DisputeTop', WHERE WHAT IT READS IS OF BULK AT MOST 1048576: true; the input reads as it did. -/
def disputeTopUptoRow : OpenClaim := { program := "yteecfjkljmmecaagreat", sum := "66a42afa1c1aa5edf2c02ca071a24b06eae1d4972db8e9258bb93b503876a230", func := "supercargo/supercargolaw47.DisputeTop", spec := "disputeTop", inPlace := ["internal/bytealg.abigen_runtime_cmpstring"], unfollowed := true, recurses := true, named := ["math/bits.divideError", "math/bits.overflowError"], apart := false, narrowed := true }
def DisputeTopUptoSaid : Prop := disputeTopUptoRow.holds Tryz.pinned (OpenSpec.upto disputeTopSpec)

end Rows
end Go.Proofs.YteecfjkljmmecaaGreat
