/-
  No cell of these rows narrows 'for every input' (looked for: loops, veiled, ifaces, maps, wideKeys, modest, calm, conditions, laid).
  DERIVED. THE GIVEN ROWS OF THIS SEAT. 12 by the template 'for every input the law returns true; each argument reads behind the call as it read before'; 0 by the template 'total and deterministic' (their statements: YtlcgfncgjljgpaaTotals.lean).
  GIVEN WITH THE SEED: the statements are not yours to turn. If you find one false, say at which input.
  Laid BY PROGRAM, IN A SANDBOX (cutbox-rows.mjs): the forced cells as the released guide's own fill.sh prints them over the translation cd99b8516c2272f3… (all of the seat's roots in one cut). By AI agents, Wed Nov 11 2026. No macro, syntax, notation, axiom, sorry.
-/
import Derived.Test.YtlcgfncgjljgpaaChecked
import GoSem.Claim
import GoSem.ClaimJoined
import GoSem.ClaimMapViews
import Derived.JoinedTies
import Derived.KernelRfl
namespace Go.Proofs.Ytlcgfncgjljgpaa
/- THE CELL 'sum', in the pinned program and in every row, IS THE sha256 OF THE DUMP (.gsa) THAT YtlcgfncgjljgpaaProg.lean LOADS. Nothing in Lean hashes anything: it is a label: what it is worth is what the hold of that sum in a sandbox is worth. -/
noncomputable def Try.pinned : Pinned := { name := "ytlcgfncgjljgpaa", sum := "cd99b8516c2272f33769755fec74d0d6e07df174d64a108e1c4c8d1300f7b2d4", checked := Try.checked }
namespace Rows
def none {H : Type} : Left H := { results := [], args := [] }

/-- 'laws.FnExactPowerFor': WHATEVER THE INPUT: true; the input reads as it did. -/
def fnExactPowerForSpec : ChangeSpec := { name := "fnExactPowerFor", fn := fun _ => fun
  | [d] => { results := [.lit (.bool true)], args := [d] }
  | _ => none }
def fnExactPowerForRow : OpenClaim := { program := "ytlcgfncgjljgpaa", sum := "cd99b8516c2272f33769755fec74d0d6e07df174d64a108e1c4c8d1300f7b2d4", func := "loop.example/memorymanagers/laws.FnExactPowerFor", spec := "fnExactPowerFor", apart := false }
def FnExactPowerForSaid : Prop := fnExactPowerForRow.holds Try.pinned (OpenSpec.ofChange fnExactPowerForSpec)

/-- ITS FALSE NEIGHBOUR: 'it returns false'. Refute it at one input. -/
def fnExactPowerForWrong : ChangeSpec := { name := "fnExactPowerFor", fn := fun _ => fun
  | [d] => { results := [.lit (.bool false)], args := [d] }
  | _ => none }
def FnExactPowerForWrongFalsely : Prop := fnExactPowerForRow.holds Try.pinned (OpenSpec.ofChange fnExactPowerForWrong)

/-- 'laws.FnExactBuddiesValid': WHATEVER THE INPUT: true; the input reads as it did. -/
def fnExactBuddiesValidSpec : ChangeSpec := { name := "fnExactBuddiesValid", fn := fun _ => fun
  | [d1, d2] => { results := [.lit (.bool true)], args := [d1, d2] }
  | _ => none }
def fnExactBuddiesValidRow : OpenClaim := { program := "ytlcgfncgjljgpaa", sum := "cd99b8516c2272f33769755fec74d0d6e07df174d64a108e1c4c8d1300f7b2d4", func := "loop.example/memorymanagers/laws.FnExactBuddiesValid", spec := "fnExactBuddiesValid", apart := false }
def FnExactBuddiesValidSaid : Prop := fnExactBuddiesValidRow.holds Try.pinned (OpenSpec.ofChange fnExactBuddiesValidSpec)

/-- ITS FALSE NEIGHBOUR: 'it returns false'. Refute it at one input. -/
def fnExactBuddiesValidWrong : ChangeSpec := { name := "fnExactBuddiesValid", fn := fun _ => fun
  | [d1, d2] => { results := [.lit (.bool false)], args := [d1, d2] }
  | _ => none }
def FnExactBuddiesValidWrongFalsely : Prop := fnExactBuddiesValidRow.holds Try.pinned (OpenSpec.ofChange fnExactBuddiesValidWrong)

/-- 'laws.FnBuddyWaste': WHATEVER THE INPUT: true; the input reads as it did. -/
def fnBuddyWasteSpec : ChangeSpec := { name := "fnBuddyWaste", fn := fun _ => fun
  | [d] => { results := [.lit (.bool true)], args := [d] }
  | _ => none }
def fnBuddyWasteRow : OpenClaim := { program := "ytlcgfncgjljgpaa", sum := "cd99b8516c2272f33769755fec74d0d6e07df174d64a108e1c4c8d1300f7b2d4", func := "loop.example/memorymanagers/laws.FnBuddyWaste", spec := "fnBuddyWaste", apart := false }
def FnBuddyWasteSaid : Prop := fnBuddyWasteRow.holds Try.pinned (OpenSpec.ofChange fnBuddyWasteSpec)

/-- ITS FALSE NEIGHBOUR: 'it returns false'. Refute it at one input. -/
def fnBuddyWasteWrong : ChangeSpec := { name := "fnBuddyWaste", fn := fun _ => fun
  | [d] => { results := [.lit (.bool false)], args := [d] }
  | _ => none }
def FnBuddyWasteWrongFalsely : Prop := fnBuddyWasteRow.holds Try.pinned (OpenSpec.ofChange fnBuddyWasteWrong)

/-- 'laws.FnPowerFor': WHATEVER THE INPUT: true; the input reads as it did. -/
def fnPowerForSpec : ChangeSpec := { name := "fnPowerFor", fn := fun _ => fun
  | [d] => { results := [.lit (.bool true)], args := [d] }
  | _ => none }
def fnPowerForRow : OpenClaim := { program := "ytlcgfncgjljgpaa", sum := "cd99b8516c2272f33769755fec74d0d6e07df174d64a108e1c4c8d1300f7b2d4", func := "loop.example/memorymanagers/laws.FnPowerFor", spec := "fnPowerFor", apart := false }
def FnPowerForSaid : Prop := fnPowerForRow.holds Try.pinned (OpenSpec.ofChange fnPowerForSpec)

/-- ITS FALSE NEIGHBOUR: 'it returns false'. Refute it at one input. -/
def fnPowerForWrong : ChangeSpec := { name := "fnPowerFor", fn := fun _ => fun
  | [d] => { results := [.lit (.bool false)], args := [d] }
  | _ => none }
def FnPowerForWrongFalsely : Prop := fnPowerForRow.holds Try.pinned (OpenSpec.ofChange fnPowerForWrong)

/-- 'laws.FnExactBuddyFree': WHATEVER THE INPUT: true; the input reads as it did. -/
def fnExactBuddyFreeSpec : ChangeSpec := { name := "fnExactBuddyFree", fn := fun _ => fun
  | [d1, d2] => { results := [.lit (.bool true)], args := [d1, d2] }
  | _ => none }
def fnExactBuddyFreeRow : OpenClaim := { program := "ytlcgfncgjljgpaa", sum := "cd99b8516c2272f33769755fec74d0d6e07df174d64a108e1c4c8d1300f7b2d4", func := "loop.example/memorymanagers/laws.FnExactBuddyFree", spec := "fnExactBuddyFree", apart := false }
def FnExactBuddyFreeSaid : Prop := fnExactBuddyFreeRow.holds Try.pinned (OpenSpec.ofChange fnExactBuddyFreeSpec)

/-- ITS FALSE NEIGHBOUR: 'it returns false'. Refute it at one input. -/
def fnExactBuddyFreeWrong : ChangeSpec := { name := "fnExactBuddyFree", fn := fun _ => fun
  | [d1, d2] => { results := [.lit (.bool false)], args := [d1, d2] }
  | _ => none }
def FnExactBuddyFreeWrongFalsely : Prop := fnExactBuddyFreeRow.holds Try.pinned (OpenSpec.ofChange fnExactBuddyFreeWrong)

/-- 'laws.FnExactBuddyGive': WHATEVER THE INPUT: true; the input reads as it did. -/
def fnExactBuddyGiveSpec : ChangeSpec := { name := "fnExactBuddyGive", fn := fun _ => fun
  | [d1, d2, d3] => { results := [.lit (.bool true)], args := [d1, d2, d3] }
  | _ => none }
def fnExactBuddyGiveRow : OpenClaim := { program := "ytlcgfncgjljgpaa", sum := "cd99b8516c2272f33769755fec74d0d6e07df174d64a108e1c4c8d1300f7b2d4", func := "loop.example/memorymanagers/laws.FnExactBuddyGive", spec := "fnExactBuddyGive", apart := false }
def FnExactBuddyGiveSaid : Prop := fnExactBuddyGiveRow.holds Try.pinned (OpenSpec.ofChange fnExactBuddyGiveSpec)

/-- ITS FALSE NEIGHBOUR: 'it returns false'. Refute it at one input. -/
def fnExactBuddyGiveWrong : ChangeSpec := { name := "fnExactBuddyGive", fn := fun _ => fun
  | [d1, d2, d3] => { results := [.lit (.bool false)], args := [d1, d2, d3] }
  | _ => none }
def FnExactBuddyGiveWrongFalsely : Prop := fnExactBuddyGiveRow.holds Try.pinned (OpenSpec.ofChange fnExactBuddyGiveWrong)

/-- 'laws.FnBuddiesValid': WHATEVER THE INPUT: true; the input reads as it did. -/
def fnBuddiesValidSpec : ChangeSpec := { name := "fnBuddiesValid", fn := fun _ => fun
  | [d] => { results := [.lit (.bool true)], args := [d] }
  | _ => none }
def fnBuddiesValidRow : OpenClaim := { program := "ytlcgfncgjljgpaa", sum := "cd99b8516c2272f33769755fec74d0d6e07df174d64a108e1c4c8d1300f7b2d4", func := "loop.example/memorymanagers/laws.FnBuddiesValid", spec := "fnBuddiesValid", apart := false }
def FnBuddiesValidSaid : Prop := fnBuddiesValidRow.holds Try.pinned (OpenSpec.ofChange fnBuddiesValidSpec)

/-- ITS FALSE NEIGHBOUR: 'it returns false'. Refute it at one input. -/
def fnBuddiesValidWrong : ChangeSpec := { name := "fnBuddiesValid", fn := fun _ => fun
  | [d] => { results := [.lit (.bool false)], args := [d] }
  | _ => none }
def FnBuddiesValidWrongFalsely : Prop := fnBuddiesValidRow.holds Try.pinned (OpenSpec.ofChange fnBuddiesValidWrong)

/-- 'laws.FnExactBuddyTake': WHATEVER THE INPUT: true; the input reads as it did. -/
def fnExactBuddyTakeSpec : ChangeSpec := { name := "fnExactBuddyTake", fn := fun _ => fun
  | [d1, d2, d3] => { results := [.lit (.bool true)], args := [d1, d2, d3] }
  | _ => none }
def fnExactBuddyTakeRow : OpenClaim := { program := "ytlcgfncgjljgpaa", sum := "cd99b8516c2272f33769755fec74d0d6e07df174d64a108e1c4c8d1300f7b2d4", func := "loop.example/memorymanagers/laws.FnExactBuddyTake", spec := "fnExactBuddyTake", apart := false }
def FnExactBuddyTakeSaid : Prop := fnExactBuddyTakeRow.holds Try.pinned (OpenSpec.ofChange fnExactBuddyTakeSpec)

/-- ITS FALSE NEIGHBOUR: 'it returns false'. Refute it at one input. -/
def fnExactBuddyTakeWrong : ChangeSpec := { name := "fnExactBuddyTake", fn := fun _ => fun
  | [d1, d2, d3] => { results := [.lit (.bool false)], args := [d1, d2, d3] }
  | _ => none }
def FnExactBuddyTakeWrongFalsely : Prop := fnExactBuddyTakeRow.holds Try.pinned (OpenSpec.ofChange fnExactBuddyTakeWrong)

/-- 'laws.FnBuddyFree': WHATEVER THE INPUT: true; the input reads as it did. -/
def fnBuddyFreeSpec : ChangeSpec := { name := "fnBuddyFree", fn := fun _ => fun
  | [d] => { results := [.lit (.bool true)], args := [d] }
  | _ => none }
def fnBuddyFreeRow : OpenClaim := { program := "ytlcgfncgjljgpaa", sum := "cd99b8516c2272f33769755fec74d0d6e07df174d64a108e1c4c8d1300f7b2d4", func := "loop.example/memorymanagers/laws.FnBuddyFree", spec := "fnBuddyFree", apart := false }
def FnBuddyFreeSaid : Prop := fnBuddyFreeRow.holds Try.pinned (OpenSpec.ofChange fnBuddyFreeSpec)

/-- ITS FALSE NEIGHBOUR: 'it returns false'. Refute it at one input. -/
def fnBuddyFreeWrong : ChangeSpec := { name := "fnBuddyFree", fn := fun _ => fun
  | [d] => { results := [.lit (.bool false)], args := [d] }
  | _ => none }
def FnBuddyFreeWrongFalsely : Prop := fnBuddyFreeRow.holds Try.pinned (OpenSpec.ofChange fnBuddyFreeWrong)

/-- 'laws.FnBuddyOrder': WHATEVER THE INPUT: true; the input reads as it did. -/
def fnBuddyOrderSpec : ChangeSpec := { name := "fnBuddyOrder", fn := fun _ => fun
  | [d] => { results := [.lit (.bool true)], args := [d] }
  | _ => none }
def fnBuddyOrderRow : OpenClaim := { program := "ytlcgfncgjljgpaa", sum := "cd99b8516c2272f33769755fec74d0d6e07df174d64a108e1c4c8d1300f7b2d4", func := "loop.example/memorymanagers/laws.FnBuddyOrder", spec := "fnBuddyOrder", apart := false }
def FnBuddyOrderSaid : Prop := fnBuddyOrderRow.holds Try.pinned (OpenSpec.ofChange fnBuddyOrderSpec)

/-- ITS FALSE NEIGHBOUR: 'it returns false'. Refute it at one input. -/
def fnBuddyOrderWrong : ChangeSpec := { name := "fnBuddyOrder", fn := fun _ => fun
  | [d] => { results := [.lit (.bool false)], args := [d] }
  | _ => none }
def FnBuddyOrderWrongFalsely : Prop := fnBuddyOrderRow.holds Try.pinned (OpenSpec.ofChange fnBuddyOrderWrong)

/-- 'laws.FnBuddyGive': WHATEVER THE INPUT: true; the input reads as it did. -/
def fnBuddyGiveSpec : ChangeSpec := { name := "fnBuddyGive", fn := fun _ => fun
  | [d] => { results := [.lit (.bool true)], args := [d] }
  | _ => none }
def fnBuddyGiveRow : OpenClaim := { program := "ytlcgfncgjljgpaa", sum := "cd99b8516c2272f33769755fec74d0d6e07df174d64a108e1c4c8d1300f7b2d4", func := "loop.example/memorymanagers/laws.FnBuddyGive", spec := "fnBuddyGive", apart := false }
def FnBuddyGiveSaid : Prop := fnBuddyGiveRow.holds Try.pinned (OpenSpec.ofChange fnBuddyGiveSpec)

/-- ITS FALSE NEIGHBOUR: 'it returns false'. Refute it at one input. -/
def fnBuddyGiveWrong : ChangeSpec := { name := "fnBuddyGive", fn := fun _ => fun
  | [d] => { results := [.lit (.bool false)], args := [d] }
  | _ => none }
def FnBuddyGiveWrongFalsely : Prop := fnBuddyGiveRow.holds Try.pinned (OpenSpec.ofChange fnBuddyGiveWrong)

/-- 'laws.FnBuddyTake': WHATEVER THE INPUT: true; the input reads as it did. -/
def fnBuddyTakeSpec : ChangeSpec := { name := "fnBuddyTake", fn := fun _ => fun
  | [d] => { results := [.lit (.bool true)], args := [d] }
  | _ => none }
def fnBuddyTakeRow : OpenClaim := { program := "ytlcgfncgjljgpaa", sum := "cd99b8516c2272f33769755fec74d0d6e07df174d64a108e1c4c8d1300f7b2d4", func := "loop.example/memorymanagers/laws.FnBuddyTake", spec := "fnBuddyTake", apart := false }
def FnBuddyTakeSaid : Prop := fnBuddyTakeRow.holds Try.pinned (OpenSpec.ofChange fnBuddyTakeSpec)

/-- ITS FALSE NEIGHBOUR: 'it returns false'. Refute it at one input. -/
def fnBuddyTakeWrong : ChangeSpec := { name := "fnBuddyTake", fn := fun _ => fun
  | [d] => { results := [.lit (.bool false)], args := [d] }
  | _ => none }
def FnBuddyTakeWrongFalsely : Prop := fnBuddyTakeRow.holds Try.pinned (OpenSpec.ofChange fnBuddyTakeWrong)

/- THE SECOND FORM. 'bulk': how many values and letters a reading holds, each counted each time it is reached (what is shared counts as often as it is met; a slice's spare places count too). A statement '..UptoSaid' is the law's where the arguments, and the package variables that the reading takes, are together of bulk at most 1048576: NARROWER than '..Said'. Prove '..Said' where nothing that the law and all that it calls make is longer than what came in: it says more and counts as full. Else prove '..UptoSaid'. A law counts once. -/
mutual
def uptoBulk {H : Type} : DataW H → Nat
  | .lit (.string bytes) => bytes.length + 1
  | .lit _ => 1
  | .nil => 1
  | .ptr d => uptoBulk d + 1
  | .slice elems spare => uptoBulkAll elems + uptoBulkAll spare + 1
  | .agg parts => uptoBulkAll parts + 1
  | .iface _ d => uptoBulk d + 1
  | .map entries => uptoBulkEntries entries + 1
  | .held _ => 1
def uptoBulkAll {H : Type} : List (DataW H) → Nat
  | [] => 0
  | d :: r => uptoBulk d + uptoBulkAll r
def uptoBulkEntries {H : Type} : List (Lit × DataW H) → Nat
  | [] => 0
  | x :: r => uptoBulkEntry x + uptoBulkEntries r
def uptoBulkEntry {H : Type} : Lit × DataW H → Nat
  | (.string bytes, d) => bytes.length + uptoBulk d + 1
  | (_, d) => uptoBulk d + 1
 end
def uptoSmall : (H : Type) → List (DataW H) → Bool := fun _ ds => decide (uptoBulkAll ds ≤ 1048576)
def OpenSpec.upto (s : _root_.Go.ChangeSpec) : _root_.Go.OpenSpec := { _root_.Go.OpenSpec.ofChange s with cond := some uptoSmall }

/-- 'laws.FnExactPowerFor', WHERE WHAT IT READS IS OF BULK AT MOST 1048576: true; the input reads as it did. -/
def fnExactPowerForUptoRow : OpenClaim := { program := "ytlcgfncgjljgpaa", sum := "cd99b8516c2272f33769755fec74d0d6e07df174d64a108e1c4c8d1300f7b2d4", func := "loop.example/memorymanagers/laws.FnExactPowerFor", spec := "fnExactPowerFor", apart := false, narrowed := true }
def FnExactPowerForUptoSaid : Prop := fnExactPowerForUptoRow.holds Try.pinned (OpenSpec.upto fnExactPowerForSpec)

/-- 'laws.FnExactBuddiesValid', WHERE WHAT IT READS IS OF BULK AT MOST 1048576: true; the input reads as it did. -/
def fnExactBuddiesValidUptoRow : OpenClaim := { program := "ytlcgfncgjljgpaa", sum := "cd99b8516c2272f33769755fec74d0d6e07df174d64a108e1c4c8d1300f7b2d4", func := "loop.example/memorymanagers/laws.FnExactBuddiesValid", spec := "fnExactBuddiesValid", apart := false, narrowed := true }
def FnExactBuddiesValidUptoSaid : Prop := fnExactBuddiesValidUptoRow.holds Try.pinned (OpenSpec.upto fnExactBuddiesValidSpec)

/-- 'laws.FnBuddyWaste', WHERE WHAT IT READS IS OF BULK AT MOST 1048576: true; the input reads as it did. -/
def fnBuddyWasteUptoRow : OpenClaim := { program := "ytlcgfncgjljgpaa", sum := "cd99b8516c2272f33769755fec74d0d6e07df174d64a108e1c4c8d1300f7b2d4", func := "loop.example/memorymanagers/laws.FnBuddyWaste", spec := "fnBuddyWaste", apart := false, narrowed := true }
def FnBuddyWasteUptoSaid : Prop := fnBuddyWasteUptoRow.holds Try.pinned (OpenSpec.upto fnBuddyWasteSpec)

/-- 'laws.FnPowerFor', WHERE WHAT IT READS IS OF BULK AT MOST 1048576: true; the input reads as it did. -/
def fnPowerForUptoRow : OpenClaim := { program := "ytlcgfncgjljgpaa", sum := "cd99b8516c2272f33769755fec74d0d6e07df174d64a108e1c4c8d1300f7b2d4", func := "loop.example/memorymanagers/laws.FnPowerFor", spec := "fnPowerFor", apart := false, narrowed := true }
def FnPowerForUptoSaid : Prop := fnPowerForUptoRow.holds Try.pinned (OpenSpec.upto fnPowerForSpec)

/-- 'laws.FnExactBuddyFree', WHERE WHAT IT READS IS OF BULK AT MOST 1048576: true; the input reads as it did. -/
def fnExactBuddyFreeUptoRow : OpenClaim := { program := "ytlcgfncgjljgpaa", sum := "cd99b8516c2272f33769755fec74d0d6e07df174d64a108e1c4c8d1300f7b2d4", func := "loop.example/memorymanagers/laws.FnExactBuddyFree", spec := "fnExactBuddyFree", apart := false, narrowed := true }
def FnExactBuddyFreeUptoSaid : Prop := fnExactBuddyFreeUptoRow.holds Try.pinned (OpenSpec.upto fnExactBuddyFreeSpec)

/-- 'laws.FnExactBuddyGive', WHERE WHAT IT READS IS OF BULK AT MOST 1048576: true; the input reads as it did. -/
def fnExactBuddyGiveUptoRow : OpenClaim := { program := "ytlcgfncgjljgpaa", sum := "cd99b8516c2272f33769755fec74d0d6e07df174d64a108e1c4c8d1300f7b2d4", func := "loop.example/memorymanagers/laws.FnExactBuddyGive", spec := "fnExactBuddyGive", apart := false, narrowed := true }
def FnExactBuddyGiveUptoSaid : Prop := fnExactBuddyGiveUptoRow.holds Try.pinned (OpenSpec.upto fnExactBuddyGiveSpec)

/-- 'laws.FnBuddiesValid', WHERE WHAT IT READS IS OF BULK AT MOST 1048576: true; the input reads as it did. -/
def fnBuddiesValidUptoRow : OpenClaim := { program := "ytlcgfncgjljgpaa", sum := "cd99b8516c2272f33769755fec74d0d6e07df174d64a108e1c4c8d1300f7b2d4", func := "loop.example/memorymanagers/laws.FnBuddiesValid", spec := "fnBuddiesValid", apart := false, narrowed := true }
def FnBuddiesValidUptoSaid : Prop := fnBuddiesValidUptoRow.holds Try.pinned (OpenSpec.upto fnBuddiesValidSpec)

/-- 'laws.FnExactBuddyTake', WHERE WHAT IT READS IS OF BULK AT MOST 1048576: true; the input reads as it did. -/
def fnExactBuddyTakeUptoRow : OpenClaim := { program := "ytlcgfncgjljgpaa", sum := "cd99b8516c2272f33769755fec74d0d6e07df174d64a108e1c4c8d1300f7b2d4", func := "loop.example/memorymanagers/laws.FnExactBuddyTake", spec := "fnExactBuddyTake", apart := false, narrowed := true }
def FnExactBuddyTakeUptoSaid : Prop := fnExactBuddyTakeUptoRow.holds Try.pinned (OpenSpec.upto fnExactBuddyTakeSpec)

/-- 'laws.FnBuddyFree', WHERE WHAT IT READS IS OF BULK AT MOST 1048576: true; the input reads as it did. -/
def fnBuddyFreeUptoRow : OpenClaim := { program := "ytlcgfncgjljgpaa", sum := "cd99b8516c2272f33769755fec74d0d6e07df174d64a108e1c4c8d1300f7b2d4", func := "loop.example/memorymanagers/laws.FnBuddyFree", spec := "fnBuddyFree", apart := false, narrowed := true }
def FnBuddyFreeUptoSaid : Prop := fnBuddyFreeUptoRow.holds Try.pinned (OpenSpec.upto fnBuddyFreeSpec)

/-- 'laws.FnBuddyOrder', WHERE WHAT IT READS IS OF BULK AT MOST 1048576: true; the input reads as it did. -/
def fnBuddyOrderUptoRow : OpenClaim := { program := "ytlcgfncgjljgpaa", sum := "cd99b8516c2272f33769755fec74d0d6e07df174d64a108e1c4c8d1300f7b2d4", func := "loop.example/memorymanagers/laws.FnBuddyOrder", spec := "fnBuddyOrder", apart := false, narrowed := true }
def FnBuddyOrderUptoSaid : Prop := fnBuddyOrderUptoRow.holds Try.pinned (OpenSpec.upto fnBuddyOrderSpec)

/-- 'laws.FnBuddyGive', WHERE WHAT IT READS IS OF BULK AT MOST 1048576: true; the input reads as it did. -/
def fnBuddyGiveUptoRow : OpenClaim := { program := "ytlcgfncgjljgpaa", sum := "cd99b8516c2272f33769755fec74d0d6e07df174d64a108e1c4c8d1300f7b2d4", func := "loop.example/memorymanagers/laws.FnBuddyGive", spec := "fnBuddyGive", apart := false, narrowed := true }
def FnBuddyGiveUptoSaid : Prop := fnBuddyGiveUptoRow.holds Try.pinned (OpenSpec.upto fnBuddyGiveSpec)

/-- 'laws.FnBuddyTake', WHERE WHAT IT READS IS OF BULK AT MOST 1048576: true; the input reads as it did. -/
def fnBuddyTakeUptoRow : OpenClaim := { program := "ytlcgfncgjljgpaa", sum := "cd99b8516c2272f33769755fec74d0d6e07df174d64a108e1c4c8d1300f7b2d4", func := "loop.example/memorymanagers/laws.FnBuddyTake", spec := "fnBuddyTake", apart := false, narrowed := true }
def FnBuddyTakeUptoSaid : Prop := fnBuddyTakeUptoRow.holds Try.pinned (OpenSpec.upto fnBuddyTakeSpec)

end Rows
end Go.Proofs.Ytlcgfncgjljgpaa
