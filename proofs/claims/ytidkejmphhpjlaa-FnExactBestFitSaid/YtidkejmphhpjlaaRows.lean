/-
  No cell of these rows narrows 'for every input' (looked for: loops, veiled, ifaces, maps, wideKeys, modest, calm, conditions, laid).
  DERIVED. THE GIVEN ROWS OF THIS SEAT. 12 by the template 'for every input the law returns true; each argument reads behind the call as it read before'; 0 by the template 'total and deterministic' (their statements: YtidkejmphhpjlaaTotals.lean).
  GIVEN WITH THE SEED: the statements are not yours to turn. If you find one false, say at which input.
  Laid BY PROGRAM, IN A SANDBOX (cutbox-rows.mjs): the forced cells as the released guide's own fill.sh prints them over the translation 34854a3ac4b070e4… (all of the seat's roots in one cut). By AI agents, Wed Nov 11 2026. No macro, syntax, notation, axiom, sorry.
-/
import Derived.Test.YtidkejmphhpjlaaChecked
import GoSem.Claim
import GoSem.ClaimJoined
import GoSem.ClaimMapViews
import Derived.JoinedTies
import Derived.KernelRfl
namespace Go.Proofs.Ytidkejmphhpjlaa
/- THE CELL 'sum', in the pinned program and in every row, IS THE sha256 OF THE DUMP (.gsa) THAT YtidkejmphhpjlaaProg.lean LOADS. Nothing in Lean hashes anything: it is a label: what it is worth is what the hold of that sum in a sandbox is worth. -/
noncomputable def Try.pinned : Pinned := { name := "ytidkejmphhpjlaa", sum := "34854a3ac4b070e44577a4335bfd86c4709f00c8340dcd7496c09be2dc6b8d1f", checked := Try.checked }
namespace Rows
def none {H : Type} : Left H := { results := [], args := [] }

/-- 'laws.FnExactBestFit': WHATEVER THE INPUT: true; the input reads as it did. -/
def fnExactBestFitSpec : ChangeSpec := { name := "fnExactBestFit", fn := fun _ => fun
  | [d1, d2, d3] => { results := [.lit (.bool true)], args := [d1, d2, d3] }
  | _ => none }
def fnExactBestFitRow : OpenClaim := { program := "ytidkejmphhpjlaa", sum := "34854a3ac4b070e44577a4335bfd86c4709f00c8340dcd7496c09be2dc6b8d1f", func := "loop.example/memorymanagers/laws.FnExactBestFit", spec := "fnExactBestFit", inPlace := ["internal/reflectlite.ValueOf", "internal/reflectlite.Swapper", "(internal/reflectlite.Value).Len"], unfollowed := true, recurses := true, apart := false }
def FnExactBestFitSaid : Prop := fnExactBestFitRow.holds Try.pinned (OpenSpec.ofChange fnExactBestFitSpec)

/-- ITS FALSE NEIGHBOUR: 'it returns false'. Refute it at one input. -/
def fnExactBestFitWrong : ChangeSpec := { name := "fnExactBestFit", fn := fun _ => fun
  | [d1, d2, d3] => { results := [.lit (.bool false)], args := [d1, d2, d3] }
  | _ => none }
def FnExactBestFitWrongFalsely : Prop := fnExactBestFitRow.holds Try.pinned (OpenSpec.ofChange fnExactBestFitWrong)

/-- 'laws.FnExactNewBlocks': WHATEVER THE INPUT: true; the input reads as it did. -/
def fnExactNewBlocksSpec : ChangeSpec := { name := "fnExactNewBlocks", fn := fun _ => fun
  | [d] => { results := [.lit (.bool true)], args := [d] }
  | _ => none }
def fnExactNewBlocksRow : OpenClaim := { program := "ytidkejmphhpjlaa", sum := "34854a3ac4b070e44577a4335bfd86c4709f00c8340dcd7496c09be2dc6b8d1f", func := "loop.example/memorymanagers/laws.FnExactNewBlocks", spec := "fnExactNewBlocks", apart := false }
def FnExactNewBlocksSaid : Prop := fnExactNewBlocksRow.holds Try.pinned (OpenSpec.ofChange fnExactNewBlocksSpec)

/-- ITS FALSE NEIGHBOUR: 'it returns false'. Refute it at one input. -/
def fnExactNewBlocksWrong : ChangeSpec := { name := "fnExactNewBlocks", fn := fun _ => fun
  | [d] => { results := [.lit (.bool false)], args := [d] }
  | _ => none }
def FnExactNewBlocksWrongFalsely : Prop := fnExactNewBlocksRow.holds Try.pinned (OpenSpec.ofChange fnExactNewBlocksWrong)

/-- 'laws.FnExactBlocksValid': WHATEVER THE INPUT: true; the input reads as it did. -/
def fnExactBlocksValidSpec : ChangeSpec := { name := "fnExactBlocksValid", fn := fun _ => fun
  | [d1, d2] => { results := [.lit (.bool true)], args := [d1, d2] }
  | _ => none }
def fnExactBlocksValidRow : OpenClaim := { program := "ytidkejmphhpjlaa", sum := "34854a3ac4b070e44577a4335bfd86c4709f00c8340dcd7496c09be2dc6b8d1f", func := "loop.example/memorymanagers/laws.FnExactBlocksValid", spec := "fnExactBlocksValid", apart := false }
def FnExactBlocksValidSaid : Prop := fnExactBlocksValidRow.holds Try.pinned (OpenSpec.ofChange fnExactBlocksValidSpec)

/-- ITS FALSE NEIGHBOUR: 'it returns false'. Refute it at one input. -/
def fnExactBlocksValidWrong : ChangeSpec := { name := "fnExactBlocksValid", fn := fun _ => fun
  | [d1, d2] => { results := [.lit (.bool false)], args := [d1, d2] }
  | _ => none }
def FnExactBlocksValidWrongFalsely : Prop := fnExactBlocksValidRow.holds Try.pinned (OpenSpec.ofChange fnExactBlocksValidWrong)

/-- 'laws.FnBestFit': WHATEVER THE INPUT: true; the input reads as it did. -/
def fnBestFitSpec : ChangeSpec := { name := "fnBestFit", fn := fun _ => fun
  | [d] => { results := [.lit (.bool true)], args := [d] }
  | _ => none }
def fnBestFitRow : OpenClaim := { program := "ytidkejmphhpjlaa", sum := "34854a3ac4b070e44577a4335bfd86c4709f00c8340dcd7496c09be2dc6b8d1f", func := "loop.example/memorymanagers/laws.FnBestFit", spec := "fnBestFit", inPlace := ["internal/reflectlite.ValueOf", "internal/reflectlite.Swapper", "(internal/reflectlite.Value).Len"], unfollowed := true, recurses := true, apart := false }
def FnBestFitSaid : Prop := fnBestFitRow.holds Try.pinned (OpenSpec.ofChange fnBestFitSpec)

/-- ITS FALSE NEIGHBOUR: 'it returns false'. Refute it at one input. -/
def fnBestFitWrong : ChangeSpec := { name := "fnBestFit", fn := fun _ => fun
  | [d] => { results := [.lit (.bool false)], args := [d] }
  | _ => none }
def FnBestFitWrongFalsely : Prop := fnBestFitRow.holds Try.pinned (OpenSpec.ofChange fnBestFitWrong)

/-- 'laws.FnExactFirstFit': WHATEVER THE INPUT: true; the input reads as it did. -/
def fnExactFirstFitSpec : ChangeSpec := { name := "fnExactFirstFit", fn := fun _ => fun
  | [d1, d2, d3] => { results := [.lit (.bool true)], args := [d1, d2, d3] }
  | _ => none }
def fnExactFirstFitRow : OpenClaim := { program := "ytidkejmphhpjlaa", sum := "34854a3ac4b070e44577a4335bfd86c4709f00c8340dcd7496c09be2dc6b8d1f", func := "loop.example/memorymanagers/laws.FnExactFirstFit", spec := "fnExactFirstFit", apart := false }
def FnExactFirstFitSaid : Prop := fnExactFirstFitRow.holds Try.pinned (OpenSpec.ofChange fnExactFirstFitSpec)

/-- ITS FALSE NEIGHBOUR: 'it returns false'. Refute it at one input. -/
def fnExactFirstFitWrong : ChangeSpec := { name := "fnExactFirstFit", fn := fun _ => fun
  | [d1, d2, d3] => { results := [.lit (.bool false)], args := [d1, d2, d3] }
  | _ => none }
def FnExactFirstFitWrongFalsely : Prop := fnExactFirstFitRow.holds Try.pinned (OpenSpec.ofChange fnExactFirstFitWrong)

/-- 'laws.FnFitsBoth': WHATEVER THE INPUT: true; the input reads as it did. -/
def fnFitsBothSpec : ChangeSpec := { name := "fnFitsBoth", fn := fun _ => fun
  | [d] => { results := [.lit (.bool true)], args := [d] }
  | _ => none }
def fnFitsBothRow : OpenClaim := { program := "ytidkejmphhpjlaa", sum := "34854a3ac4b070e44577a4335bfd86c4709f00c8340dcd7496c09be2dc6b8d1f", func := "loop.example/memorymanagers/laws.FnFitsBoth", spec := "fnFitsBoth", inPlace := ["internal/reflectlite.ValueOf", "internal/reflectlite.Swapper", "(internal/reflectlite.Value).Len"], unfollowed := true, recurses := true, apart := false }
def FnFitsBothSaid : Prop := fnFitsBothRow.holds Try.pinned (OpenSpec.ofChange fnFitsBothSpec)

/-- ITS FALSE NEIGHBOUR: 'it returns false'. Refute it at one input. -/
def fnFitsBothWrong : ChangeSpec := { name := "fnFitsBoth", fn := fun _ => fun
  | [d] => { results := [.lit (.bool false)], args := [d] }
  | _ => none }
def FnFitsBothWrongFalsely : Prop := fnFitsBothRow.holds Try.pinned (OpenSpec.ofChange fnFitsBothWrong)

/-- 'laws.FnExactFreeWords': WHATEVER THE INPUT: true; the input reads as it did. -/
def fnExactFreeWordsSpec : ChangeSpec := { name := "fnExactFreeWords", fn := fun _ => fun
  | [d1, d2] => { results := [.lit (.bool true)], args := [d1, d2] }
  | _ => none }
def fnExactFreeWordsRow : OpenClaim := { program := "ytidkejmphhpjlaa", sum := "34854a3ac4b070e44577a4335bfd86c4709f00c8340dcd7496c09be2dc6b8d1f", func := "loop.example/memorymanagers/laws.FnExactFreeWords", spec := "fnExactFreeWords", apart := false }
def FnExactFreeWordsSaid : Prop := fnExactFreeWordsRow.holds Try.pinned (OpenSpec.ofChange fnExactFreeWordsSpec)

/-- ITS FALSE NEIGHBOUR: 'it returns false'. Refute it at one input. -/
def fnExactFreeWordsWrong : ChangeSpec := { name := "fnExactFreeWords", fn := fun _ => fun
  | [d1, d2] => { results := [.lit (.bool false)], args := [d1, d2] }
  | _ => none }
def FnExactFreeWordsWrongFalsely : Prop := fnExactFreeWordsRow.holds Try.pinned (OpenSpec.ofChange fnExactFreeWordsWrong)

/-- 'laws.FnExactLargestFree': WHATEVER THE INPUT: true; the input reads as it did. -/
def fnExactLargestFreeSpec : ChangeSpec := { name := "fnExactLargestFree", fn := fun _ => fun
  | [d1, d2] => { results := [.lit (.bool true)], args := [d1, d2] }
  | _ => none }
def fnExactLargestFreeRow : OpenClaim := { program := "ytidkejmphhpjlaa", sum := "34854a3ac4b070e44577a4335bfd86c4709f00c8340dcd7496c09be2dc6b8d1f", func := "loop.example/memorymanagers/laws.FnExactLargestFree", spec := "fnExactLargestFree", apart := false }
def FnExactLargestFreeSaid : Prop := fnExactLargestFreeRow.holds Try.pinned (OpenSpec.ofChange fnExactLargestFreeSpec)

/-- ITS FALSE NEIGHBOUR: 'it returns false'. Refute it at one input. -/
def fnExactLargestFreeWrong : ChangeSpec := { name := "fnExactLargestFree", fn := fun _ => fun
  | [d1, d2] => { results := [.lit (.bool false)], args := [d1, d2] }
  | _ => none }
def FnExactLargestFreeWrongFalsely : Prop := fnExactLargestFreeRow.holds Try.pinned (OpenSpec.ofChange fnExactLargestFreeWrong)

/-- 'laws.FnExactTakeBlock': WHATEVER THE INPUT: true; the input reads as it did. -/
def fnExactTakeBlockSpec : ChangeSpec := { name := "fnExactTakeBlock", fn := fun _ => fun
  | [d1, d2, d3, d4] => { results := [.lit (.bool true)], args := [d1, d2, d3, d4] }
  | _ => none }
def fnExactTakeBlockRow : OpenClaim := { program := "ytidkejmphhpjlaa", sum := "34854a3ac4b070e44577a4335bfd86c4709f00c8340dcd7496c09be2dc6b8d1f", func := "loop.example/memorymanagers/laws.FnExactTakeBlock", spec := "fnExactTakeBlock", apart := false }
def FnExactTakeBlockSaid : Prop := fnExactTakeBlockRow.holds Try.pinned (OpenSpec.ofChange fnExactTakeBlockSpec)

/-- ITS FALSE NEIGHBOUR: 'it returns false'. Refute it at one input. -/
def fnExactTakeBlockWrong : ChangeSpec := { name := "fnExactTakeBlock", fn := fun _ => fun
  | [d1, d2, d3, d4] => { results := [.lit (.bool false)], args := [d1, d2, d3, d4] }
  | _ => none }
def FnExactTakeBlockWrongFalsely : Prop := fnExactTakeBlockRow.holds Try.pinned (OpenSpec.ofChange fnExactTakeBlockWrong)

/-- 'laws.FnExactFragmented': WHATEVER THE INPUT: true; the input reads as it did. -/
def fnExactFragmentedSpec : ChangeSpec := { name := "fnExactFragmented", fn := fun _ => fun
  | [d1, d2] => { results := [.lit (.bool true)], args := [d1, d2] }
  | _ => none }
def fnExactFragmentedRow : OpenClaim := { program := "ytidkejmphhpjlaa", sum := "34854a3ac4b070e44577a4335bfd86c4709f00c8340dcd7496c09be2dc6b8d1f", func := "loop.example/memorymanagers/laws.FnExactFragmented", spec := "fnExactFragmented", apart := false }
def FnExactFragmentedSaid : Prop := fnExactFragmentedRow.holds Try.pinned (OpenSpec.ofChange fnExactFragmentedSpec)

/-- ITS FALSE NEIGHBOUR: 'it returns false'. Refute it at one input. -/
def fnExactFragmentedWrong : ChangeSpec := { name := "fnExactFragmented", fn := fun _ => fun
  | [d1, d2] => { results := [.lit (.bool false)], args := [d1, d2] }
  | _ => none }
def FnExactFragmentedWrongFalsely : Prop := fnExactFragmentedRow.holds Try.pinned (OpenSpec.ofChange fnExactFragmentedWrong)

/-- 'laws.FnExactSlideBlocks': WHATEVER THE INPUT: true; the input reads as it did. -/
def fnExactSlideBlocksSpec : ChangeSpec := { name := "fnExactSlideBlocks", fn := fun _ => fun
  | [d1, d2] => { results := [.lit (.bool true)], args := [d1, d2] }
  | _ => none }
def fnExactSlideBlocksRow : OpenClaim := { program := "ytidkejmphhpjlaa", sum := "34854a3ac4b070e44577a4335bfd86c4709f00c8340dcd7496c09be2dc6b8d1f", func := "loop.example/memorymanagers/laws.FnExactSlideBlocks", spec := "fnExactSlideBlocks", apart := false }
def FnExactSlideBlocksSaid : Prop := fnExactSlideBlocksRow.holds Try.pinned (OpenSpec.ofChange fnExactSlideBlocksSpec)

/-- ITS FALSE NEIGHBOUR: 'it returns false'. Refute it at one input. -/
def fnExactSlideBlocksWrong : ChangeSpec := { name := "fnExactSlideBlocks", fn := fun _ => fun
  | [d1, d2] => { results := [.lit (.bool false)], args := [d1, d2] }
  | _ => none }
def FnExactSlideBlocksWrongFalsely : Prop := fnExactSlideBlocksRow.holds Try.pinned (OpenSpec.ofChange fnExactSlideBlocksWrong)

/-- 'laws.FnExactGiveBlock': WHATEVER THE INPUT: true; the input reads as it did. -/
def fnExactGiveBlockSpec : ChangeSpec := { name := "fnExactGiveBlock", fn := fun _ => fun
  | [d1, d2, d3] => { results := [.lit (.bool true)], args := [d1, d2, d3] }
  | _ => none }
def fnExactGiveBlockRow : OpenClaim := { program := "ytidkejmphhpjlaa", sum := "34854a3ac4b070e44577a4335bfd86c4709f00c8340dcd7496c09be2dc6b8d1f", func := "loop.example/memorymanagers/laws.FnExactGiveBlock", spec := "fnExactGiveBlock", apart := false }
def FnExactGiveBlockSaid : Prop := fnExactGiveBlockRow.holds Try.pinned (OpenSpec.ofChange fnExactGiveBlockSpec)

/-- ITS FALSE NEIGHBOUR: 'it returns false'. Refute it at one input. -/
def fnExactGiveBlockWrong : ChangeSpec := { name := "fnExactGiveBlock", fn := fun _ => fun
  | [d1, d2, d3] => { results := [.lit (.bool false)], args := [d1, d2, d3] }
  | _ => none }
def FnExactGiveBlockWrongFalsely : Prop := fnExactGiveBlockRow.holds Try.pinned (OpenSpec.ofChange fnExactGiveBlockWrong)

/- THE SECOND FORM. 'bulk': how many values and letters a reading holds, each counted each time it is reached (what is shared counts as often as it is met; a slice's spare places count too). A statement '..UptoSaid' is the law's where the arguments, and the package variables that the reading takes, are together of bulk at most 1048576: NARROWER than '..Said'. Prove '..Said' where nothing that the law and all that it calls make is longer than what came in: it says more and counts as full. Else prove '..UptoSaid'. A law counts once. -/
mutual
def uptoBulk {H : Type} : DataW H → Nat
  | .lit (.string bytes) => bytes.length + 1
  | .lit _ => 1
  | .nil => 1
  | .ptr d => uptoBulk d + 1
  | .slice elems spare => uptoBulkAll elems + uptoBulkAll spare + 1
  | .agg parts => uptoBulkAll parts + 1
  | .iface _ d => uptoBulk d + 1
  | .map entries => uptoBulkEntries entries + 1
  | .held _ => 1
def uptoBulkAll {H : Type} : List (DataW H) → Nat
  | [] => 0
  | d :: r => uptoBulk d + uptoBulkAll r
def uptoBulkEntries {H : Type} : List (Lit × DataW H) → Nat
  | [] => 0
  | x :: r => uptoBulkEntry x + uptoBulkEntries r
def uptoBulkEntry {H : Type} : Lit × DataW H → Nat
  | (.string bytes, d) => bytes.length + uptoBulk d + 1
  | (_, d) => uptoBulk d + 1
 end
def uptoSmall : (H : Type) → List (DataW H) → Bool := fun _ ds => decide (uptoBulkAll ds ≤ 1048576)
def OpenSpec.upto (s : _root_.Go.ChangeSpec) : _root_.Go.OpenSpec := { _root_.Go.OpenSpec.ofChange s with cond := some uptoSmall }

/-- 'laws.FnExactBestFit', WHERE WHAT IT READS IS OF BULK AT MOST 1048576: true; the input reads as it did. -/
def fnExactBestFitUptoRow : OpenClaim := { program := "ytidkejmphhpjlaa", sum := "34854a3ac4b070e44577a4335bfd86c4709f00c8340dcd7496c09be2dc6b8d1f", func := "loop.example/memorymanagers/laws.FnExactBestFit", spec := "fnExactBestFit", inPlace := ["internal/reflectlite.ValueOf", "internal/reflectlite.Swapper", "(internal/reflectlite.Value).Len"], unfollowed := true, recurses := true, apart := false, narrowed := true }
def FnExactBestFitUptoSaid : Prop := fnExactBestFitUptoRow.holds Try.pinned (OpenSpec.upto fnExactBestFitSpec)

/-- 'laws.FnExactNewBlocks', WHERE WHAT IT READS IS OF BULK AT MOST 1048576: true; the input reads as it did. -/
def fnExactNewBlocksUptoRow : OpenClaim := { program := "ytidkejmphhpjlaa", sum := "34854a3ac4b070e44577a4335bfd86c4709f00c8340dcd7496c09be2dc6b8d1f", func := "loop.example/memorymanagers/laws.FnExactNewBlocks", spec := "fnExactNewBlocks", apart := false, narrowed := true }
def FnExactNewBlocksUptoSaid : Prop := fnExactNewBlocksUptoRow.holds Try.pinned (OpenSpec.upto fnExactNewBlocksSpec)

/-- 'laws.FnExactBlocksValid', WHERE WHAT IT READS IS OF BULK AT MOST 1048576: true; the input reads as it did. -/
def fnExactBlocksValidUptoRow : OpenClaim := { program := "ytidkejmphhpjlaa", sum := "34854a3ac4b070e44577a4335bfd86c4709f00c8340dcd7496c09be2dc6b8d1f", func := "loop.example/memorymanagers/laws.FnExactBlocksValid", spec := "fnExactBlocksValid", apart := false, narrowed := true }
def FnExactBlocksValidUptoSaid : Prop := fnExactBlocksValidUptoRow.holds Try.pinned (OpenSpec.upto fnExactBlocksValidSpec)

/-- 'laws.FnBestFit', WHERE WHAT IT READS IS OF BULK AT MOST 1048576: true; the input reads as it did. -/
def fnBestFitUptoRow : OpenClaim := { program := "ytidkejmphhpjlaa", sum := "34854a3ac4b070e44577a4335bfd86c4709f00c8340dcd7496c09be2dc6b8d1f", func := "loop.example/memorymanagers/laws.FnBestFit", spec := "fnBestFit", inPlace := ["internal/reflectlite.ValueOf", "internal/reflectlite.Swapper", "(internal/reflectlite.Value).Len"], unfollowed := true, recurses := true, apart := false, narrowed := true }
def FnBestFitUptoSaid : Prop := fnBestFitUptoRow.holds Try.pinned (OpenSpec.upto fnBestFitSpec)

/-- 'laws.FnExactFirstFit', WHERE WHAT IT READS IS OF BULK AT MOST 1048576: true; the input reads as it did. -/
def fnExactFirstFitUptoRow : OpenClaim := { program := "ytidkejmphhpjlaa", sum := "34854a3ac4b070e44577a4335bfd86c4709f00c8340dcd7496c09be2dc6b8d1f", func := "loop.example/memorymanagers/laws.FnExactFirstFit", spec := "fnExactFirstFit", apart := false, narrowed := true }
def FnExactFirstFitUptoSaid : Prop := fnExactFirstFitUptoRow.holds Try.pinned (OpenSpec.upto fnExactFirstFitSpec)

/-- 'laws.FnFitsBoth', WHERE WHAT IT READS IS OF BULK AT MOST 1048576: true; the input reads as it did. -/
def fnFitsBothUptoRow : OpenClaim := { program := "ytidkejmphhpjlaa", sum := "34854a3ac4b070e44577a4335bfd86c4709f00c8340dcd7496c09be2dc6b8d1f", func := "loop.example/memorymanagers/laws.FnFitsBoth", spec := "fnFitsBoth", inPlace := ["internal/reflectlite.ValueOf", "internal/reflectlite.Swapper", "(internal/reflectlite.Value).Len"], unfollowed := true, recurses := true, apart := false, narrowed := true }
def FnFitsBothUptoSaid : Prop := fnFitsBothUptoRow.holds Try.pinned (OpenSpec.upto fnFitsBothSpec)

/-- 'laws.FnExactFreeWords', WHERE WHAT IT READS IS OF BULK AT MOST 1048576: true; the input reads as it did. -/
def fnExactFreeWordsUptoRow : OpenClaim := { program := "ytidkejmphhpjlaa", sum := "34854a3ac4b070e44577a4335bfd86c4709f00c8340dcd7496c09be2dc6b8d1f", func := "loop.example/memorymanagers/laws.FnExactFreeWords", spec := "fnExactFreeWords", apart := false, narrowed := true }
def FnExactFreeWordsUptoSaid : Prop := fnExactFreeWordsUptoRow.holds Try.pinned (OpenSpec.upto fnExactFreeWordsSpec)

/-- 'laws.FnExactLargestFree', WHERE WHAT IT READS IS OF BULK AT MOST 1048576: true; the input reads as it did. -/
def fnExactLargestFreeUptoRow : OpenClaim := { program := "ytidkejmphhpjlaa", sum := "34854a3ac4b070e44577a4335bfd86c4709f00c8340dcd7496c09be2dc6b8d1f", func := "loop.example/memorymanagers/laws.FnExactLargestFree", spec := "fnExactLargestFree", apart := false, narrowed := true }
def FnExactLargestFreeUptoSaid : Prop := fnExactLargestFreeUptoRow.holds Try.pinned (OpenSpec.upto fnExactLargestFreeSpec)

/-- 'laws.FnExactTakeBlock', WHERE WHAT IT READS IS OF BULK AT MOST 1048576: true; the input reads as it did. -/
def fnExactTakeBlockUptoRow : OpenClaim := { program := "ytidkejmphhpjlaa", sum := "34854a3ac4b070e44577a4335bfd86c4709f00c8340dcd7496c09be2dc6b8d1f", func := "loop.example/memorymanagers/laws.FnExactTakeBlock", spec := "fnExactTakeBlock", apart := false, narrowed := true }
def FnExactTakeBlockUptoSaid : Prop := fnExactTakeBlockUptoRow.holds Try.pinned (OpenSpec.upto fnExactTakeBlockSpec)

/-- 'laws.FnExactFragmented', WHERE WHAT IT READS IS OF BULK AT MOST 1048576: true; the input reads as it did. -/
def fnExactFragmentedUptoRow : OpenClaim := { program := "ytidkejmphhpjlaa", sum := "34854a3ac4b070e44577a4335bfd86c4709f00c8340dcd7496c09be2dc6b8d1f", func := "loop.example/memorymanagers/laws.FnExactFragmented", spec := "fnExactFragmented", apart := false, narrowed := true }
def FnExactFragmentedUptoSaid : Prop := fnExactFragmentedUptoRow.holds Try.pinned (OpenSpec.upto fnExactFragmentedSpec)

/-- 'laws.FnExactSlideBlocks', WHERE WHAT IT READS IS OF BULK AT MOST 1048576: true; the input reads as it did. -/
def fnExactSlideBlocksUptoRow : OpenClaim := { program := "ytidkejmphhpjlaa", sum := "34854a3ac4b070e44577a4335bfd86c4709f00c8340dcd7496c09be2dc6b8d1f", func := "loop.example/memorymanagers/laws.FnExactSlideBlocks", spec := "fnExactSlideBlocks", apart := false, narrowed := true }
def FnExactSlideBlocksUptoSaid : Prop := fnExactSlideBlocksUptoRow.holds Try.pinned (OpenSpec.upto fnExactSlideBlocksSpec)

/-- 'laws.FnExactGiveBlock', WHERE WHAT IT READS IS OF BULK AT MOST 1048576: true; the input reads as it did. -/
def fnExactGiveBlockUptoRow : OpenClaim := { program := "ytidkejmphhpjlaa", sum := "34854a3ac4b070e44577a4335bfd86c4709f00c8340dcd7496c09be2dc6b8d1f", func := "loop.example/memorymanagers/laws.FnExactGiveBlock", spec := "fnExactGiveBlock", apart := false, narrowed := true }
def FnExactGiveBlockUptoSaid : Prop := fnExactGiveBlockUptoRow.holds Try.pinned (OpenSpec.upto fnExactGiveBlockSpec)

end Rows
end Go.Proofs.Ytidkejmphhpjlaa
