/-
  No cell of these rows narrows 'for every input' (looked for: loops, veiled, ifaces, maps, wideKeys, modest, calm, conditions, laid).
  DERIVED. THE GIVEN ROWS OF THIS SEAT. 27 by the template 'for every input the law returns true; each argument reads behind the call as it read before'; 0 by the template 'total and deterministic' (their statements: YtofolkiikmnbhaaTotals.lean).
  GIVEN WITH THE SEED: the statements are not yours to turn. If you find one false, say at which input.
  Laid BY PROGRAM, IN A SANDBOX (cutbox-rows.mjs): the forced cells as the released guide's own fill.sh prints them over the translation 659efcfc6edec634… (all of the seat's roots in one cut). By AI agents, Wed Nov 11 2026. No macro, syntax, notation, axiom, sorry.
-/
import Derived.Test.YtofolkiikmnbhaaChecked
import GoSem.Claim
import GoSem.ClaimJoined
import GoSem.ClaimMapViews
import Derived.JoinedTies
import Derived.KernelRfl
namespace Go.Proofs.Ytofolkiikmnbhaa
/- THE CELL 'sum', in the pinned program and in every row, IS THE sha256 OF THE DUMP (.gsa) THAT YtofolkiikmnbhaaProg.lean LOADS. Nothing in Lean hashes anything: it is a label: what it is worth is what the hold of that sum in a sandbox is worth. -/
noncomputable def Try.pinned : Pinned := { name := "ytofolkiikmnbhaa", sum := "659efcfc6edec634659c697bb431bc2a14ef2ae424949fd8b5cf4cdfebe84298", checked := Try.checked }
namespace Rows
def none {H : Type} : Left H := { results := [], args := [] }

/-- 'laws.FnExactBestFit': WHATEVER THE INPUT: true; the input reads as it did. -/
def fnExactBestFitSpec : ChangeSpec := { name := "fnExactBestFit", fn := fun _ => fun
  | [d1, d2, d3] => { results := [.lit (.bool true)], args := [d1, d2, d3] }
  | _ => none }
def fnExactBestFitRow : OpenClaim := { program := "ytofolkiikmnbhaa", sum := "659efcfc6edec634659c697bb431bc2a14ef2ae424949fd8b5cf4cdfebe84298", func := "loop.example/memorymanagers/laws.FnExactBestFit", spec := "fnExactBestFit", inPlace := ["internal/reflectlite.ValueOf", "internal/reflectlite.Swapper", "(internal/reflectlite.Value).Len"], unfollowed := true, recurses := true, apart := false }
def FnExactBestFitSaid : Prop := fnExactBestFitRow.holds Try.pinned (OpenSpec.ofChange fnExactBestFitSpec)

/-- ITS FALSE NEIGHBOUR: 'it returns false'. Refute it at one input. -/
def fnExactBestFitWrong : ChangeSpec := { name := "fnExactBestFit", fn := fun _ => fun
  | [d1, d2, d3] => { results := [.lit (.bool false)], args := [d1, d2, d3] }
  | _ => none }
def FnExactBestFitWrongFalsely : Prop := fnExactBestFitRow.holds Try.pinned (OpenSpec.ofChange fnExactBestFitWrong)

/-- 'laws.FnExactNewBlocks': WHATEVER THE INPUT: true; the input reads as it did. -/
def fnExactNewBlocksSpec : ChangeSpec := { name := "fnExactNewBlocks", fn := fun _ => fun
  | [d] => { results := [.lit (.bool true)], args := [d] }
  | _ => none }
def fnExactNewBlocksRow : OpenClaim := { program := "ytofolkiikmnbhaa", sum := "659efcfc6edec634659c697bb431bc2a14ef2ae424949fd8b5cf4cdfebe84298", func := "loop.example/memorymanagers/laws.FnExactNewBlocks", spec := "fnExactNewBlocks", apart := false }
def FnExactNewBlocksSaid : Prop := fnExactNewBlocksRow.holds Try.pinned (OpenSpec.ofChange fnExactNewBlocksSpec)

/-- ITS FALSE NEIGHBOUR: 'it returns false'. Refute it at one input. -/
def fnExactNewBlocksWrong : ChangeSpec := { name := "fnExactNewBlocks", fn := fun _ => fun
  | [d] => { results := [.lit (.bool false)], args := [d] }
  | _ => none }
def FnExactNewBlocksWrongFalsely : Prop := fnExactNewBlocksRow.holds Try.pinned (OpenSpec.ofChange fnExactNewBlocksWrong)

/-- 'laws.FnExactBlocksValid': WHATEVER THE INPUT: true; the input reads as it did. -/
def fnExactBlocksValidSpec : ChangeSpec := { name := "fnExactBlocksValid", fn := fun _ => fun
  | [d1, d2] => { results := [.lit (.bool true)], args := [d1, d2] }
  | _ => none }
def fnExactBlocksValidRow : OpenClaim := { program := "ytofolkiikmnbhaa", sum := "659efcfc6edec634659c697bb431bc2a14ef2ae424949fd8b5cf4cdfebe84298", func := "loop.example/memorymanagers/laws.FnExactBlocksValid", spec := "fnExactBlocksValid", apart := false }
def FnExactBlocksValidSaid : Prop := fnExactBlocksValidRow.holds Try.pinned (OpenSpec.ofChange fnExactBlocksValidSpec)

/-- ITS FALSE NEIGHBOUR: 'it returns false'. Refute it at one input. -/
def fnExactBlocksValidWrong : ChangeSpec := { name := "fnExactBlocksValid", fn := fun _ => fun
  | [d1, d2] => { results := [.lit (.bool false)], args := [d1, d2] }
  | _ => none }
def FnExactBlocksValidWrongFalsely : Prop := fnExactBlocksValidRow.holds Try.pinned (OpenSpec.ofChange fnExactBlocksValidWrong)

/-- 'laws.FnBestFit': WHATEVER THE INPUT: true; the input reads as it did. -/
def fnBestFitSpec : ChangeSpec := { name := "fnBestFit", fn := fun _ => fun
  | [d] => { results := [.lit (.bool true)], args := [d] }
  | _ => none }
def fnBestFitRow : OpenClaim := { program := "ytofolkiikmnbhaa", sum := "659efcfc6edec634659c697bb431bc2a14ef2ae424949fd8b5cf4cdfebe84298", func := "loop.example/memorymanagers/laws.FnBestFit", spec := "fnBestFit", inPlace := ["internal/reflectlite.ValueOf", "internal/reflectlite.Swapper", "(internal/reflectlite.Value).Len"], unfollowed := true, recurses := true, apart := false }
def FnBestFitSaid : Prop := fnBestFitRow.holds Try.pinned (OpenSpec.ofChange fnBestFitSpec)

/-- ITS FALSE NEIGHBOUR: 'it returns false'. Refute it at one input. -/
def fnBestFitWrong : ChangeSpec := { name := "fnBestFit", fn := fun _ => fun
  | [d] => { results := [.lit (.bool false)], args := [d] }
  | _ => none }
def FnBestFitWrongFalsely : Prop := fnBestFitRow.holds Try.pinned (OpenSpec.ofChange fnBestFitWrong)

/-- 'laws.FnNewBlocks': WHATEVER THE INPUT: true; the input reads as it did. -/
def fnNewBlocksSpec : ChangeSpec := { name := "fnNewBlocks", fn := fun _ => fun
  | [d] => { results := [.lit (.bool true)], args := [d] }
  | _ => none }
def fnNewBlocksRow : OpenClaim := { program := "ytofolkiikmnbhaa", sum := "659efcfc6edec634659c697bb431bc2a14ef2ae424949fd8b5cf4cdfebe84298", func := "loop.example/memorymanagers/laws.FnNewBlocks", spec := "fnNewBlocks", apart := false }
def FnNewBlocksSaid : Prop := fnNewBlocksRow.holds Try.pinned (OpenSpec.ofChange fnNewBlocksSpec)

/-- ITS FALSE NEIGHBOUR: 'it returns false'. Refute it at one input. -/
def fnNewBlocksWrong : ChangeSpec := { name := "fnNewBlocks", fn := fun _ => fun
  | [d] => { results := [.lit (.bool false)], args := [d] }
  | _ => none }
def FnNewBlocksWrongFalsely : Prop := fnNewBlocksRow.holds Try.pinned (OpenSpec.ofChange fnNewBlocksWrong)

/-- 'laws.FnExactFirstFit': WHATEVER THE INPUT: true; the input reads as it did. -/
def fnExactFirstFitSpec : ChangeSpec := { name := "fnExactFirstFit", fn := fun _ => fun
  | [d1, d2, d3] => { results := [.lit (.bool true)], args := [d1, d2, d3] }
  | _ => none }
def fnExactFirstFitRow : OpenClaim := { program := "ytofolkiikmnbhaa", sum := "659efcfc6edec634659c697bb431bc2a14ef2ae424949fd8b5cf4cdfebe84298", func := "loop.example/memorymanagers/laws.FnExactFirstFit", spec := "fnExactFirstFit", apart := false }
def FnExactFirstFitSaid : Prop := fnExactFirstFitRow.holds Try.pinned (OpenSpec.ofChange fnExactFirstFitSpec)

/-- ITS FALSE NEIGHBOUR: 'it returns false'. Refute it at one input. -/
def fnExactFirstFitWrong : ChangeSpec := { name := "fnExactFirstFit", fn := fun _ => fun
  | [d1, d2, d3] => { results := [.lit (.bool false)], args := [d1, d2, d3] }
  | _ => none }
def FnExactFirstFitWrongFalsely : Prop := fnExactFirstFitRow.holds Try.pinned (OpenSpec.ofChange fnExactFirstFitWrong)

/-- 'laws.FnFitsBoth': WHATEVER THE INPUT: true; the input reads as it did. -/
def fnFitsBothSpec : ChangeSpec := { name := "fnFitsBoth", fn := fun _ => fun
  | [d] => { results := [.lit (.bool true)], args := [d] }
  | _ => none }
def fnFitsBothRow : OpenClaim := { program := "ytofolkiikmnbhaa", sum := "659efcfc6edec634659c697bb431bc2a14ef2ae424949fd8b5cf4cdfebe84298", func := "loop.example/memorymanagers/laws.FnFitsBoth", spec := "fnFitsBoth", inPlace := ["internal/reflectlite.ValueOf", "internal/reflectlite.Swapper", "(internal/reflectlite.Value).Len"], unfollowed := true, recurses := true, apart := false }
def FnFitsBothSaid : Prop := fnFitsBothRow.holds Try.pinned (OpenSpec.ofChange fnFitsBothSpec)

/-- ITS FALSE NEIGHBOUR: 'it returns false'. Refute it at one input. -/
def fnFitsBothWrong : ChangeSpec := { name := "fnFitsBoth", fn := fun _ => fun
  | [d] => { results := [.lit (.bool false)], args := [d] }
  | _ => none }
def FnFitsBothWrongFalsely : Prop := fnFitsBothRow.holds Try.pinned (OpenSpec.ofChange fnFitsBothWrong)

/-- 'laws.FnExactFreeWords': WHATEVER THE INPUT: true; the input reads as it did. -/
def fnExactFreeWordsSpec : ChangeSpec := { name := "fnExactFreeWords", fn := fun _ => fun
  | [d1, d2] => { results := [.lit (.bool true)], args := [d1, d2] }
  | _ => none }
def fnExactFreeWordsRow : OpenClaim := { program := "ytofolkiikmnbhaa", sum := "659efcfc6edec634659c697bb431bc2a14ef2ae424949fd8b5cf4cdfebe84298", func := "loop.example/memorymanagers/laws.FnExactFreeWords", spec := "fnExactFreeWords", apart := false }
def FnExactFreeWordsSaid : Prop := fnExactFreeWordsRow.holds Try.pinned (OpenSpec.ofChange fnExactFreeWordsSpec)

/-- ITS FALSE NEIGHBOUR: 'it returns false'. Refute it at one input. -/
def fnExactFreeWordsWrong : ChangeSpec := { name := "fnExactFreeWords", fn := fun _ => fun
  | [d1, d2] => { results := [.lit (.bool false)], args := [d1, d2] }
  | _ => none }
def FnExactFreeWordsWrongFalsely : Prop := fnExactFreeWordsRow.holds Try.pinned (OpenSpec.ofChange fnExactFreeWordsWrong)

/-- 'laws.FnExactLargestFree': WHATEVER THE INPUT: true; the input reads as it did. -/
def fnExactLargestFreeSpec : ChangeSpec := { name := "fnExactLargestFree", fn := fun _ => fun
  | [d1, d2] => { results := [.lit (.bool true)], args := [d1, d2] }
  | _ => none }
def fnExactLargestFreeRow : OpenClaim := { program := "ytofolkiikmnbhaa", sum := "659efcfc6edec634659c697bb431bc2a14ef2ae424949fd8b5cf4cdfebe84298", func := "loop.example/memorymanagers/laws.FnExactLargestFree", spec := "fnExactLargestFree", apart := false }
def FnExactLargestFreeSaid : Prop := fnExactLargestFreeRow.holds Try.pinned (OpenSpec.ofChange fnExactLargestFreeSpec)

/-- ITS FALSE NEIGHBOUR: 'it returns false'. Refute it at one input. -/
def fnExactLargestFreeWrong : ChangeSpec := { name := "fnExactLargestFree", fn := fun _ => fun
  | [d1, d2] => { results := [.lit (.bool false)], args := [d1, d2] }
  | _ => none }
def FnExactLargestFreeWrongFalsely : Prop := fnExactLargestFreeRow.holds Try.pinned (OpenSpec.ofChange fnExactLargestFreeWrong)

/-- 'laws.FnExactBlockAt': WHATEVER THE INPUT: true; the input reads as it did. -/
def fnExactBlockAtSpec : ChangeSpec := { name := "fnExactBlockAt", fn := fun _ => fun
  | [d1, d2, d3] => { results := [.lit (.bool true)], args := [d1, d2, d3] }
  | _ => none }
def fnExactBlockAtRow : OpenClaim := { program := "ytofolkiikmnbhaa", sum := "659efcfc6edec634659c697bb431bc2a14ef2ae424949fd8b5cf4cdfebe84298", func := "loop.example/memorymanagers/laws.FnExactBlockAt", spec := "fnExactBlockAt", unfollowed := true, recurses := true, apart := false }
def FnExactBlockAtSaid : Prop := fnExactBlockAtRow.holds Try.pinned (OpenSpec.ofChange fnExactBlockAtSpec)

/-- ITS FALSE NEIGHBOUR: 'it returns false'. Refute it at one input. -/
def fnExactBlockAtWrong : ChangeSpec := { name := "fnExactBlockAt", fn := fun _ => fun
  | [d1, d2, d3] => { results := [.lit (.bool false)], args := [d1, d2, d3] }
  | _ => none }
def FnExactBlockAtWrongFalsely : Prop := fnExactBlockAtRow.holds Try.pinned (OpenSpec.ofChange fnExactBlockAtWrong)

/-- 'laws.FnExactTakeBlock': WHATEVER THE INPUT: true; the input reads as it did. -/
def fnExactTakeBlockSpec : ChangeSpec := { name := "fnExactTakeBlock", fn := fun _ => fun
  | [d1, d2, d3, d4] => { results := [.lit (.bool true)], args := [d1, d2, d3, d4] }
  | _ => none }
def fnExactTakeBlockRow : OpenClaim := { program := "ytofolkiikmnbhaa", sum := "659efcfc6edec634659c697bb431bc2a14ef2ae424949fd8b5cf4cdfebe84298", func := "loop.example/memorymanagers/laws.FnExactTakeBlock", spec := "fnExactTakeBlock", apart := false }
def FnExactTakeBlockSaid : Prop := fnExactTakeBlockRow.holds Try.pinned (OpenSpec.ofChange fnExactTakeBlockSpec)

/-- ITS FALSE NEIGHBOUR: 'it returns false'. Refute it at one input. -/
def fnExactTakeBlockWrong : ChangeSpec := { name := "fnExactTakeBlock", fn := fun _ => fun
  | [d1, d2, d3, d4] => { results := [.lit (.bool false)], args := [d1, d2, d3, d4] }
  | _ => none }
def FnExactTakeBlockWrongFalsely : Prop := fnExactTakeBlockRow.holds Try.pinned (OpenSpec.ofChange fnExactTakeBlockWrong)

/-- 'laws.FnExactFragmented': WHATEVER THE INPUT: true; the input reads as it did. -/
def fnExactFragmentedSpec : ChangeSpec := { name := "fnExactFragmented", fn := fun _ => fun
  | [d1, d2] => { results := [.lit (.bool true)], args := [d1, d2] }
  | _ => none }
def fnExactFragmentedRow : OpenClaim := { program := "ytofolkiikmnbhaa", sum := "659efcfc6edec634659c697bb431bc2a14ef2ae424949fd8b5cf4cdfebe84298", func := "loop.example/memorymanagers/laws.FnExactFragmented", spec := "fnExactFragmented", apart := false }
def FnExactFragmentedSaid : Prop := fnExactFragmentedRow.holds Try.pinned (OpenSpec.ofChange fnExactFragmentedSpec)

/-- ITS FALSE NEIGHBOUR: 'it returns false'. Refute it at one input. -/
def fnExactFragmentedWrong : ChangeSpec := { name := "fnExactFragmented", fn := fun _ => fun
  | [d1, d2] => { results := [.lit (.bool false)], args := [d1, d2] }
  | _ => none }
def FnExactFragmentedWrongFalsely : Prop := fnExactFragmentedRow.holds Try.pinned (OpenSpec.ofChange fnExactFragmentedWrong)

/-- 'laws.FnBlocksValid': WHATEVER THE INPUT: true; the input reads as it did. -/
def fnBlocksValidSpec : ChangeSpec := { name := "fnBlocksValid", fn := fun _ => fun
  | [d] => { results := [.lit (.bool true)], args := [d] }
  | _ => none }
def fnBlocksValidRow : OpenClaim := { program := "ytofolkiikmnbhaa", sum := "659efcfc6edec634659c697bb431bc2a14ef2ae424949fd8b5cf4cdfebe84298", func := "loop.example/memorymanagers/laws.FnBlocksValid", spec := "fnBlocksValid", apart := false }
def FnBlocksValidSaid : Prop := fnBlocksValidRow.holds Try.pinned (OpenSpec.ofChange fnBlocksValidSpec)

/-- ITS FALSE NEIGHBOUR: 'it returns false'. Refute it at one input. -/
def fnBlocksValidWrong : ChangeSpec := { name := "fnBlocksValid", fn := fun _ => fun
  | [d] => { results := [.lit (.bool false)], args := [d] }
  | _ => none }
def FnBlocksValidWrongFalsely : Prop := fnBlocksValidRow.holds Try.pinned (OpenSpec.ofChange fnBlocksValidWrong)

/-- 'laws.FnExactSlideBlocks': WHATEVER THE INPUT: true; the input reads as it did. -/
def fnExactSlideBlocksSpec : ChangeSpec := { name := "fnExactSlideBlocks", fn := fun _ => fun
  | [d1, d2] => { results := [.lit (.bool true)], args := [d1, d2] }
  | _ => none }
def fnExactSlideBlocksRow : OpenClaim := { program := "ytofolkiikmnbhaa", sum := "659efcfc6edec634659c697bb431bc2a14ef2ae424949fd8b5cf4cdfebe84298", func := "loop.example/memorymanagers/laws.FnExactSlideBlocks", spec := "fnExactSlideBlocks", apart := false }
def FnExactSlideBlocksSaid : Prop := fnExactSlideBlocksRow.holds Try.pinned (OpenSpec.ofChange fnExactSlideBlocksSpec)

/-- ITS FALSE NEIGHBOUR: 'it returns false'. Refute it at one input. -/
def fnExactSlideBlocksWrong : ChangeSpec := { name := "fnExactSlideBlocks", fn := fun _ => fun
  | [d1, d2] => { results := [.lit (.bool false)], args := [d1, d2] }
  | _ => none }
def FnExactSlideBlocksWrongFalsely : Prop := fnExactSlideBlocksRow.holds Try.pinned (OpenSpec.ofChange fnExactSlideBlocksWrong)

/-- 'laws.FnExactGiveBlock': WHATEVER THE INPUT: true; the input reads as it did. -/
def fnExactGiveBlockSpec : ChangeSpec := { name := "fnExactGiveBlock", fn := fun _ => fun
  | [d1, d2, d3] => { results := [.lit (.bool true)], args := [d1, d2, d3] }
  | _ => none }
def fnExactGiveBlockRow : OpenClaim := { program := "ytofolkiikmnbhaa", sum := "659efcfc6edec634659c697bb431bc2a14ef2ae424949fd8b5cf4cdfebe84298", func := "loop.example/memorymanagers/laws.FnExactGiveBlock", spec := "fnExactGiveBlock", apart := false }
def FnExactGiveBlockSaid : Prop := fnExactGiveBlockRow.holds Try.pinned (OpenSpec.ofChange fnExactGiveBlockSpec)

/-- ITS FALSE NEIGHBOUR: 'it returns false'. Refute it at one input. -/
def fnExactGiveBlockWrong : ChangeSpec := { name := "fnExactGiveBlock", fn := fun _ => fun
  | [d1, d2, d3] => { results := [.lit (.bool false)], args := [d1, d2, d3] }
  | _ => none }
def FnExactGiveBlockWrongFalsely : Prop := fnExactGiveBlockRow.holds Try.pinned (OpenSpec.ofChange fnExactGiveBlockWrong)

/-- 'laws.FnFirstFit': WHATEVER THE INPUT: true; the input reads as it did. -/
def fnFirstFitSpec : ChangeSpec := { name := "fnFirstFit", fn := fun _ => fun
  | [d] => { results := [.lit (.bool true)], args := [d] }
  | _ => none }
def fnFirstFitRow : OpenClaim := { program := "ytofolkiikmnbhaa", sum := "659efcfc6edec634659c697bb431bc2a14ef2ae424949fd8b5cf4cdfebe84298", func := "loop.example/memorymanagers/laws.FnFirstFit", spec := "fnFirstFit", apart := false }
def FnFirstFitSaid : Prop := fnFirstFitRow.holds Try.pinned (OpenSpec.ofChange fnFirstFitSpec)

/-- ITS FALSE NEIGHBOUR: 'it returns false'. Refute it at one input. -/
def fnFirstFitWrong : ChangeSpec := { name := "fnFirstFit", fn := fun _ => fun
  | [d] => { results := [.lit (.bool false)], args := [d] }
  | _ => none }
def FnFirstFitWrongFalsely : Prop := fnFirstFitRow.holds Try.pinned (OpenSpec.ofChange fnFirstFitWrong)

/-- 'laws.FnBlockAt': WHATEVER THE INPUT: true; the input reads as it did. -/
def fnBlockAtSpec : ChangeSpec := { name := "fnBlockAt", fn := fun _ => fun
  | [d] => { results := [.lit (.bool true)], args := [d] }
  | _ => none }
def fnBlockAtRow : OpenClaim := { program := "ytofolkiikmnbhaa", sum := "659efcfc6edec634659c697bb431bc2a14ef2ae424949fd8b5cf4cdfebe84298", func := "loop.example/memorymanagers/laws.FnBlockAt", spec := "fnBlockAt", unfollowed := true, recurses := true, apart := false }
def FnBlockAtSaid : Prop := fnBlockAtRow.holds Try.pinned (OpenSpec.ofChange fnBlockAtSpec)

/-- ITS FALSE NEIGHBOUR: 'it returns false'. Refute it at one input. -/
def fnBlockAtWrong : ChangeSpec := { name := "fnBlockAt", fn := fun _ => fun
  | [d] => { results := [.lit (.bool false)], args := [d] }
  | _ => none }
def FnBlockAtWrongFalsely : Prop := fnBlockAtRow.holds Try.pinned (OpenSpec.ofChange fnBlockAtWrong)

/-- 'laws.FnGiveBlock': WHATEVER THE INPUT: true; the input reads as it did. -/
def fnGiveBlockSpec : ChangeSpec := { name := "fnGiveBlock", fn := fun _ => fun
  | [d] => { results := [.lit (.bool true)], args := [d] }
  | _ => none }
def fnGiveBlockRow : OpenClaim := { program := "ytofolkiikmnbhaa", sum := "659efcfc6edec634659c697bb431bc2a14ef2ae424949fd8b5cf4cdfebe84298", func := "loop.example/memorymanagers/laws.FnGiveBlock", spec := "fnGiveBlock", apart := false }
def FnGiveBlockSaid : Prop := fnGiveBlockRow.holds Try.pinned (OpenSpec.ofChange fnGiveBlockSpec)

/-- ITS FALSE NEIGHBOUR: 'it returns false'. Refute it at one input. -/
def fnGiveBlockWrong : ChangeSpec := { name := "fnGiveBlock", fn := fun _ => fun
  | [d] => { results := [.lit (.bool false)], args := [d] }
  | _ => none }
def FnGiveBlockWrongFalsely : Prop := fnGiveBlockRow.holds Try.pinned (OpenSpec.ofChange fnGiveBlockWrong)

/-- 'laws.FnLargestFree': WHATEVER THE INPUT: true; the input reads as it did. -/
def fnLargestFreeSpec : ChangeSpec := { name := "fnLargestFree", fn := fun _ => fun
  | [d] => { results := [.lit (.bool true)], args := [d] }
  | _ => none }
def fnLargestFreeRow : OpenClaim := { program := "ytofolkiikmnbhaa", sum := "659efcfc6edec634659c697bb431bc2a14ef2ae424949fd8b5cf4cdfebe84298", func := "loop.example/memorymanagers/laws.FnLargestFree", spec := "fnLargestFree", apart := false }
def FnLargestFreeSaid : Prop := fnLargestFreeRow.holds Try.pinned (OpenSpec.ofChange fnLargestFreeSpec)

/-- ITS FALSE NEIGHBOUR: 'it returns false'. Refute it at one input. -/
def fnLargestFreeWrong : ChangeSpec := { name := "fnLargestFree", fn := fun _ => fun
  | [d] => { results := [.lit (.bool false)], args := [d] }
  | _ => none }
def FnLargestFreeWrongFalsely : Prop := fnLargestFreeRow.holds Try.pinned (OpenSpec.ofChange fnLargestFreeWrong)

/-- 'laws.FnFreeWords': WHATEVER THE INPUT: true; the input reads as it did. -/
def fnFreeWordsSpec : ChangeSpec := { name := "fnFreeWords", fn := fun _ => fun
  | [d] => { results := [.lit (.bool true)], args := [d] }
  | _ => none }
def fnFreeWordsRow : OpenClaim := { program := "ytofolkiikmnbhaa", sum := "659efcfc6edec634659c697bb431bc2a14ef2ae424949fd8b5cf4cdfebe84298", func := "loop.example/memorymanagers/laws.FnFreeWords", spec := "fnFreeWords", unfollowed := true, recurses := true, apart := false }
def FnFreeWordsSaid : Prop := fnFreeWordsRow.holds Try.pinned (OpenSpec.ofChange fnFreeWordsSpec)

/-- ITS FALSE NEIGHBOUR: 'it returns false'. Refute it at one input. -/
def fnFreeWordsWrong : ChangeSpec := { name := "fnFreeWords", fn := fun _ => fun
  | [d] => { results := [.lit (.bool false)], args := [d] }
  | _ => none }
def FnFreeWordsWrongFalsely : Prop := fnFreeWordsRow.holds Try.pinned (OpenSpec.ofChange fnFreeWordsWrong)

/-- 'laws.FnBlocksOrder': WHATEVER THE INPUT: true; the input reads as it did. -/
def fnBlocksOrderSpec : ChangeSpec := { name := "fnBlocksOrder", fn := fun _ => fun
  | [d] => { results := [.lit (.bool true)], args := [d] }
  | _ => none }
def fnBlocksOrderRow : OpenClaim := { program := "ytofolkiikmnbhaa", sum := "659efcfc6edec634659c697bb431bc2a14ef2ae424949fd8b5cf4cdfebe84298", func := "loop.example/memorymanagers/laws.FnBlocksOrder", spec := "fnBlocksOrder", unfollowed := true, recurses := true, apart := false }
def FnBlocksOrderSaid : Prop := fnBlocksOrderRow.holds Try.pinned (OpenSpec.ofChange fnBlocksOrderSpec)

/-- ITS FALSE NEIGHBOUR: 'it returns false'. Refute it at one input. -/
def fnBlocksOrderWrong : ChangeSpec := { name := "fnBlocksOrder", fn := fun _ => fun
  | [d] => { results := [.lit (.bool false)], args := [d] }
  | _ => none }
def FnBlocksOrderWrongFalsely : Prop := fnBlocksOrderRow.holds Try.pinned (OpenSpec.ofChange fnBlocksOrderWrong)

/-- 'laws.FnTakeBlock': WHATEVER THE INPUT: true; the input reads as it did. -/
def fnTakeBlockSpec : ChangeSpec := { name := "fnTakeBlock", fn := fun _ => fun
  | [d] => { results := [.lit (.bool true)], args := [d] }
  | _ => none }
def fnTakeBlockRow : OpenClaim := { program := "ytofolkiikmnbhaa", sum := "659efcfc6edec634659c697bb431bc2a14ef2ae424949fd8b5cf4cdfebe84298", func := "loop.example/memorymanagers/laws.FnTakeBlock", spec := "fnTakeBlock", apart := false }
def FnTakeBlockSaid : Prop := fnTakeBlockRow.holds Try.pinned (OpenSpec.ofChange fnTakeBlockSpec)

/-- ITS FALSE NEIGHBOUR: 'it returns false'. Refute it at one input. -/
def fnTakeBlockWrong : ChangeSpec := { name := "fnTakeBlock", fn := fun _ => fun
  | [d] => { results := [.lit (.bool false)], args := [d] }
  | _ => none }
def FnTakeBlockWrongFalsely : Prop := fnTakeBlockRow.holds Try.pinned (OpenSpec.ofChange fnTakeBlockWrong)

/-- 'laws.FnSlideBlocks': WHATEVER THE INPUT: true; the input reads as it did. -/
def fnSlideBlocksSpec : ChangeSpec := { name := "fnSlideBlocks", fn := fun _ => fun
  | [d] => { results := [.lit (.bool true)], args := [d] }
  | _ => none }
def fnSlideBlocksRow : OpenClaim := { program := "ytofolkiikmnbhaa", sum := "659efcfc6edec634659c697bb431bc2a14ef2ae424949fd8b5cf4cdfebe84298", func := "loop.example/memorymanagers/laws.FnSlideBlocks", spec := "fnSlideBlocks", apart := false }
def FnSlideBlocksSaid : Prop := fnSlideBlocksRow.holds Try.pinned (OpenSpec.ofChange fnSlideBlocksSpec)

/-- ITS FALSE NEIGHBOUR: 'it returns false'. Refute it at one input. -/
def fnSlideBlocksWrong : ChangeSpec := { name := "fnSlideBlocks", fn := fun _ => fun
  | [d] => { results := [.lit (.bool false)], args := [d] }
  | _ => none }
def FnSlideBlocksWrongFalsely : Prop := fnSlideBlocksRow.holds Try.pinned (OpenSpec.ofChange fnSlideBlocksWrong)

/-- 'laws.FnSlideFit': WHATEVER THE INPUT: true; the input reads as it did. -/
def fnSlideFitSpec : ChangeSpec := { name := "fnSlideFit", fn := fun _ => fun
  | [d] => { results := [.lit (.bool true)], args := [d] }
  | _ => none }
def fnSlideFitRow : OpenClaim := { program := "ytofolkiikmnbhaa", sum := "659efcfc6edec634659c697bb431bc2a14ef2ae424949fd8b5cf4cdfebe84298", func := "loop.example/memorymanagers/laws.FnSlideFit", spec := "fnSlideFit", apart := false }
def FnSlideFitSaid : Prop := fnSlideFitRow.holds Try.pinned (OpenSpec.ofChange fnSlideFitSpec)

/-- ITS FALSE NEIGHBOUR: 'it returns false'. Refute it at one input. -/
def fnSlideFitWrong : ChangeSpec := { name := "fnSlideFit", fn := fun _ => fun
  | [d] => { results := [.lit (.bool false)], args := [d] }
  | _ => none }
def FnSlideFitWrongFalsely : Prop := fnSlideFitRow.holds Try.pinned (OpenSpec.ofChange fnSlideFitWrong)

/-- 'laws.FnFragmented': WHATEVER THE INPUT: true; the input reads as it did. -/
def fnFragmentedSpec : ChangeSpec := { name := "fnFragmented", fn := fun _ => fun
  | [d] => { results := [.lit (.bool true)], args := [d] }
  | _ => none }
def fnFragmentedRow : OpenClaim := { program := "ytofolkiikmnbhaa", sum := "659efcfc6edec634659c697bb431bc2a14ef2ae424949fd8b5cf4cdfebe84298", func := "loop.example/memorymanagers/laws.FnFragmented", spec := "fnFragmented", apart := false }
def FnFragmentedSaid : Prop := fnFragmentedRow.holds Try.pinned (OpenSpec.ofChange fnFragmentedSpec)

/-- ITS FALSE NEIGHBOUR: 'it returns false'. Refute it at one input. -/
def fnFragmentedWrong : ChangeSpec := { name := "fnFragmented", fn := fun _ => fun
  | [d] => { results := [.lit (.bool false)], args := [d] }
  | _ => none }
def FnFragmentedWrongFalsely : Prop := fnFragmentedRow.holds Try.pinned (OpenSpec.ofChange fnFragmentedWrong)

/-- 'laws.FnExactTakeSliding': WHATEVER THE INPUT: true; the input reads as it did. -/
def fnExactTakeSlidingSpec : ChangeSpec := { name := "fnExactTakeSliding", fn := fun _ => fun
  | [d1, d2, d3] => { results := [.lit (.bool true)], args := [d1, d2, d3] }
  | _ => none }
def fnExactTakeSlidingRow : OpenClaim := { program := "ytofolkiikmnbhaa", sum := "659efcfc6edec634659c697bb431bc2a14ef2ae424949fd8b5cf4cdfebe84298", func := "loop.example/memorymanagers/laws.FnExactTakeSliding", spec := "fnExactTakeSliding", apart := false }
def FnExactTakeSlidingSaid : Prop := fnExactTakeSlidingRow.holds Try.pinned (OpenSpec.ofChange fnExactTakeSlidingSpec)

/-- ITS FALSE NEIGHBOUR: 'it returns false'. Refute it at one input. -/
def fnExactTakeSlidingWrong : ChangeSpec := { name := "fnExactTakeSliding", fn := fun _ => fun
  | [d1, d2, d3] => { results := [.lit (.bool false)], args := [d1, d2, d3] }
  | _ => none }
def FnExactTakeSlidingWrongFalsely : Prop := fnExactTakeSlidingRow.holds Try.pinned (OpenSpec.ofChange fnExactTakeSlidingWrong)

/-- 'laws.FnTakeSliding': WHATEVER THE INPUT: true; the input reads as it did. -/
def fnTakeSlidingSpec : ChangeSpec := { name := "fnTakeSliding", fn := fun _ => fun
  | [d] => { results := [.lit (.bool true)], args := [d] }
  | _ => none }
def fnTakeSlidingRow : OpenClaim := { program := "ytofolkiikmnbhaa", sum := "659efcfc6edec634659c697bb431bc2a14ef2ae424949fd8b5cf4cdfebe84298", func := "loop.example/memorymanagers/laws.FnTakeSliding", spec := "fnTakeSliding", apart := false }
def FnTakeSlidingSaid : Prop := fnTakeSlidingRow.holds Try.pinned (OpenSpec.ofChange fnTakeSlidingSpec)

/-- ITS FALSE NEIGHBOUR: 'it returns false'. Refute it at one input. -/
def fnTakeSlidingWrong : ChangeSpec := { name := "fnTakeSliding", fn := fun _ => fun
  | [d] => { results := [.lit (.bool false)], args := [d] }
  | _ => none }
def FnTakeSlidingWrongFalsely : Prop := fnTakeSlidingRow.holds Try.pinned (OpenSpec.ofChange fnTakeSlidingWrong)

/- THE SECOND FORM. 'bulk': how many values and letters a reading holds, each counted each time it is reached (what is shared counts as often as it is met; a slice's spare places count too). A statement '..UptoSaid' is the law's where the arguments, and the package variables that the reading takes, are together of bulk at most 1048576: NARROWER than '..Said'. Prove '..Said' where nothing that the law and all that it calls make is longer than what came in: it says more and counts as full. Else prove '..UptoSaid'. A law counts once. -/
mutual
def uptoBulk {H : Type} : DataW H → Nat
  | .lit (.string bytes) => bytes.length + 1
  | .lit _ => 1
  | .nil => 1
  | .ptr d => uptoBulk d + 1
  | .slice elems spare => uptoBulkAll elems + uptoBulkAll spare + 1
  | .agg parts => uptoBulkAll parts + 1
  | .iface _ d => uptoBulk d + 1
  | .map entries => uptoBulkEntries entries + 1
  | .held _ => 1
def uptoBulkAll {H : Type} : List (DataW H) → Nat
  | [] => 0
  | d :: r => uptoBulk d + uptoBulkAll r
def uptoBulkEntries {H : Type} : List (Lit × DataW H) → Nat
  | [] => 0
  | x :: r => uptoBulkEntry x + uptoBulkEntries r
def uptoBulkEntry {H : Type} : Lit × DataW H → Nat
  | (.string bytes, d) => bytes.length + uptoBulk d + 1
  | (_, d) => uptoBulk d + 1
 end
def uptoSmall : (H : Type) → List (DataW H) → Bool := fun _ ds => decide (uptoBulkAll ds ≤ 1048576)
def OpenSpec.upto (s : _root_.Go.ChangeSpec) : _root_.Go.OpenSpec := { _root_.Go.OpenSpec.ofChange s with cond := some uptoSmall }

/-- 'laws.FnExactBestFit', WHERE WHAT IT READS IS OF BULK AT MOST 1048576: true; the input reads as it did. -/
def fnExactBestFitUptoRow : OpenClaim := { program := "ytofolkiikmnbhaa", sum := "659efcfc6edec634659c697bb431bc2a14ef2ae424949fd8b5cf4cdfebe84298", func := "loop.example/memorymanagers/laws.FnExactBestFit", spec := "fnExactBestFit", inPlace := ["internal/reflectlite.ValueOf", "internal/reflectlite.Swapper", "(internal/reflectlite.Value).Len"], unfollowed := true, recurses := true, apart := false, narrowed := true }
def FnExactBestFitUptoSaid : Prop := fnExactBestFitUptoRow.holds Try.pinned (OpenSpec.upto fnExactBestFitSpec)

/-- 'laws.FnExactNewBlocks', WHERE WHAT IT READS IS OF BULK AT MOST 1048576: true; the input reads as it did. -/
def fnExactNewBlocksUptoRow : OpenClaim := { program := "ytofolkiikmnbhaa", sum := "659efcfc6edec634659c697bb431bc2a14ef2ae424949fd8b5cf4cdfebe84298", func := "loop.example/memorymanagers/laws.FnExactNewBlocks", spec := "fnExactNewBlocks", apart := false, narrowed := true }
def FnExactNewBlocksUptoSaid : Prop := fnExactNewBlocksUptoRow.holds Try.pinned (OpenSpec.upto fnExactNewBlocksSpec)

/-- 'laws.FnExactBlocksValid', WHERE WHAT IT READS IS OF BULK AT MOST 1048576: true; the input reads as it did. -/
def fnExactBlocksValidUptoRow : OpenClaim := { program := "ytofolkiikmnbhaa", sum := "659efcfc6edec634659c697bb431bc2a14ef2ae424949fd8b5cf4cdfebe84298", func := "loop.example/memorymanagers/laws.FnExactBlocksValid", spec := "fnExactBlocksValid", apart := false, narrowed := true }
def FnExactBlocksValidUptoSaid : Prop := fnExactBlocksValidUptoRow.holds Try.pinned (OpenSpec.upto fnExactBlocksValidSpec)

/-- 'laws.FnBestFit', WHERE WHAT IT READS IS OF BULK AT MOST 1048576: true; the input reads as it did. -/
def fnBestFitUptoRow : OpenClaim := { program := "ytofolkiikmnbhaa", sum := "659efcfc6edec634659c697bb431bc2a14ef2ae424949fd8b5cf4cdfebe84298", func := "loop.example/memorymanagers/laws.FnBestFit", spec := "fnBestFit", inPlace := ["internal/reflectlite.ValueOf", "internal/reflectlite.Swapper", "(internal/reflectlite.Value).Len"], unfollowed := true, recurses := true, apart := false, narrowed := true }
def FnBestFitUptoSaid : Prop := fnBestFitUptoRow.holds Try.pinned (OpenSpec.upto fnBestFitSpec)

/-- 'laws.FnNewBlocks', WHERE WHAT IT READS IS OF BULK AT MOST 1048576: true; the input reads as it did. -/
def fnNewBlocksUptoRow : OpenClaim := { program := "ytofolkiikmnbhaa", sum := "659efcfc6edec634659c697bb431bc2a14ef2ae424949fd8b5cf4cdfebe84298", func := "loop.example/memorymanagers/laws.FnNewBlocks", spec := "fnNewBlocks", apart := false, narrowed := true }
def FnNewBlocksUptoSaid : Prop := fnNewBlocksUptoRow.holds Try.pinned (OpenSpec.upto fnNewBlocksSpec)

/-- 'laws.FnExactFirstFit', WHERE WHAT IT READS IS OF BULK AT MOST 1048576: true; the input reads as it did. -/
def fnExactFirstFitUptoRow : OpenClaim := { program := "ytofolkiikmnbhaa", sum := "659efcfc6edec634659c697bb431bc2a14ef2ae424949fd8b5cf4cdfebe84298", func := "loop.example/memorymanagers/laws.FnExactFirstFit", spec := "fnExactFirstFit", apart := false, narrowed := true }
def FnExactFirstFitUptoSaid : Prop := fnExactFirstFitUptoRow.holds Try.pinned (OpenSpec.upto fnExactFirstFitSpec)

/-- 'laws.FnFitsBoth', WHERE WHAT IT READS IS OF BULK AT MOST 1048576: true; the input reads as it did. -/
def fnFitsBothUptoRow : OpenClaim := { program := "ytofolkiikmnbhaa", sum := "659efcfc6edec634659c697bb431bc2a14ef2ae424949fd8b5cf4cdfebe84298", func := "loop.example/memorymanagers/laws.FnFitsBoth", spec := "fnFitsBoth", inPlace := ["internal/reflectlite.ValueOf", "internal/reflectlite.Swapper", "(internal/reflectlite.Value).Len"], unfollowed := true, recurses := true, apart := false, narrowed := true }
def FnFitsBothUptoSaid : Prop := fnFitsBothUptoRow.holds Try.pinned (OpenSpec.upto fnFitsBothSpec)

/-- 'laws.FnExactFreeWords', WHERE WHAT IT READS IS OF BULK AT MOST 1048576: true; the input reads as it did. -/
def fnExactFreeWordsUptoRow : OpenClaim := { program := "ytofolkiikmnbhaa", sum := "659efcfc6edec634659c697bb431bc2a14ef2ae424949fd8b5cf4cdfebe84298", func := "loop.example/memorymanagers/laws.FnExactFreeWords", spec := "fnExactFreeWords", apart := false, narrowed := true }
def FnExactFreeWordsUptoSaid : Prop := fnExactFreeWordsUptoRow.holds Try.pinned (OpenSpec.upto fnExactFreeWordsSpec)

/-- 'laws.FnExactLargestFree', WHERE WHAT IT READS IS OF BULK AT MOST 1048576: true; the input reads as it did. -/
def fnExactLargestFreeUptoRow : OpenClaim := { program := "ytofolkiikmnbhaa", sum := "659efcfc6edec634659c697bb431bc2a14ef2ae424949fd8b5cf4cdfebe84298", func := "loop.example/memorymanagers/laws.FnExactLargestFree", spec := "fnExactLargestFree", apart := false, narrowed := true }
def FnExactLargestFreeUptoSaid : Prop := fnExactLargestFreeUptoRow.holds Try.pinned (OpenSpec.upto fnExactLargestFreeSpec)

/-- 'laws.FnExactBlockAt', WHERE WHAT IT READS IS OF BULK AT MOST 1048576: true; the input reads as it did. -/
def fnExactBlockAtUptoRow : OpenClaim := { program := "ytofolkiikmnbhaa", sum := "659efcfc6edec634659c697bb431bc2a14ef2ae424949fd8b5cf4cdfebe84298", func := "loop.example/memorymanagers/laws.FnExactBlockAt", spec := "fnExactBlockAt", unfollowed := true, recurses := true, apart := false, narrowed := true }
def FnExactBlockAtUptoSaid : Prop := fnExactBlockAtUptoRow.holds Try.pinned (OpenSpec.upto fnExactBlockAtSpec)

/-- 'laws.FnExactTakeBlock', WHERE WHAT IT READS IS OF BULK AT MOST 1048576: true; the input reads as it did. -/
def fnExactTakeBlockUptoRow : OpenClaim := { program := "ytofolkiikmnbhaa", sum := "659efcfc6edec634659c697bb431bc2a14ef2ae424949fd8b5cf4cdfebe84298", func := "loop.example/memorymanagers/laws.FnExactTakeBlock", spec := "fnExactTakeBlock", apart := false, narrowed := true }
def FnExactTakeBlockUptoSaid : Prop := fnExactTakeBlockUptoRow.holds Try.pinned (OpenSpec.upto fnExactTakeBlockSpec)

/-- 'laws.FnExactFragmented', WHERE WHAT IT READS IS OF BULK AT MOST 1048576: true; the input reads as it did. -/
def fnExactFragmentedUptoRow : OpenClaim := { program := "ytofolkiikmnbhaa", sum := "659efcfc6edec634659c697bb431bc2a14ef2ae424949fd8b5cf4cdfebe84298", func := "loop.example/memorymanagers/laws.FnExactFragmented", spec := "fnExactFragmented", apart := false, narrowed := true }
def FnExactFragmentedUptoSaid : Prop := fnExactFragmentedUptoRow.holds Try.pinned (OpenSpec.upto fnExactFragmentedSpec)

/-- 'laws.FnBlocksValid', WHERE WHAT IT READS IS OF BULK AT MOST 1048576: true; the input reads as it did. -/
def fnBlocksValidUptoRow : OpenClaim := { program := "ytofolkiikmnbhaa", sum := "659efcfc6edec634659c697bb431bc2a14ef2ae424949fd8b5cf4cdfebe84298", func := "loop.example/memorymanagers/laws.FnBlocksValid", spec := "fnBlocksValid", apart := false, narrowed := true }
def FnBlocksValidUptoSaid : Prop := fnBlocksValidUptoRow.holds Try.pinned (OpenSpec.upto fnBlocksValidSpec)

/-- 'laws.FnExactSlideBlocks', WHERE WHAT IT READS IS OF BULK AT MOST 1048576: true; the input reads as it did. -/
def fnExactSlideBlocksUptoRow : OpenClaim := { program := "ytofolkiikmnbhaa", sum := "659efcfc6edec634659c697bb431bc2a14ef2ae424949fd8b5cf4cdfebe84298", func := "loop.example/memorymanagers/laws.FnExactSlideBlocks", spec := "fnExactSlideBlocks", apart := false, narrowed := true }
def FnExactSlideBlocksUptoSaid : Prop := fnExactSlideBlocksUptoRow.holds Try.pinned (OpenSpec.upto fnExactSlideBlocksSpec)

/-- 'laws.FnExactGiveBlock', WHERE WHAT IT READS IS OF BULK AT MOST 1048576: true; the input reads as it did. -/
def fnExactGiveBlockUptoRow : OpenClaim := { program := "ytofolkiikmnbhaa", sum := "659efcfc6edec634659c697bb431bc2a14ef2ae424949fd8b5cf4cdfebe84298", func := "loop.example/memorymanagers/laws.FnExactGiveBlock", spec := "fnExactGiveBlock", apart := false, narrowed := true }
def FnExactGiveBlockUptoSaid : Prop := fnExactGiveBlockUptoRow.holds Try.pinned (OpenSpec.upto fnExactGiveBlockSpec)

/-- 'laws.FnFirstFit', WHERE WHAT IT READS IS OF BULK AT MOST 1048576: true; the input reads as it did. -/
def fnFirstFitUptoRow : OpenClaim := { program := "ytofolkiikmnbhaa", sum := "659efcfc6edec634659c697bb431bc2a14ef2ae424949fd8b5cf4cdfebe84298", func := "loop.example/memorymanagers/laws.FnFirstFit", spec := "fnFirstFit", apart := false, narrowed := true }
def FnFirstFitUptoSaid : Prop := fnFirstFitUptoRow.holds Try.pinned (OpenSpec.upto fnFirstFitSpec)

/-- 'laws.FnBlockAt', WHERE WHAT IT READS IS OF BULK AT MOST 1048576: true; the input reads as it did. -/
def fnBlockAtUptoRow : OpenClaim := { program := "ytofolkiikmnbhaa", sum := "659efcfc6edec634659c697bb431bc2a14ef2ae424949fd8b5cf4cdfebe84298", func := "loop.example/memorymanagers/laws.FnBlockAt", spec := "fnBlockAt", unfollowed := true, recurses := true, apart := false, narrowed := true }
def FnBlockAtUptoSaid : Prop := fnBlockAtUptoRow.holds Try.pinned (OpenSpec.upto fnBlockAtSpec)

/-- 'laws.FnGiveBlock', WHERE WHAT IT READS IS OF BULK AT MOST 1048576: true; the input reads as it did. -/
def fnGiveBlockUptoRow : OpenClaim := { program := "ytofolkiikmnbhaa", sum := "659efcfc6edec634659c697bb431bc2a14ef2ae424949fd8b5cf4cdfebe84298", func := "loop.example/memorymanagers/laws.FnGiveBlock", spec := "fnGiveBlock", apart := false, narrowed := true }
def FnGiveBlockUptoSaid : Prop := fnGiveBlockUptoRow.holds Try.pinned (OpenSpec.upto fnGiveBlockSpec)

/-- 'laws.FnLargestFree', WHERE WHAT IT READS IS OF BULK AT MOST 1048576: true; the input reads as it did. -/
def fnLargestFreeUptoRow : OpenClaim := { program := "ytofolkiikmnbhaa", sum := "659efcfc6edec634659c697bb431bc2a14ef2ae424949fd8b5cf4cdfebe84298", func := "loop.example/memorymanagers/laws.FnLargestFree", spec := "fnLargestFree", apart := false, narrowed := true }
def FnLargestFreeUptoSaid : Prop := fnLargestFreeUptoRow.holds Try.pinned (OpenSpec.upto fnLargestFreeSpec)

/-- 'laws.FnFreeWords', WHERE WHAT IT READS IS OF BULK AT MOST 1048576: true; the input reads as it did. -/
def fnFreeWordsUptoRow : OpenClaim := { program := "ytofolkiikmnbhaa", sum := "659efcfc6edec634659c697bb431bc2a14ef2ae424949fd8b5cf4cdfebe84298", func := "loop.example/memorymanagers/laws.FnFreeWords", spec := "fnFreeWords", unfollowed := true, recurses := true, apart := false, narrowed := true }
def FnFreeWordsUptoSaid : Prop := fnFreeWordsUptoRow.holds Try.pinned (OpenSpec.upto fnFreeWordsSpec)

/-- 'laws.FnBlocksOrder', WHERE WHAT IT READS IS OF BULK AT MOST 1048576: true; the input reads as it did. -/
def fnBlocksOrderUptoRow : OpenClaim := { program := "ytofolkiikmnbhaa", sum := "659efcfc6edec634659c697bb431bc2a14ef2ae424949fd8b5cf4cdfebe84298", func := "loop.example/memorymanagers/laws.FnBlocksOrder", spec := "fnBlocksOrder", unfollowed := true, recurses := true, apart := false, narrowed := true }
def FnBlocksOrderUptoSaid : Prop := fnBlocksOrderUptoRow.holds Try.pinned (OpenSpec.upto fnBlocksOrderSpec)

/-- 'laws.FnTakeBlock', WHERE WHAT IT READS IS OF BULK AT MOST 1048576: true; the input reads as it did. -/
def fnTakeBlockUptoRow : OpenClaim := { program := "ytofolkiikmnbhaa", sum := "659efcfc6edec634659c697bb431bc2a14ef2ae424949fd8b5cf4cdfebe84298", func := "loop.example/memorymanagers/laws.FnTakeBlock", spec := "fnTakeBlock", apart := false, narrowed := true }
def FnTakeBlockUptoSaid : Prop := fnTakeBlockUptoRow.holds Try.pinned (OpenSpec.upto fnTakeBlockSpec)

/-- 'laws.FnSlideBlocks', WHERE WHAT IT READS IS OF BULK AT MOST 1048576: true; the input reads as it did. -/
def fnSlideBlocksUptoRow : OpenClaim := { program := "ytofolkiikmnbhaa", sum := "659efcfc6edec634659c697bb431bc2a14ef2ae424949fd8b5cf4cdfebe84298", func := "loop.example/memorymanagers/laws.FnSlideBlocks", spec := "fnSlideBlocks", apart := false, narrowed := true }
def FnSlideBlocksUptoSaid : Prop := fnSlideBlocksUptoRow.holds Try.pinned (OpenSpec.upto fnSlideBlocksSpec)

/-- 'laws.FnSlideFit', WHERE WHAT IT READS IS OF BULK AT MOST 1048576: true; the input reads as it did. -/
def fnSlideFitUptoRow : OpenClaim := { program := "ytofolkiikmnbhaa", sum := "659efcfc6edec634659c697bb431bc2a14ef2ae424949fd8b5cf4cdfebe84298", func := "loop.example/memorymanagers/laws.FnSlideFit", spec := "fnSlideFit", apart := false, narrowed := true }
def FnSlideFitUptoSaid : Prop := fnSlideFitUptoRow.holds Try.pinned (OpenSpec.upto fnSlideFitSpec)

/-- 'laws.FnFragmented', WHERE WHAT IT READS IS OF BULK AT MOST 1048576: true; the input reads as it did. -/
def fnFragmentedUptoRow : OpenClaim := { program := "ytofolkiikmnbhaa", sum := "659efcfc6edec634659c697bb431bc2a14ef2ae424949fd8b5cf4cdfebe84298", func := "loop.example/memorymanagers/laws.FnFragmented", spec := "fnFragmented", apart := false, narrowed := true }
def FnFragmentedUptoSaid : Prop := fnFragmentedUptoRow.holds Try.pinned (OpenSpec.upto fnFragmentedSpec)

/-- 'laws.FnExactTakeSliding', WHERE WHAT IT READS IS OF BULK AT MOST 1048576: true; the input reads as it did. -/
def fnExactTakeSlidingUptoRow : OpenClaim := { program := "ytofolkiikmnbhaa", sum := "659efcfc6edec634659c697bb431bc2a14ef2ae424949fd8b5cf4cdfebe84298", func := "loop.example/memorymanagers/laws.FnExactTakeSliding", spec := "fnExactTakeSliding", apart := false, narrowed := true }
def FnExactTakeSlidingUptoSaid : Prop := fnExactTakeSlidingUptoRow.holds Try.pinned (OpenSpec.upto fnExactTakeSlidingSpec)

/-- 'laws.FnTakeSliding', WHERE WHAT IT READS IS OF BULK AT MOST 1048576: true; the input reads as it did. -/
def fnTakeSlidingUptoRow : OpenClaim := { program := "ytofolkiikmnbhaa", sum := "659efcfc6edec634659c697bb431bc2a14ef2ae424949fd8b5cf4cdfebe84298", func := "loop.example/memorymanagers/laws.FnTakeSliding", spec := "fnTakeSliding", apart := false, narrowed := true }
def FnTakeSlidingUptoSaid : Prop := fnTakeSlidingUptoRow.holds Try.pinned (OpenSpec.upto fnTakeSlidingSpec)

end Rows
end Go.Proofs.Ytofolkiikmnbhaa
