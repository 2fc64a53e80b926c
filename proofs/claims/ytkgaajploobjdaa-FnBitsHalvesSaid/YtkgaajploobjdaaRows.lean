/-
  No cell of these rows narrows 'for every input' (looked for: loops, veiled, ifaces, maps, wideKeys, modest, calm, conditions, laid).
  DERIVED. THE GIVEN ROWS OF THIS SEAT. 6 by the template 'for every input the law returns true; each argument reads behind the call as it read before'; 0 by the template 'total and deterministic' (their statements: YtkgaajploobjdaaTotals.lean).
  GIVEN WITH THE SEED: the statements are not yours to turn. If you find one false, say at which input.
  Laid BY PROGRAM, IN A SANDBOX (cutbox-rows.mjs): the forced cells as the released guide's own fill.sh prints them over the translation 4e7fe6236ddca3bb… (all of the seat's roots in one cut). By AI agents, Wed Nov 11 2026. No macro, syntax, notation, axiom, sorry.
-/
import Derived.Test.YtkgaajploobjdaaChecked
import GoSem.Claim
import GoSem.ClaimJoined
import GoSem.ClaimMapViews
import Derived.JoinedTies
import Derived.KernelRfl
namespace Go.Proofs.Ytkgaajploobjdaa
/- THE CELL 'sum', in the pinned program and in every row, IS THE sha256 OF THE DUMP (.gsa) THAT YtkgaajploobjdaaProg.lean LOADS. Nothing in Lean hashes anything: it is a label: what it is worth is what the hold of that sum in a sandbox is worth. -/
noncomputable def Try.pinned : Pinned := { name := "ytkgaajploobjdaa", sum := "4e7fe6236ddca3bb5572c75bde256d0a9da4a77729c2f73b2f7986f9286aca28", checked := Try.checked }
namespace Rows
def none {H : Type} : Left H := { results := [], args := [] }

/-- 'laws.FnExactBitsFind': WHATEVER THE INPUT: true; the input reads as it did. -/
def fnExactBitsFindSpec : ChangeSpec := { name := "fnExactBitsFind", fn := fun _ => fun
  | [d1, d2] => { results := [.lit (.bool true)], args := [d1, d2] }
  | _ => none }
def fnExactBitsFindRow : OpenClaim := { program := "ytkgaajploobjdaa", sum := "4e7fe6236ddca3bb5572c75bde256d0a9da4a77729c2f73b2f7986f9286aca28", func := "loop.example/memorymanagers/laws.FnExactBitsFind", spec := "fnExactBitsFind", apart := false }
def FnExactBitsFindSaid : Prop := fnExactBitsFindRow.holds Try.pinned (OpenSpec.ofChange fnExactBitsFindSpec)

/-- ITS FALSE NEIGHBOUR: 'it returns false'. Refute it at one input. -/
def fnExactBitsFindWrong : ChangeSpec := { name := "fnExactBitsFind", fn := fun _ => fun
  | [d1, d2] => { results := [.lit (.bool false)], args := [d1, d2] }
  | _ => none }
def FnExactBitsFindWrongFalsely : Prop := fnExactBitsFindRow.holds Try.pinned (OpenSpec.ofChange fnExactBitsFindWrong)

/-- 'laws.FnExactBitsGive': WHATEVER THE INPUT: true; the input reads as it did. -/
def fnExactBitsGiveSpec : ChangeSpec := { name := "fnExactBitsGive", fn := fun _ => fun
  | [d1, d2, d3] => { results := [.lit (.bool true)], args := [d1, d2, d3] }
  | _ => none }
def fnExactBitsGiveRow : OpenClaim := { program := "ytkgaajploobjdaa", sum := "4e7fe6236ddca3bb5572c75bde256d0a9da4a77729c2f73b2f7986f9286aca28", func := "loop.example/memorymanagers/laws.FnExactBitsGive", spec := "fnExactBitsGive", apart := false }
def FnExactBitsGiveSaid : Prop := fnExactBitsGiveRow.holds Try.pinned (OpenSpec.ofChange fnExactBitsGiveSpec)

/-- ITS FALSE NEIGHBOUR: 'it returns false'. Refute it at one input. -/
def fnExactBitsGiveWrong : ChangeSpec := { name := "fnExactBitsGive", fn := fun _ => fun
  | [d1, d2, d3] => { results := [.lit (.bool false)], args := [d1, d2, d3] }
  | _ => none }
def FnExactBitsGiveWrongFalsely : Prop := fnExactBitsGiveRow.holds Try.pinned (OpenSpec.ofChange fnExactBitsGiveWrong)

/-- 'laws.FnExactBitsTake': WHATEVER THE INPUT: true; the input reads as it did. -/
def fnExactBitsTakeSpec : ChangeSpec := { name := "fnExactBitsTake", fn := fun _ => fun
  | [d1, d2, d3] => { results := [.lit (.bool true)], args := [d1, d2, d3] }
  | _ => none }
def fnExactBitsTakeRow : OpenClaim := { program := "ytkgaajploobjdaa", sum := "4e7fe6236ddca3bb5572c75bde256d0a9da4a77729c2f73b2f7986f9286aca28", func := "loop.example/memorymanagers/laws.FnExactBitsTake", spec := "fnExactBitsTake", apart := false }
def FnExactBitsTakeSaid : Prop := fnExactBitsTakeRow.holds Try.pinned (OpenSpec.ofChange fnExactBitsTakeSpec)

/-- ITS FALSE NEIGHBOUR: 'it returns false'. Refute it at one input. -/
def fnExactBitsTakeWrong : ChangeSpec := { name := "fnExactBitsTake", fn := fun _ => fun
  | [d1, d2, d3] => { results := [.lit (.bool false)], args := [d1, d2, d3] }
  | _ => none }
def FnExactBitsTakeWrongFalsely : Prop := fnExactBitsTakeRow.holds Try.pinned (OpenSpec.ofChange fnExactBitsTakeWrong)

/-- 'laws.FnBitsHalves': WHATEVER THE INPUT: true; the input reads as it did. -/
def fnBitsHalvesSpec : ChangeSpec := { name := "fnBitsHalves", fn := fun _ => fun
  | [d] => { results := [.lit (.bool true)], args := [d] }
  | _ => none }
def fnBitsHalvesRow : OpenClaim := { program := "ytkgaajploobjdaa", sum := "4e7fe6236ddca3bb5572c75bde256d0a9da4a77729c2f73b2f7986f9286aca28", func := "loop.example/memorymanagers/laws.FnBitsHalves", spec := "fnBitsHalves", apart := false }
def FnBitsHalvesSaid : Prop := fnBitsHalvesRow.holds Try.pinned (OpenSpec.ofChange fnBitsHalvesSpec)

/-- ITS FALSE NEIGHBOUR: 'it returns false'. Refute it at one input. -/
def fnBitsHalvesWrong : ChangeSpec := { name := "fnBitsHalves", fn := fun _ => fun
  | [d] => { results := [.lit (.bool false)], args := [d] }
  | _ => none }
def FnBitsHalvesWrongFalsely : Prop := fnBitsHalvesRow.holds Try.pinned (OpenSpec.ofChange fnBitsHalvesWrong)

/-- 'laws.FnBitsTake': WHATEVER THE INPUT: true; the input reads as it did. -/
def fnBitsTakeSpec : ChangeSpec := { name := "fnBitsTake", fn := fun _ => fun
  | [d] => { results := [.lit (.bool true)], args := [d] }
  | _ => none }
def fnBitsTakeRow : OpenClaim := { program := "ytkgaajploobjdaa", sum := "4e7fe6236ddca3bb5572c75bde256d0a9da4a77729c2f73b2f7986f9286aca28", func := "loop.example/memorymanagers/laws.FnBitsTake", spec := "fnBitsTake", apart := false }
def FnBitsTakeSaid : Prop := fnBitsTakeRow.holds Try.pinned (OpenSpec.ofChange fnBitsTakeSpec)

/-- ITS FALSE NEIGHBOUR: 'it returns false'. Refute it at one input. -/
def fnBitsTakeWrong : ChangeSpec := { name := "fnBitsTake", fn := fun _ => fun
  | [d] => { results := [.lit (.bool false)], args := [d] }
  | _ => none }
def FnBitsTakeWrongFalsely : Prop := fnBitsTakeRow.holds Try.pinned (OpenSpec.ofChange fnBitsTakeWrong)

/-- 'laws.FnBitsGive': WHATEVER THE INPUT: true; the input reads as it did. -/
def fnBitsGiveSpec : ChangeSpec := { name := "fnBitsGive", fn := fun _ => fun
  | [d] => { results := [.lit (.bool true)], args := [d] }
  | _ => none }
def fnBitsGiveRow : OpenClaim := { program := "ytkgaajploobjdaa", sum := "4e7fe6236ddca3bb5572c75bde256d0a9da4a77729c2f73b2f7986f9286aca28", func := "loop.example/memorymanagers/laws.FnBitsGive", spec := "fnBitsGive", apart := false }
def FnBitsGiveSaid : Prop := fnBitsGiveRow.holds Try.pinned (OpenSpec.ofChange fnBitsGiveSpec)

/-- ITS FALSE NEIGHBOUR: 'it returns false'. Refute it at one input. -/
def fnBitsGiveWrong : ChangeSpec := { name := "fnBitsGive", fn := fun _ => fun
  | [d] => { results := [.lit (.bool false)], args := [d] }
  | _ => none }
def FnBitsGiveWrongFalsely : Prop := fnBitsGiveRow.holds Try.pinned (OpenSpec.ofChange fnBitsGiveWrong)

/- THE SECOND FORM. 'bulk': how many values and letters a reading holds, each counted each time it is reached (what is shared counts as often as it is met; a slice's spare places count too). A statement '..UptoSaid' is the law's where the arguments, and the package variables that the reading takes, are together of bulk at most 1048576: NARROWER than '..Said'. Prove '..Said' where nothing that the law and all that it calls make is longer than what came in: it says more and counts as full. Else prove '..UptoSaid'. A law counts once. -/
mutual
def uptoBulk {H : Type} : DataW H → Nat
  | .lit (.string bytes) => bytes.length + 1
  | .lit _ => 1
  | .nil => 1
  | .ptr d => uptoBulk d + 1
  | .slice elems spare => uptoBulkAll elems + uptoBulkAll spare + 1
  | .agg parts => uptoBulkAll parts + 1
  | .iface _ d => uptoBulk d + 1
  | .map entries => uptoBulkEntries entries + 1
  | .held _ => 1
def uptoBulkAll {H : Type} : List (DataW H) → Nat
  | [] => 0
  | d :: r => uptoBulk d + uptoBulkAll r
def uptoBulkEntries {H : Type} : List (Lit × DataW H) → Nat
  | [] => 0
  | x :: r => uptoBulkEntry x + uptoBulkEntries r
def uptoBulkEntry {H : Type} : Lit × DataW H → Nat
  | (.string bytes, d) => bytes.length + uptoBulk d + 1
  | (_, d) => uptoBulk d + 1
 end
def uptoSmall : (H : Type) → List (DataW H) → Bool := fun _ ds => decide (uptoBulkAll ds ≤ 1048576)
def OpenSpec.upto (s : _root_.Go.ChangeSpec) : _root_.Go.OpenSpec := { _root_.Go.OpenSpec.ofChange s with cond := some uptoSmall }

/-- 'laws.FnExactBitsFind', WHERE WHAT IT READS IS OF BULK AT MOST 1048576: true; the input reads as it did. -/
def fnExactBitsFindUptoRow : OpenClaim := { program := "ytkgaajploobjdaa", sum := "4e7fe6236ddca3bb5572c75bde256d0a9da4a77729c2f73b2f7986f9286aca28", func := "loop.example/memorymanagers/laws.FnExactBitsFind", spec := "fnExactBitsFind", apart := false, narrowed := true }
def FnExactBitsFindUptoSaid : Prop := fnExactBitsFindUptoRow.holds Try.pinned (OpenSpec.upto fnExactBitsFindSpec)

/-- 'laws.FnExactBitsGive', WHERE WHAT IT READS IS OF BULK AT MOST 1048576: true; the input reads as it did. -/
def fnExactBitsGiveUptoRow : OpenClaim := { program := "ytkgaajploobjdaa", sum := "4e7fe6236ddca3bb5572c75bde256d0a9da4a77729c2f73b2f7986f9286aca28", func := "loop.example/memorymanagers/laws.FnExactBitsGive", spec := "fnExactBitsGive", apart := false, narrowed := true }
def FnExactBitsGiveUptoSaid : Prop := fnExactBitsGiveUptoRow.holds Try.pinned (OpenSpec.upto fnExactBitsGiveSpec)

/-- 'laws.FnExactBitsTake', WHERE WHAT IT READS IS OF BULK AT MOST 1048576: true; the input reads as it did. -/
def fnExactBitsTakeUptoRow : OpenClaim := { program := "ytkgaajploobjdaa", sum := "4e7fe6236ddca3bb5572c75bde256d0a9da4a77729c2f73b2f7986f9286aca28", func := "loop.example/memorymanagers/laws.FnExactBitsTake", spec := "fnExactBitsTake", apart := false, narrowed := true }
def FnExactBitsTakeUptoSaid : Prop := fnExactBitsTakeUptoRow.holds Try.pinned (OpenSpec.upto fnExactBitsTakeSpec)

/-- 'laws.FnBitsHalves', WHERE WHAT IT READS IS OF BULK AT MOST 1048576: true; the input reads as it did. -/
def fnBitsHalvesUptoRow : OpenClaim := { program := "ytkgaajploobjdaa", sum := "4e7fe6236ddca3bb5572c75bde256d0a9da4a77729c2f73b2f7986f9286aca28", func := "loop.example/memorymanagers/laws.FnBitsHalves", spec := "fnBitsHalves", apart := false, narrowed := true }
def FnBitsHalvesUptoSaid : Prop := fnBitsHalvesUptoRow.holds Try.pinned (OpenSpec.upto fnBitsHalvesSpec)

/-- 'laws.FnBitsTake', WHERE WHAT IT READS IS OF BULK AT MOST 1048576: true; the input reads as it did. -/
def fnBitsTakeUptoRow : OpenClaim := { program := "ytkgaajploobjdaa", sum := "4e7fe6236ddca3bb5572c75bde256d0a9da4a77729c2f73b2f7986f9286aca28", func := "loop.example/memorymanagers/laws.FnBitsTake", spec := "fnBitsTake", apart := false, narrowed := true }
def FnBitsTakeUptoSaid : Prop := fnBitsTakeUptoRow.holds Try.pinned (OpenSpec.upto fnBitsTakeSpec)

/-- 'laws.FnBitsGive', WHERE WHAT IT READS IS OF BULK AT MOST 1048576: true; the input reads as it did. -/
def fnBitsGiveUptoRow : OpenClaim := { program := "ytkgaajploobjdaa", sum := "4e7fe6236ddca3bb5572c75bde256d0a9da4a77729c2f73b2f7986f9286aca28", func := "loop.example/memorymanagers/laws.FnBitsGive", spec := "fnBitsGive", apart := false, narrowed := true }
def FnBitsGiveUptoSaid : Prop := fnBitsGiveUptoRow.holds Try.pinned (OpenSpec.upto fnBitsGiveSpec)

end Rows
end Go.Proofs.Ytkgaajploobjdaa
