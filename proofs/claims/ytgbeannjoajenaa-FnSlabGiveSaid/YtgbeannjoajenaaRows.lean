/-
  No cell of these rows narrows 'for every input' (looked for: loops, veiled, ifaces, maps, wideKeys, modest, calm, conditions, laid).
  DERIVED. THE GIVEN ROWS OF THIS SEAT. 11 by the template 'for every input the law returns true; each argument reads behind the call as it read before'; 0 by the template 'total and deterministic' (their statements: YtgbeannjoajenaaTotals.lean).
  GIVEN WITH THE SEED: the statements are not yours to turn. If you find one false, say at which input.
  Laid BY PROGRAM, IN A SANDBOX (cutbox-rows.mjs): the forced cells as the released guide's own fill.sh prints them over the translation cca1b2cf99e1831b… (all of the seat's roots in one cut). By AI agents, Wed Nov 11 2026. No macro, syntax, notation, axiom, sorry.
-/
import Derived.Test.YtgbeannjoajenaaChecked
import GoSem.Claim
import GoSem.ClaimJoined
import GoSem.ClaimMapViews
import Derived.JoinedTies
import Derived.KernelRfl
namespace Go.Proofs.Ytgbeannjoajenaa
/- THE CELL 'sum', in the pinned program and in every row, IS THE sha256 OF THE DUMP (.gsa) THAT YtgbeannjoajenaaProg.lean LOADS. Nothing in Lean hashes anything: it is a label: what it is worth is what the hold of that sum in a sandbox is worth. -/
noncomputable def Try.pinned : Pinned := { name := "ytgbeannjoajenaa", sum := "cca1b2cf99e1831b91a13bea1ce87f7edfaaac96be795b75734351bdef9009a5", checked := Try.checked }
namespace Rows
def none {H : Type} : Left H := { results := [], args := [] }

/-- 'laws.FnExactConstants': WHATEVER THE INPUT: true; the input reads as it did. -/
def fnExactConstantsSpec : ChangeSpec := { name := "fnExactConstants", fn := fun _ => fun
  | [] => { results := [.lit (.bool true)], args := [] }
  | _ => none }
def fnExactConstantsRow : OpenClaim := { program := "ytgbeannjoajenaa", sum := "cca1b2cf99e1831b91a13bea1ce87f7edfaaac96be795b75734351bdef9009a5", func := "loop.example/memorymanagers/laws.FnExactConstants", spec := "fnExactConstants", apart := false }
def FnExactConstantsSaid : Prop := fnExactConstantsRow.holds Try.pinned (OpenSpec.ofChange fnExactConstantsSpec)

/-- ITS FALSE NEIGHBOUR: 'it returns false'. Refute it at one input. -/
def fnExactConstantsWrong : ChangeSpec := { name := "fnExactConstants", fn := fun _ => fun
  | [] => { results := [.lit (.bool false)], args := [] }
  | _ => none }
def FnExactConstantsWrongFalsely : Prop := fnExactConstantsRow.holds Try.pinned (OpenSpec.ofChange fnExactConstantsWrong)

/-- 'laws.FnExactClassSize': WHATEVER THE INPUT: true; the input reads as it did. -/
def fnExactClassSizeSpec : ChangeSpec := { name := "fnExactClassSize", fn := fun _ => fun
  | [d] => { results := [.lit (.bool true)], args := [d] }
  | _ => none }
def fnExactClassSizeRow : OpenClaim := { program := "ytgbeannjoajenaa", sum := "cca1b2cf99e1831b91a13bea1ce87f7edfaaac96be795b75734351bdef9009a5", func := "loop.example/memorymanagers/laws.FnExactClassSize", spec := "fnExactClassSize", apart := false }
def FnExactClassSizeSaid : Prop := fnExactClassSizeRow.holds Try.pinned (OpenSpec.ofChange fnExactClassSizeSpec)

/-- ITS FALSE NEIGHBOUR: 'it returns false'. Refute it at one input. -/
def fnExactClassSizeWrong : ChangeSpec := { name := "fnExactClassSize", fn := fun _ => fun
  | [d] => { results := [.lit (.bool false)], args := [d] }
  | _ => none }
def FnExactClassSizeWrongFalsely : Prop := fnExactClassSizeRow.holds Try.pinned (OpenSpec.ofChange fnExactClassSizeWrong)

/-- 'laws.FnExactSlabValid': WHATEVER THE INPUT: true; the input reads as it did. -/
def fnExactSlabValidSpec : ChangeSpec := { name := "fnExactSlabValid", fn := fun _ => fun
  | [d] => { results := [.lit (.bool true)], args := [d] }
  | _ => none }
def fnExactSlabValidRow : OpenClaim := { program := "ytgbeannjoajenaa", sum := "cca1b2cf99e1831b91a13bea1ce87f7edfaaac96be795b75734351bdef9009a5", func := "loop.example/memorymanagers/laws.FnExactSlabValid", spec := "fnExactSlabValid", apart := false }
def FnExactSlabValidSaid : Prop := fnExactSlabValidRow.holds Try.pinned (OpenSpec.ofChange fnExactSlabValidSpec)

/-- ITS FALSE NEIGHBOUR: 'it returns false'. Refute it at one input. -/
def fnExactSlabValidWrong : ChangeSpec := { name := "fnExactSlabValid", fn := fun _ => fun
  | [d] => { results := [.lit (.bool false)], args := [d] }
  | _ => none }
def FnExactSlabValidWrongFalsely : Prop := fnExactSlabValidRow.holds Try.pinned (OpenSpec.ofChange fnExactSlabValidWrong)

/-- 'laws.FnExactClassFor': WHATEVER THE INPUT: true; the input reads as it did. -/
def fnExactClassForSpec : ChangeSpec := { name := "fnExactClassFor", fn := fun _ => fun
  | [d] => { results := [.lit (.bool true)], args := [d] }
  | _ => none }
def fnExactClassForRow : OpenClaim := { program := "ytgbeannjoajenaa", sum := "cca1b2cf99e1831b91a13bea1ce87f7edfaaac96be795b75734351bdef9009a5", func := "loop.example/memorymanagers/laws.FnExactClassFor", spec := "fnExactClassFor", apart := false }
def FnExactClassForSaid : Prop := fnExactClassForRow.holds Try.pinned (OpenSpec.ofChange fnExactClassForSpec)

/-- ITS FALSE NEIGHBOUR: 'it returns false'. Refute it at one input. -/
def fnExactClassForWrong : ChangeSpec := { name := "fnExactClassFor", fn := fun _ => fun
  | [d] => { results := [.lit (.bool false)], args := [d] }
  | _ => none }
def FnExactClassForWrongFalsely : Prop := fnExactClassForRow.holds Try.pinned (OpenSpec.ofChange fnExactClassForWrong)

/-- 'laws.FnExactSlabGive': WHATEVER THE INPUT: true; the input reads as it did. -/
def fnExactSlabGiveSpec : ChangeSpec := { name := "fnExactSlabGive", fn := fun _ => fun
  | [d1, d2] => { results := [.lit (.bool true)], args := [d1, d2] }
  | _ => none }
def fnExactSlabGiveRow : OpenClaim := { program := "ytgbeannjoajenaa", sum := "cca1b2cf99e1831b91a13bea1ce87f7edfaaac96be795b75734351bdef9009a5", func := "loop.example/memorymanagers/laws.FnExactSlabGive", spec := "fnExactSlabGive", apart := false }
def FnExactSlabGiveSaid : Prop := fnExactSlabGiveRow.holds Try.pinned (OpenSpec.ofChange fnExactSlabGiveSpec)

/-- ITS FALSE NEIGHBOUR: 'it returns false'. Refute it at one input. -/
def fnExactSlabGiveWrong : ChangeSpec := { name := "fnExactSlabGive", fn := fun _ => fun
  | [d1, d2] => { results := [.lit (.bool false)], args := [d1, d2] }
  | _ => none }
def FnExactSlabGiveWrongFalsely : Prop := fnExactSlabGiveRow.holds Try.pinned (OpenSpec.ofChange fnExactSlabGiveWrong)

/-- 'laws.FnExactSlabWaste': WHATEVER THE INPUT: true; the input reads as it did. -/
def fnExactSlabWasteSpec : ChangeSpec := { name := "fnExactSlabWaste", fn := fun _ => fun
  | [d] => { results := [.lit (.bool true)], args := [d] }
  | _ => none }
def fnExactSlabWasteRow : OpenClaim := { program := "ytgbeannjoajenaa", sum := "cca1b2cf99e1831b91a13bea1ce87f7edfaaac96be795b75734351bdef9009a5", func := "loop.example/memorymanagers/laws.FnExactSlabWaste", spec := "fnExactSlabWaste", apart := false }
def FnExactSlabWasteSaid : Prop := fnExactSlabWasteRow.holds Try.pinned (OpenSpec.ofChange fnExactSlabWasteSpec)

/-- ITS FALSE NEIGHBOUR: 'it returns false'. Refute it at one input. -/
def fnExactSlabWasteWrong : ChangeSpec := { name := "fnExactSlabWaste", fn := fun _ => fun
  | [d] => { results := [.lit (.bool false)], args := [d] }
  | _ => none }
def FnExactSlabWasteWrongFalsely : Prop := fnExactSlabWasteRow.holds Try.pinned (OpenSpec.ofChange fnExactSlabWasteWrong)

/-- 'laws.FnClassSize': WHATEVER THE INPUT: true; the input reads as it did. -/
def fnClassSizeSpec : ChangeSpec := { name := "fnClassSize", fn := fun _ => fun
  | [d] => { results := [.lit (.bool true)], args := [d] }
  | _ => none }
def fnClassSizeRow : OpenClaim := { program := "ytgbeannjoajenaa", sum := "cca1b2cf99e1831b91a13bea1ce87f7edfaaac96be795b75734351bdef9009a5", func := "loop.example/memorymanagers/laws.FnClassSize", spec := "fnClassSize", apart := false }
def FnClassSizeSaid : Prop := fnClassSizeRow.holds Try.pinned (OpenSpec.ofChange fnClassSizeSpec)

/-- ITS FALSE NEIGHBOUR: 'it returns false'. Refute it at one input. -/
def fnClassSizeWrong : ChangeSpec := { name := "fnClassSize", fn := fun _ => fun
  | [d] => { results := [.lit (.bool false)], args := [d] }
  | _ => none }
def FnClassSizeWrongFalsely : Prop := fnClassSizeRow.holds Try.pinned (OpenSpec.ofChange fnClassSizeWrong)

/-- 'laws.FnSlabValid': WHATEVER THE INPUT: true; the input reads as it did. -/
def fnSlabValidSpec : ChangeSpec := { name := "fnSlabValid", fn := fun _ => fun
  | [d] => { results := [.lit (.bool true)], args := [d] }
  | _ => none }
def fnSlabValidRow : OpenClaim := { program := "ytgbeannjoajenaa", sum := "cca1b2cf99e1831b91a13bea1ce87f7edfaaac96be795b75734351bdef9009a5", func := "loop.example/memorymanagers/laws.FnSlabValid", spec := "fnSlabValid", apart := false }
def FnSlabValidSaid : Prop := fnSlabValidRow.holds Try.pinned (OpenSpec.ofChange fnSlabValidSpec)

/-- ITS FALSE NEIGHBOUR: 'it returns false'. Refute it at one input. -/
def fnSlabValidWrong : ChangeSpec := { name := "fnSlabValid", fn := fun _ => fun
  | [d] => { results := [.lit (.bool false)], args := [d] }
  | _ => none }
def FnSlabValidWrongFalsely : Prop := fnSlabValidRow.holds Try.pinned (OpenSpec.ofChange fnSlabValidWrong)

/-- 'laws.FnClassFor': WHATEVER THE INPUT: true; the input reads as it did. -/
def fnClassForSpec : ChangeSpec := { name := "fnClassFor", fn := fun _ => fun
  | [d] => { results := [.lit (.bool true)], args := [d] }
  | _ => none }
def fnClassForRow : OpenClaim := { program := "ytgbeannjoajenaa", sum := "cca1b2cf99e1831b91a13bea1ce87f7edfaaac96be795b75734351bdef9009a5", func := "loop.example/memorymanagers/laws.FnClassFor", spec := "fnClassFor", apart := false }
def FnClassForSaid : Prop := fnClassForRow.holds Try.pinned (OpenSpec.ofChange fnClassForSpec)

/-- ITS FALSE NEIGHBOUR: 'it returns false'. Refute it at one input. -/
def fnClassForWrong : ChangeSpec := { name := "fnClassFor", fn := fun _ => fun
  | [d] => { results := [.lit (.bool false)], args := [d] }
  | _ => none }
def FnClassForWrongFalsely : Prop := fnClassForRow.holds Try.pinned (OpenSpec.ofChange fnClassForWrong)

/-- 'laws.FnSlabGive': WHATEVER THE INPUT: true; the input reads as it did. -/
def fnSlabGiveSpec : ChangeSpec := { name := "fnSlabGive", fn := fun _ => fun
  | [d] => { results := [.lit (.bool true)], args := [d] }
  | _ => none }
def fnSlabGiveRow : OpenClaim := { program := "ytgbeannjoajenaa", sum := "cca1b2cf99e1831b91a13bea1ce87f7edfaaac96be795b75734351bdef9009a5", func := "loop.example/memorymanagers/laws.FnSlabGive", spec := "fnSlabGive", apart := false }
def FnSlabGiveSaid : Prop := fnSlabGiveRow.holds Try.pinned (OpenSpec.ofChange fnSlabGiveSpec)

/-- ITS FALSE NEIGHBOUR: 'it returns false'. Refute it at one input. -/
def fnSlabGiveWrong : ChangeSpec := { name := "fnSlabGive", fn := fun _ => fun
  | [d] => { results := [.lit (.bool false)], args := [d] }
  | _ => none }
def FnSlabGiveWrongFalsely : Prop := fnSlabGiveRow.holds Try.pinned (OpenSpec.ofChange fnSlabGiveWrong)

/-- 'laws.FnSlabWaste': WHATEVER THE INPUT: true; the input reads as it did. -/
def fnSlabWasteSpec : ChangeSpec := { name := "fnSlabWaste", fn := fun _ => fun
  | [d] => { results := [.lit (.bool true)], args := [d] }
  | _ => none }
def fnSlabWasteRow : OpenClaim := { program := "ytgbeannjoajenaa", sum := "cca1b2cf99e1831b91a13bea1ce87f7edfaaac96be795b75734351bdef9009a5", func := "loop.example/memorymanagers/laws.FnSlabWaste", spec := "fnSlabWaste", apart := false }
def FnSlabWasteSaid : Prop := fnSlabWasteRow.holds Try.pinned (OpenSpec.ofChange fnSlabWasteSpec)

/-- ITS FALSE NEIGHBOUR: 'it returns false'. Refute it at one input. -/
def fnSlabWasteWrong : ChangeSpec := { name := "fnSlabWaste", fn := fun _ => fun
  | [d] => { results := [.lit (.bool false)], args := [d] }
  | _ => none }
def FnSlabWasteWrongFalsely : Prop := fnSlabWasteRow.holds Try.pinned (OpenSpec.ofChange fnSlabWasteWrong)

/- THE SECOND FORM. 'bulk': how many values and letters a reading holds, each counted each time it is reached (what is shared counts as often as it is met; a slice's spare places count too). A statement '..UptoSaid' is the law's where the arguments, and the package variables that the reading takes, are together of bulk at most 1048576: NARROWER than '..Said'. Prove '..Said' where nothing that the law and all that it calls make is longer than what came in: it says more and counts as full. Else prove '..UptoSaid'. A law counts once. -/
mutual
def uptoBulk {H : Type} : DataW H → Nat
  | .lit (.string bytes) => bytes.length + 1
  | .lit _ => 1
  | .nil => 1
  | .ptr d => uptoBulk d + 1
  | .slice elems spare => uptoBulkAll elems + uptoBulkAll spare + 1
  | .agg parts => uptoBulkAll parts + 1
  | .iface _ d => uptoBulk d + 1
  | .map entries => uptoBulkEntries entries + 1
  | .held _ => 1
def uptoBulkAll {H : Type} : List (DataW H) → Nat
  | [] => 0
  | d :: r => uptoBulk d + uptoBulkAll r
def uptoBulkEntries {H : Type} : List (Lit × DataW H) → Nat
  | [] => 0
  | x :: r => uptoBulkEntry x + uptoBulkEntries r
def uptoBulkEntry {H : Type} : Lit × DataW H → Nat
  | (.string bytes, d) => bytes.length + uptoBulk d + 1
  | (_, d) => uptoBulk d + 1
 end
def uptoSmall : (H : Type) → List (DataW H) → Bool := fun _ ds => decide (uptoBulkAll ds ≤ 1048576)
def OpenSpec.upto (s : _root_.Go.ChangeSpec) : _root_.Go.OpenSpec := { _root_.Go.OpenSpec.ofChange s with cond := some uptoSmall }

/-- 'laws.FnExactConstants', WHERE WHAT IT READS IS OF BULK AT MOST 1048576: true; the input reads as it did. -/
def fnExactConstantsUptoRow : OpenClaim := { program := "ytgbeannjoajenaa", sum := "cca1b2cf99e1831b91a13bea1ce87f7edfaaac96be795b75734351bdef9009a5", func := "loop.example/memorymanagers/laws.FnExactConstants", spec := "fnExactConstants", apart := false, narrowed := true }
def FnExactConstantsUptoSaid : Prop := fnExactConstantsUptoRow.holds Try.pinned (OpenSpec.upto fnExactConstantsSpec)

/-- 'laws.FnExactClassSize', WHERE WHAT IT READS IS OF BULK AT MOST 1048576: true; the input reads as it did. -/
def fnExactClassSizeUptoRow : OpenClaim := { program := "ytgbeannjoajenaa", sum := "cca1b2cf99e1831b91a13bea1ce87f7edfaaac96be795b75734351bdef9009a5", func := "loop.example/memorymanagers/laws.FnExactClassSize", spec := "fnExactClassSize", apart := false, narrowed := true }
def FnExactClassSizeUptoSaid : Prop := fnExactClassSizeUptoRow.holds Try.pinned (OpenSpec.upto fnExactClassSizeSpec)

/-- 'laws.FnExactSlabValid', WHERE WHAT IT READS IS OF BULK AT MOST 1048576: true; the input reads as it did. -/
def fnExactSlabValidUptoRow : OpenClaim := { program := "ytgbeannjoajenaa", sum := "cca1b2cf99e1831b91a13bea1ce87f7edfaaac96be795b75734351bdef9009a5", func := "loop.example/memorymanagers/laws.FnExactSlabValid", spec := "fnExactSlabValid", apart := false, narrowed := true }
def FnExactSlabValidUptoSaid : Prop := fnExactSlabValidUptoRow.holds Try.pinned (OpenSpec.upto fnExactSlabValidSpec)

/-- 'laws.FnExactClassFor', WHERE WHAT IT READS IS OF BULK AT MOST 1048576: true; the input reads as it did. -/
def fnExactClassForUptoRow : OpenClaim := { program := "ytgbeannjoajenaa", sum := "cca1b2cf99e1831b91a13bea1ce87f7edfaaac96be795b75734351bdef9009a5", func := "loop.example/memorymanagers/laws.FnExactClassFor", spec := "fnExactClassFor", apart := false, narrowed := true }
def FnExactClassForUptoSaid : Prop := fnExactClassForUptoRow.holds Try.pinned (OpenSpec.upto fnExactClassForSpec)

/-- 'laws.FnExactSlabGive', WHERE WHAT IT READS IS OF BULK AT MOST 1048576: true; the input reads as it did. -/
def fnExactSlabGiveUptoRow : OpenClaim := { program := "ytgbeannjoajenaa", sum := "cca1b2cf99e1831b91a13bea1ce87f7edfaaac96be795b75734351bdef9009a5", func := "loop.example/memorymanagers/laws.FnExactSlabGive", spec := "fnExactSlabGive", apart := false, narrowed := true }
def FnExactSlabGiveUptoSaid : Prop := fnExactSlabGiveUptoRow.holds Try.pinned (OpenSpec.upto fnExactSlabGiveSpec)

/-- 'laws.FnExactSlabWaste', WHERE WHAT IT READS IS OF BULK AT MOST 1048576: true; the input reads as it did. -/
def fnExactSlabWasteUptoRow : OpenClaim := { program := "ytgbeannjoajenaa", sum := "cca1b2cf99e1831b91a13bea1ce87f7edfaaac96be795b75734351bdef9009a5", func := "loop.example/memorymanagers/laws.FnExactSlabWaste", spec := "fnExactSlabWaste", apart := false, narrowed := true }
def FnExactSlabWasteUptoSaid : Prop := fnExactSlabWasteUptoRow.holds Try.pinned (OpenSpec.upto fnExactSlabWasteSpec)

/-- 'laws.FnClassSize', WHERE WHAT IT READS IS OF BULK AT MOST 1048576: true; the input reads as it did. -/
def fnClassSizeUptoRow : OpenClaim := { program := "ytgbeannjoajenaa", sum := "cca1b2cf99e1831b91a13bea1ce87f7edfaaac96be795b75734351bdef9009a5", func := "loop.example/memorymanagers/laws.FnClassSize", spec := "fnClassSize", apart := false, narrowed := true }
def FnClassSizeUptoSaid : Prop := fnClassSizeUptoRow.holds Try.pinned (OpenSpec.upto fnClassSizeSpec)

/-- 'laws.FnSlabValid', WHERE WHAT IT READS IS OF BULK AT MOST 1048576: true; the input reads as it did. -/
def fnSlabValidUptoRow : OpenClaim := { program := "ytgbeannjoajenaa", sum := "cca1b2cf99e1831b91a13bea1ce87f7edfaaac96be795b75734351bdef9009a5", func := "loop.example/memorymanagers/laws.FnSlabValid", spec := "fnSlabValid", apart := false, narrowed := true }
def FnSlabValidUptoSaid : Prop := fnSlabValidUptoRow.holds Try.pinned (OpenSpec.upto fnSlabValidSpec)

/-- 'laws.FnClassFor', WHERE WHAT IT READS IS OF BULK AT MOST 1048576: true; the input reads as it did. -/
def fnClassForUptoRow : OpenClaim := { program := "ytgbeannjoajenaa", sum := "cca1b2cf99e1831b91a13bea1ce87f7edfaaac96be795b75734351bdef9009a5", func := "loop.example/memorymanagers/laws.FnClassFor", spec := "fnClassFor", apart := false, narrowed := true }
def FnClassForUptoSaid : Prop := fnClassForUptoRow.holds Try.pinned (OpenSpec.upto fnClassForSpec)

/-- 'laws.FnSlabGive', WHERE WHAT IT READS IS OF BULK AT MOST 1048576: true; the input reads as it did. -/
def fnSlabGiveUptoRow : OpenClaim := { program := "ytgbeannjoajenaa", sum := "cca1b2cf99e1831b91a13bea1ce87f7edfaaac96be795b75734351bdef9009a5", func := "loop.example/memorymanagers/laws.FnSlabGive", spec := "fnSlabGive", apart := false, narrowed := true }
def FnSlabGiveUptoSaid : Prop := fnSlabGiveUptoRow.holds Try.pinned (OpenSpec.upto fnSlabGiveSpec)

/-- 'laws.FnSlabWaste', WHERE WHAT IT READS IS OF BULK AT MOST 1048576: true; the input reads as it did. -/
def fnSlabWasteUptoRow : OpenClaim := { program := "ytgbeannjoajenaa", sum := "cca1b2cf99e1831b91a13bea1ce87f7edfaaac96be795b75734351bdef9009a5", func := "loop.example/memorymanagers/laws.FnSlabWaste", spec := "fnSlabWaste", apart := false, narrowed := true }
def FnSlabWasteUptoSaid : Prop := fnSlabWasteUptoRow.holds Try.pinned (OpenSpec.upto fnSlabWasteSpec)

end Rows
end Go.Proofs.Ytgbeannjoajenaa
