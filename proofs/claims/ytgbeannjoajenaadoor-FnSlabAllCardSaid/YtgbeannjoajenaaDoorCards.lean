/-
  DERIVED. GIVEN WITH THE SEED: THE CARDS: each row of YtgbeannjoajenaaDoorRows.lean that lists a variable, with what it lists TIED to the program's text (the seventh form; the later family's looks); each row that meets fmt, with fmt's text TOLD by the authors' own Lean function (tested against real Go, not proved from fmt's source: count such statements apart). THE CARD IS WHAT COUNTS. Prove the row's statement (the work); the ties are given (YtgbeannjoajenaaDoorTie.lean); close each card by the builder's one call (the guide's Derived/Test/ToyasCard.lean, 'card_holds'). Laid BY PROGRAM, IN A SANDBOX (cutbox-door.mjs). By AI agents, Wed Nov 11 2026. No macro, syntax, notation, axiom, sorry.
-/
import Derived.Test.YtgbeannjoajenaaDoorRows
import GoSem.ClaimSeven
namespace Go.Proofs.YtgbeannjoajenaaDoor
namespace Rows

/-- THE TIED CARD OF 'laws.FnExactSlabTake'. -/
def fnExactSlabTakeCard : Claim7 := { stood := { row := fnExactSlabTakeRow, standIns := [], harness := (true, "9fa6aa83fb2ba8e27e98bec89b0a0c54f954a7b863547fdcca104ffe4fe997e0"), looks := false }, kinds := [], alts := [], laidByText := true, laidKinds := [.data, .data], laidTests := true, laidLooks := .later }
def FnExactSlabTakeCardSaid : Prop := Claim7.holds Tryd.pinned (.plain (OpenSpec.ofChange fnExactSlabTakeSpec)) fnExactSlabTakeCard

/-- THE TIED CARD OF 'laws.FnSlabAll'. -/
def fnSlabAllCard : Claim7 := { stood := { row := fnSlabAllRow, standIns := [], harness := (true, "9fa6aa83fb2ba8e27e98bec89b0a0c54f954a7b863547fdcca104ffe4fe997e0"), looks := false }, kinds := [], alts := [], laidByText := true, laidKinds := [.data, .data], laidTests := true, laidLooks := .later }
def FnSlabAllCardSaid : Prop := Claim7.holds Tryd.pinned (.plain (OpenSpec.ofChange fnSlabAllSpec)) fnSlabAllCard

/-- THE TIED CARD OF 'laws.FnSlabTake'. -/
def fnSlabTakeCard : Claim7 := { stood := { row := fnSlabTakeRow, standIns := [], harness := (true, "9fa6aa83fb2ba8e27e98bec89b0a0c54f954a7b863547fdcca104ffe4fe997e0"), looks := false }, kinds := [], alts := [], laidByText := true, laidKinds := [.data, .data], laidTests := true, laidLooks := .later }
def FnSlabTakeCardSaid : Prop := Claim7.holds Tryd.pinned (.plain (OpenSpec.ofChange fnSlabTakeSpec)) fnSlabTakeCard

/-- THE SECOND FORM's CARD OF 'laws.FnExactSlabTake'. -/
def fnExactSlabTakeUptoCard : Claim7 := { stood := { row := fnExactSlabTakeUptoRow, standIns := [], harness := (true, "9fa6aa83fb2ba8e27e98bec89b0a0c54f954a7b863547fdcca104ffe4fe997e0"), looks := false }, kinds := [], alts := [], laidByText := true, laidKinds := [.data, .data], laidTests := true, laidLooks := .later }
def FnExactSlabTakeUptoCardSaid : Prop := Claim7.holds Tryd.pinned (.plain (OpenSpec.upto fnExactSlabTakeSpec)) fnExactSlabTakeUptoCard

/-- THE SECOND FORM's CARD OF 'laws.FnSlabAll'. -/
def fnSlabAllUptoCard : Claim7 := { stood := { row := fnSlabAllUptoRow, standIns := [], harness := (true, "9fa6aa83fb2ba8e27e98bec89b0a0c54f954a7b863547fdcca104ffe4fe997e0"), looks := false }, kinds := [], alts := [], laidByText := true, laidKinds := [.data, .data], laidTests := true, laidLooks := .later }
def FnSlabAllUptoCardSaid : Prop := Claim7.holds Tryd.pinned (.plain (OpenSpec.upto fnSlabAllSpec)) fnSlabAllUptoCard

/-- THE SECOND FORM's CARD OF 'laws.FnSlabTake'. -/
def fnSlabTakeUptoCard : Claim7 := { stood := { row := fnSlabTakeUptoRow, standIns := [], harness := (true, "9fa6aa83fb2ba8e27e98bec89b0a0c54f954a7b863547fdcca104ffe4fe997e0"), looks := false }, kinds := [], alts := [], laidByText := true, laidKinds := [.data, .data], laidTests := true, laidLooks := .later }
def FnSlabTakeUptoCardSaid : Prop := Claim7.holds Tryd.pinned (.plain (OpenSpec.upto fnSlabTakeSpec)) fnSlabTakeUptoCard
end Rows
end Go.Proofs.YtgbeannjoajenaaDoor
