/-
  DERIVED. GIVEN WITH THE SEED: THE CARDS: each row of YtkgaajploobjdaaDoorRows.lean that lists a variable, with what it lists TIED to the program's text (the seventh form; the later family's looks); each row that meets fmt, with fmt's text TOLD by the authors' own Lean function (tested against real Go, not proved from fmt's source: count such statements apart). THE CARD IS WHAT COUNTS. Prove the row's statement (the work); the ties are given (YtkgaajploobjdaaDoorTie.lean); close each card by the builder's one call (the guide's Derived/Test/ToyasCard.lean, 'card_holds'). Laid BY PROGRAM, IN A SANDBOX (cutbox-door.mjs). By AI agents, Wed Nov 11 2026. No macro, syntax, notation, axiom, sorry.
-/
import Derived.Test.YtkgaajploobjdaaDoorRows
import GoSem.ClaimSeven
namespace Go.Proofs.YtkgaajploobjdaaDoor
namespace Rows

/-- THE TIED CARD OF 'laws.FnExactBitsLongest'. -/
def fnExactBitsLongestCard : Claim7 := { stood := { row := fnExactBitsLongestRow, standIns := [], harness := (true, "9972ca80cac9c914d96f0bf704daa2258bcd1560df9c97d470e09c261156e281"), looks := false }, kinds := [], alts := [], laidByText := true, laidKinds := [.data], laidTests := true, laidLooks := .later }
def FnExactBitsLongestCardSaid : Prop := Claim7.holds Tryd.pinned (.plain (OpenSpec.ofChange fnExactBitsLongestSpec)) fnExactBitsLongestCard

/-- THE TIED CARD OF 'laws.FnBitsLongest'. -/
def fnBitsLongestCard : Claim7 := { stood := { row := fnBitsLongestRow, standIns := [], harness := (true, "9972ca80cac9c914d96f0bf704daa2258bcd1560df9c97d470e09c261156e281"), looks := false }, kinds := [], alts := [], laidByText := true, laidKinds := [.data], laidTests := true, laidLooks := .later }
def FnBitsLongestCardSaid : Prop := Claim7.holds Tryd.pinned (.plain (OpenSpec.ofChange fnBitsLongestSpec)) fnBitsLongestCard

/-- THE TIED CARD OF 'laws.FnBitsFind'. -/
def fnBitsFindCard : Claim7 := { stood := { row := fnBitsFindRow, standIns := [], harness := (true, "9972ca80cac9c914d96f0bf704daa2258bcd1560df9c97d470e09c261156e281"), looks := false }, kinds := [], alts := [], laidByText := true, laidKinds := [.data], laidTests := true, laidLooks := .later }
def FnBitsFindCardSaid : Prop := Claim7.holds Tryd.pinned (.plain (OpenSpec.ofChange fnBitsFindSpec)) fnBitsFindCard

/-- THE SECOND FORM's CARD OF 'laws.FnExactBitsLongest'. -/
def fnExactBitsLongestUptoCard : Claim7 := { stood := { row := fnExactBitsLongestUptoRow, standIns := [], harness := (true, "9972ca80cac9c914d96f0bf704daa2258bcd1560df9c97d470e09c261156e281"), looks := false }, kinds := [], alts := [], laidByText := true, laidKinds := [.data], laidTests := true, laidLooks := .later }
def FnExactBitsLongestUptoCardSaid : Prop := Claim7.holds Tryd.pinned (.plain (OpenSpec.upto fnExactBitsLongestSpec)) fnExactBitsLongestUptoCard

/-- THE SECOND FORM's CARD OF 'laws.FnBitsLongest'. -/
def fnBitsLongestUptoCard : Claim7 := { stood := { row := fnBitsLongestUptoRow, standIns := [], harness := (true, "9972ca80cac9c914d96f0bf704daa2258bcd1560df9c97d470e09c261156e281"), looks := false }, kinds := [], alts := [], laidByText := true, laidKinds := [.data], laidTests := true, laidLooks := .later }
def FnBitsLongestUptoCardSaid : Prop := Claim7.holds Tryd.pinned (.plain (OpenSpec.upto fnBitsLongestSpec)) fnBitsLongestUptoCard

/-- THE SECOND FORM's CARD OF 'laws.FnBitsFind'. -/
def fnBitsFindUptoCard : Claim7 := { stood := { row := fnBitsFindUptoRow, standIns := [], harness := (true, "9972ca80cac9c914d96f0bf704daa2258bcd1560df9c97d470e09c261156e281"), looks := false }, kinds := [], alts := [], laidByText := true, laidKinds := [.data], laidTests := true, laidLooks := .later }
def FnBitsFindUptoCardSaid : Prop := Claim7.holds Tryd.pinned (.plain (OpenSpec.upto fnBitsFindSpec)) fnBitsFindUptoCard
end Rows
end Go.Proofs.YtkgaajploobjdaaDoor
