/-
  DERIVED. GIVEN WITH THE SEED: THE CARDS: each row of YtghhmpppnmoeoaaGreatDoorRows.lean that lists a variable, with what it lists TIED to the program's text (the seventh form; the later family's looks); each row that meets fmt, with fmt's text TOLD by the authors' own Lean function (tested against real Go, not proved from fmt's source: count such statements apart). THE CARD IS WHAT COUNTS. Prove the row's statement (the work); the ties are given (YtghhmpppnmoeoaaGreatDoorTie.lean); close each card by the builder's one call (the guide's Derived/Test/ToyasCard.lean, 'card_holds'). Laid BY PROGRAM, IN A SANDBOX (cutbox-door.mjs). By AI agents, Wed Nov 11 2026. No macro, syntax, notation, axiom, sorry.
-/
import Derived.Test.YtghhmpppnmoeoaaGreatDoorRows
import GoSem.ClaimSeven
namespace Go.Proofs.YtghhmpppnmoeoaaGreatDoor
namespace Rows

/-- THE TIED CARD OF 'purlinlaw08.EvalUnknown'. -/
def evalUnknownCard : Claim7 := { stood := { row := evalUnknownRow, standIns := [], harness := (true, "444d8630809732e822d38121491340a8af66f5b7b4c1b82e822acb1f88bcdcf1"), looks := true }, kinds := [], alts := [], laidByText := true, laidKinds := [.data, .data, .data, .data, .sentinel, .sentinel, .pinned], laidTests := true, laidLooks := .later }
def EvalUnknownCardSaid : Prop := Claim7.holds Tryz.pinned (.plain (OpenSpec.ofChange evalUnknownSpec)) evalUnknownCard

/-- THE TIED CARD OF 'purlinlaw08.EvalNumbers'. -/
def evalNumbersCard : Claim7 := { stood := { row := evalNumbersRow, standIns := [], harness := (true, "444d8630809732e822d38121491340a8af66f5b7b4c1b82e822acb1f88bcdcf1"), looks := true }, kinds := [], alts := [], laidByText := true, laidKinds := [.data, .data, .data, .data, .sentinel, .sentinel, .pinned], laidTests := true, laidLooks := .later }
def EvalNumbersCardSaid : Prop := Claim7.holds Tryz.pinned (.plain (OpenSpec.ofChange evalNumbersSpec)) evalNumbersCard

/-- THE TIED CARD OF 'purlinlaw08.EvalShapes'. -/
def evalShapesCard : Claim7 := { stood := { row := evalShapesRow, standIns := [], harness := (true, "444d8630809732e822d38121491340a8af66f5b7b4c1b82e822acb1f88bcdcf1"), looks := true }, kinds := [], alts := [], laidByText := true, laidKinds := [.data, .data, .data, .data, .sentinel, .sentinel, .pinned], laidTests := true, laidLooks := .later }
def EvalShapesCardSaid : Prop := Claim7.holds Tryz.pinned (.plain (OpenSpec.ofChange evalShapesSpec)) evalShapesCard

/-- THE TIED CARD OF 'purlinlaw08.EvalSteps'. -/
def evalStepsCard : Claim7 := { stood := { row := evalStepsRow, standIns := [], harness := (true, "444d8630809732e822d38121491340a8af66f5b7b4c1b82e822acb1f88bcdcf1"), looks := true }, kinds := [], alts := [], laidByText := true, laidKinds := [.data, .data, .data, .data, .sentinel, .sentinel, .pinned], laidTests := true, laidLooks := .later }
def EvalStepsCardSaid : Prop := Claim7.holds Tryz.pinned (.plain (OpenSpec.ofChange evalStepsSpec)) evalStepsCard

/-- THE TIED CARD OF 'purlinlaw08.EvalLazy'. -/
def evalLazyCard : Claim7 := { stood := { row := evalLazyRow, standIns := [], harness := (true, "444d8630809732e822d38121491340a8af66f5b7b4c1b82e822acb1f88bcdcf1"), looks := true }, kinds := [], alts := [], laidByText := true, laidKinds := [.data, .data, .data, .data, .sentinel, .sentinel, .pinned], laidTests := true, laidLooks := .later }
def EvalLazyCardSaid : Prop := Claim7.holds Tryz.pinned (.plain (OpenSpec.ofChange evalLazySpec)) evalLazyCard

/-- THE TIED CARD OF 'purlinlaw08.EvalShown'. -/
def evalShownCard : Claim7 := { stood := { row := evalShownRow, standIns := [], harness := (true, "444d8630809732e822d38121491340a8af66f5b7b4c1b82e822acb1f88bcdcf1"), looks := true }, kinds := [], alts := [], laidByText := true, laidKinds := [.data, .data, .data, .data, .sentinel, .sentinel, .pinned], laidTests := true, laidLooks := .later }
def EvalShownCardSaid : Prop := Claim7.holds Tryz.pinned (.plain (OpenSpec.ofChange evalShownSpec)) evalShownCard

/-- THE SECOND FORM's CARD OF 'purlinlaw08.EvalUnknown'. -/
def evalUnknownUptoCard : Claim7 := { stood := { row := evalUnknownUptoRow, standIns := [], harness := (true, "444d8630809732e822d38121491340a8af66f5b7b4c1b82e822acb1f88bcdcf1"), looks := true }, kinds := [], alts := [], laidByText := true, laidKinds := [.data, .data, .data, .data, .sentinel, .sentinel, .pinned], laidTests := true, laidLooks := .later }
def EvalUnknownUptoCardSaid : Prop := Claim7.holds Tryz.pinned (.plain (OpenSpec.upto evalUnknownSpec)) evalUnknownUptoCard

/-- THE SECOND FORM's CARD OF 'purlinlaw08.EvalNumbers'. -/
def evalNumbersUptoCard : Claim7 := { stood := { row := evalNumbersUptoRow, standIns := [], harness := (true, "444d8630809732e822d38121491340a8af66f5b7b4c1b82e822acb1f88bcdcf1"), looks := true }, kinds := [], alts := [], laidByText := true, laidKinds := [.data, .data, .data, .data, .sentinel, .sentinel, .pinned], laidTests := true, laidLooks := .later }
def EvalNumbersUptoCardSaid : Prop := Claim7.holds Tryz.pinned (.plain (OpenSpec.upto evalNumbersSpec)) evalNumbersUptoCard

/-- THE SECOND FORM's CARD OF 'purlinlaw08.EvalShapes'. -/
def evalShapesUptoCard : Claim7 := { stood := { row := evalShapesUptoRow, standIns := [], harness := (true, "444d8630809732e822d38121491340a8af66f5b7b4c1b82e822acb1f88bcdcf1"), looks := true }, kinds := [], alts := [], laidByText := true, laidKinds := [.data, .data, .data, .data, .sentinel, .sentinel, .pinned], laidTests := true, laidLooks := .later }
def EvalShapesUptoCardSaid : Prop := Claim7.holds Tryz.pinned (.plain (OpenSpec.upto evalShapesSpec)) evalShapesUptoCard

/-- THE SECOND FORM's CARD OF 'purlinlaw08.EvalSteps'. -/
def evalStepsUptoCard : Claim7 := { stood := { row := evalStepsUptoRow, standIns := [], harness := (true, "444d8630809732e822d38121491340a8af66f5b7b4c1b82e822acb1f88bcdcf1"), looks := true }, kinds := [], alts := [], laidByText := true, laidKinds := [.data, .data, .data, .data, .sentinel, .sentinel, .pinned], laidTests := true, laidLooks := .later }
def EvalStepsUptoCardSaid : Prop := Claim7.holds Tryz.pinned (.plain (OpenSpec.upto evalStepsSpec)) evalStepsUptoCard

/-- THE SECOND FORM's CARD OF 'purlinlaw08.EvalLazy'. -/
def evalLazyUptoCard : Claim7 := { stood := { row := evalLazyUptoRow, standIns := [], harness := (true, "444d8630809732e822d38121491340a8af66f5b7b4c1b82e822acb1f88bcdcf1"), looks := true }, kinds := [], alts := [], laidByText := true, laidKinds := [.data, .data, .data, .data, .sentinel, .sentinel, .pinned], laidTests := true, laidLooks := .later }
def EvalLazyUptoCardSaid : Prop := Claim7.holds Tryz.pinned (.plain (OpenSpec.upto evalLazySpec)) evalLazyUptoCard

/-- THE SECOND FORM's CARD OF 'purlinlaw08.EvalShown'. -/
def evalShownUptoCard : Claim7 := { stood := { row := evalShownUptoRow, standIns := [], harness := (true, "444d8630809732e822d38121491340a8af66f5b7b4c1b82e822acb1f88bcdcf1"), looks := true }, kinds := [], alts := [], laidByText := true, laidKinds := [.data, .data, .data, .data, .sentinel, .sentinel, .pinned], laidTests := true, laidLooks := .later }
def EvalShownUptoCardSaid : Prop := Claim7.holds Tryz.pinned (.plain (OpenSpec.upto evalShownSpec)) evalShownUptoCard
end Rows
end Go.Proofs.YtghhmpppnmoeoaaGreatDoor
