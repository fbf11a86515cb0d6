/-
  DERIVED. GIVEN WITH THE SEED: THE CARDS: each row of YtonblcbpoilndaaGreatDoorRows.lean that lists a variable, with what it lists TIED to the program's text (the seventh form; the later family's looks); each row that meets fmt, with fmt's text TOLD by the authors' own Lean function (tested against real Go, not proved from fmt's source: count such statements apart). THE CARD IS WHAT COUNTS. Prove the row's statement (the work); the ties are given (YtonblcbpoilndaaGreatDoorTie.lean); close each card by the builder's one call (the guide's Derived/Test/ToyasCard.lean, 'card_holds'). Laid BY PROGRAM, IN A SANDBOX (cutbox-door.mjs). By AI agents, Wed Nov 11 2026. No macro, syntax, notation, axiom, sorry.
-/
import Derived.Test.YtonblcbpoilndaaGreatDoorRows
import GoSem.ClaimSeven
namespace Go.Proofs.YtonblcbpoilndaaGreatDoor
namespace Rows

/-- THE TIED CARD OF 'purlinlaw05.SyntaxOwn'. -/
def syntaxOwnCard : Claim7 := { stood := { row := syntaxOwnRow, standIns := [], harness := (true, "f532b5eea04d7469ce3fa0894629a04710fbfe8bd16e0a9815e56affc4450be6"), looks := true }, kinds := [], alts := [], laidByText := true, laidKinds := [.data, .pinned], laidTests := true, laidLooks := .later }
def SyntaxOwnCardSaid : Prop := Claim7.holds Tryz.pinned (.plain (OpenSpec.ofChange syntaxOwnSpec)) syntaxOwnCard

/-- THE TIED CARD OF 'purlinlaw13.DiffChooses'. -/
def diffChoosesCard : Claim7 := { stood := { row := diffChoosesRow, standIns := [], harness := (true, "f532b5eea04d7469ce3fa0894629a04710fbfe8bd16e0a9815e56affc4450be6"), looks := true }, kinds := [], alts := [], laidByText := true, laidKinds := [.data, .data, .data, .sentinel, .sentinel], laidTests := true, laidLooks := .later }
def DiffChoosesCardSaid : Prop := Claim7.holds Tryz.pinned (.plain (OpenSpec.ofChange diffChoosesSpec)) diffChoosesCard

/-- THE TIED CARD OF 'purlinlaw13.DiffTurned'. -/
def diffTurnedCard : Claim7 := { stood := { row := diffTurnedRow, standIns := [], harness := (true, "f532b5eea04d7469ce3fa0894629a04710fbfe8bd16e0a9815e56affc4450be6"), looks := true }, kinds := [], alts := [], laidByText := true, laidKinds := [.data, .data, .data, .sentinel, .sentinel], laidTests := true, laidLooks := .later }
def DiffTurnedCardSaid : Prop := Claim7.holds Tryz.pinned (.plain (OpenSpec.ofChange diffTurnedSpec)) diffTurnedCard

/-- THE TIED CARD OF 'purlinlaw13.DiffOne'. -/
def diffOneCard : Claim7 := { stood := { row := diffOneRow, standIns := [], harness := (true, "f532b5eea04d7469ce3fa0894629a04710fbfe8bd16e0a9815e56affc4450be6"), looks := true }, kinds := [], alts := [], laidByText := true, laidKinds := [.data, .data, .data, .sentinel, .sentinel], laidTests := true, laidLooks := .later }
def DiffOneCardSaid : Prop := Claim7.holds Tryz.pinned (.plain (OpenSpec.ofChange diffOneSpec)) diffOneCard

/-- THE SECOND FORM's CARD OF 'purlinlaw05.SyntaxOwn'. -/
def syntaxOwnUptoCard : Claim7 := { stood := { row := syntaxOwnUptoRow, standIns := [], harness := (true, "f532b5eea04d7469ce3fa0894629a04710fbfe8bd16e0a9815e56affc4450be6"), looks := true }, kinds := [], alts := [], laidByText := true, laidKinds := [.data, .pinned], laidTests := true, laidLooks := .later }
def SyntaxOwnUptoCardSaid : Prop := Claim7.holds Tryz.pinned (.plain (OpenSpec.upto syntaxOwnSpec)) syntaxOwnUptoCard

/-- THE SECOND FORM's CARD OF 'purlinlaw13.DiffChooses'. -/
def diffChoosesUptoCard : Claim7 := { stood := { row := diffChoosesUptoRow, standIns := [], harness := (true, "f532b5eea04d7469ce3fa0894629a04710fbfe8bd16e0a9815e56affc4450be6"), looks := true }, kinds := [], alts := [], laidByText := true, laidKinds := [.data, .data, .data, .sentinel, .sentinel], laidTests := true, laidLooks := .later }
def DiffChoosesUptoCardSaid : Prop := Claim7.holds Tryz.pinned (.plain (OpenSpec.upto diffChoosesSpec)) diffChoosesUptoCard

/-- THE SECOND FORM's CARD OF 'purlinlaw13.DiffTurned'. -/
def diffTurnedUptoCard : Claim7 := { stood := { row := diffTurnedUptoRow, standIns := [], harness := (true, "f532b5eea04d7469ce3fa0894629a04710fbfe8bd16e0a9815e56affc4450be6"), looks := true }, kinds := [], alts := [], laidByText := true, laidKinds := [.data, .data, .data, .sentinel, .sentinel], laidTests := true, laidLooks := .later }
def DiffTurnedUptoCardSaid : Prop := Claim7.holds Tryz.pinned (.plain (OpenSpec.upto diffTurnedSpec)) diffTurnedUptoCard

/-- THE SECOND FORM's CARD OF 'purlinlaw13.DiffOne'. -/
def diffOneUptoCard : Claim7 := { stood := { row := diffOneUptoRow, standIns := [], harness := (true, "f532b5eea04d7469ce3fa0894629a04710fbfe8bd16e0a9815e56affc4450be6"), looks := true }, kinds := [], alts := [], laidByText := true, laidKinds := [.data, .data, .data, .sentinel, .sentinel], laidTests := true, laidLooks := .later }
def DiffOneUptoCardSaid : Prop := Claim7.holds Tryz.pinned (.plain (OpenSpec.upto diffOneSpec)) diffOneUptoCard
end Rows
end Go.Proofs.YtonblcbpoilndaaGreatDoor
