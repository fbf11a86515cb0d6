/-
  DERIVED. GIVEN WITH THE SEED: THE CARDS: each row of YtofhaneggcpdaaaGreatDoorRows.lean that lists a variable, with what it lists TIED to the program's text (the seventh form; the later family's looks); each row that meets fmt, with fmt's text TOLD by the authors' own Lean function (tested against real Go, not proved from fmt's source: count such statements apart). THE CARD IS WHAT COUNTS. Prove the row's statement (the work); the ties are given (YtofhaneggcpdaaaGreatDoorTie.lean); close each card by the builder's one call (the guide's Derived/Test/ToyasCard.lean, 'card_holds'). Laid BY PROGRAM, IN A SANDBOX (cutbox-door.mjs). By AI agents, Wed Nov 11 2026. No macro, syntax, notation, axiom, sorry.
-/
import Derived.Test.YtofhaneggcpdaaaGreatDoorRows
import GoSem.ClaimSeven
namespace Go.Proofs.YtofhaneggcpdaaaGreatDoor
namespace Rows

/-- THE TIED CARD OF 'purlinlaw05.SyntaxOwn'. -/
def syntaxOwnCard : Claim7 := { stood := { row := syntaxOwnRow, standIns := [], harness := (true, "6ac75fdb0489c913de43be3ce386b5bad379bb749c9657d7de3a2b7db2d74f12"), looks := true }, kinds := [], alts := [], laidByText := true, laidKinds := [.data, .pinned], laidTests := true, laidLooks := .later }
def SyntaxOwnCardSaid : Prop := Claim7.holds Tryz.pinned (.plain (OpenSpec.ofChange syntaxOwnSpec)) syntaxOwnCard

/-- THE TIED CARD OF 'purlinlaw06.ShowBack'. -/
def showBackCard : Claim7 := { stood := { row := showBackRow, standIns := [], harness := (true, "6ac75fdb0489c913de43be3ce386b5bad379bb749c9657d7de3a2b7db2d74f12"), looks := true }, kinds := [], alts := [], laidByText := true, laidKinds := [.data, .pinned], laidTests := true, laidLooks := .later }
def ShowBackCardSaid : Prop := Claim7.holds Tryz.pinned (.plain (OpenSpec.ofChange showBackSpec)) showBackCard

/-- THE TIED CARD OF 'purlinlaw06.ShowPlain'. -/
def showPlainCard : Claim7 := { stood := { row := showPlainRow, standIns := [], harness := (true, "6ac75fdb0489c913de43be3ce386b5bad379bb749c9657d7de3a2b7db2d74f12"), looks := true }, kinds := [], alts := [], laidByText := true, laidKinds := [.data, .pinned], laidTests := true, laidLooks := .later }
def ShowPlainCardSaid : Prop := Claim7.holds Tryz.pinned (.plain (OpenSpec.ofChange showPlainSpec)) showPlainCard

/-- THE TIED CARD OF 'purlinlaw06.ShowLines'. -/
def showLinesCard : Claim7 := { stood := { row := showLinesRow, standIns := [], harness := (true, "6ac75fdb0489c913de43be3ce386b5bad379bb749c9657d7de3a2b7db2d74f12"), looks := true }, kinds := [], alts := [], laidByText := true, laidKinds := [.data, .pinned], laidTests := true, laidLooks := .later }
def ShowLinesCardSaid : Prop := Claim7.holds Tryz.pinned (.plain (OpenSpec.ofChange showLinesSpec)) showLinesCard

/-- THE SECOND FORM's CARD OF 'purlinlaw05.SyntaxOwn'. -/
def syntaxOwnUptoCard : Claim7 := { stood := { row := syntaxOwnUptoRow, standIns := [], harness := (true, "6ac75fdb0489c913de43be3ce386b5bad379bb749c9657d7de3a2b7db2d74f12"), looks := true }, kinds := [], alts := [], laidByText := true, laidKinds := [.data, .pinned], laidTests := true, laidLooks := .later }
def SyntaxOwnUptoCardSaid : Prop := Claim7.holds Tryz.pinned (.plain (OpenSpec.upto syntaxOwnSpec)) syntaxOwnUptoCard

/-- THE SECOND FORM's CARD OF 'purlinlaw06.ShowBack'. -/
def showBackUptoCard : Claim7 := { stood := { row := showBackUptoRow, standIns := [], harness := (true, "6ac75fdb0489c913de43be3ce386b5bad379bb749c9657d7de3a2b7db2d74f12"), looks := true }, kinds := [], alts := [], laidByText := true, laidKinds := [.data, .pinned], laidTests := true, laidLooks := .later }
def ShowBackUptoCardSaid : Prop := Claim7.holds Tryz.pinned (.plain (OpenSpec.upto showBackSpec)) showBackUptoCard

/-- THE SECOND FORM's CARD OF 'purlinlaw06.ShowPlain'. -/
def showPlainUptoCard : Claim7 := { stood := { row := showPlainUptoRow, standIns := [], harness := (true, "6ac75fdb0489c913de43be3ce386b5bad379bb749c9657d7de3a2b7db2d74f12"), looks := true }, kinds := [], alts := [], laidByText := true, laidKinds := [.data, .pinned], laidTests := true, laidLooks := .later }
def ShowPlainUptoCardSaid : Prop := Claim7.holds Tryz.pinned (.plain (OpenSpec.upto showPlainSpec)) showPlainUptoCard

/-- THE SECOND FORM's CARD OF 'purlinlaw06.ShowLines'. -/
def showLinesUptoCard : Claim7 := { stood := { row := showLinesUptoRow, standIns := [], harness := (true, "6ac75fdb0489c913de43be3ce386b5bad379bb749c9657d7de3a2b7db2d74f12"), looks := true }, kinds := [], alts := [], laidByText := true, laidKinds := [.data, .pinned], laidTests := true, laidLooks := .later }
def ShowLinesUptoCardSaid : Prop := Claim7.holds Tryz.pinned (.plain (OpenSpec.upto showLinesSpec)) showLinesUptoCard
end Rows
end Go.Proofs.YtofhaneggcpdaaaGreatDoor
