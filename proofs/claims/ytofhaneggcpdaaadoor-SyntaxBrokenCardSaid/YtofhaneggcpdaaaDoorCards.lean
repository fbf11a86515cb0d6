/-
  DERIVED. GIVEN WITH THE SEED: THE CARDS: each row of YtofhaneggcpdaaaDoorRows.lean that lists a variable, with what it lists TIED to the program's text (the seventh form; the later family's looks); each row that meets fmt, with fmt's text TOLD by the authors' own Lean function (tested against real Go, not proved from fmt's source: count such statements apart). THE CARD IS WHAT COUNTS. Prove the row's statement (the work); the ties are given (YtofhaneggcpdaaaDoorTie.lean); close each card by the builder's one call (the guide's Derived/Test/ToyasCard.lean, 'card_holds'). Laid BY PROGRAM, IN A SANDBOX (cutbox-door.mjs). By AI agents, Wed Nov 11 2026. No macro, syntax, notation, axiom, sorry.
-/
import Derived.Test.YtofhaneggcpdaaaDoorRows
import GoSem.ClaimSeven
namespace Go.Proofs.YtofhaneggcpdaaaDoor
namespace Rows

/-- THE TIED CARD OF 'purlinlaw05.SyntaxForms'. -/
def syntaxFormsCard : Claim7 := { stood := { row := syntaxFormsRow, standIns := [], harness := (true, "de4e27af6678fe4588f8248da52dd59226d1397ebe78c9eb42293c0de61a8f95"), looks := true }, kinds := [], alts := [], laidByText := true, laidKinds := [.data, .pinned], laidTests := true, laidLooks := .later }
def SyntaxFormsCardSaid : Prop := Claim7.holds Tryd.pinned (.plain (OpenSpec.ofChange syntaxFormsSpec)) syntaxFormsCard

/-- THE TIED CARD OF 'purlinlaw05.SyntaxDeep'. -/
def syntaxDeepCard : Claim7 := { stood := { row := syntaxDeepRow, standIns := [], harness := (true, "de4e27af6678fe4588f8248da52dd59226d1397ebe78c9eb42293c0de61a8f95"), looks := true }, kinds := [], alts := [], laidByText := true, laidKinds := [.data, .pinned], laidTests := true, laidLooks := .later }
def SyntaxDeepCardSaid : Prop := Claim7.holds Tryd.pinned (.plain (OpenSpec.ofChange syntaxDeepSpec)) syntaxDeepCard

/-- THE TIED CARD OF 'purlinlaw05.SyntaxJoined'. -/
def syntaxJoinedCard : Claim7 := { stood := { row := syntaxJoinedRow, standIns := [], harness := (true, "de4e27af6678fe4588f8248da52dd59226d1397ebe78c9eb42293c0de61a8f95"), looks := true }, kinds := [], alts := [], laidByText := true, laidKinds := [.data, .pinned], laidTests := true, laidLooks := .later }
def SyntaxJoinedCardSaid : Prop := Claim7.holds Tryd.pinned (.plain (OpenSpec.ofChange syntaxJoinedSpec)) syntaxJoinedCard

/-- THE TIED CARD OF 'purlinlaw05.SyntaxBinds'. -/
def syntaxBindsCard : Claim7 := { stood := { row := syntaxBindsRow, standIns := [], harness := (true, "de4e27af6678fe4588f8248da52dd59226d1397ebe78c9eb42293c0de61a8f95"), looks := true }, kinds := [], alts := [], laidByText := true, laidKinds := [.data, .pinned], laidTests := true, laidLooks := .later }
def SyntaxBindsCardSaid : Prop := Claim7.holds Tryd.pinned (.plain (OpenSpec.ofChange syntaxBindsSpec)) syntaxBindsCard

/-- THE TIED CARD OF 'purlinlaw05.SyntaxBroken'. -/
def syntaxBrokenCard : Claim7 := { stood := { row := syntaxBrokenRow, standIns := [], harness := (true, "de4e27af6678fe4588f8248da52dd59226d1397ebe78c9eb42293c0de61a8f95"), looks := true }, kinds := [], alts := [], laidByText := true, laidKinds := [.data, .pinned], laidTests := true, laidLooks := .later }
def SyntaxBrokenCardSaid : Prop := Claim7.holds Tryd.pinned (.plain (OpenSpec.ofChange syntaxBrokenSpec)) syntaxBrokenCard

/-- THE SECOND FORM's CARD OF 'purlinlaw05.SyntaxForms'. -/
def syntaxFormsUptoCard : Claim7 := { stood := { row := syntaxFormsUptoRow, standIns := [], harness := (true, "de4e27af6678fe4588f8248da52dd59226d1397ebe78c9eb42293c0de61a8f95"), looks := true }, kinds := [], alts := [], laidByText := true, laidKinds := [.data, .pinned], laidTests := true, laidLooks := .later }
def SyntaxFormsUptoCardSaid : Prop := Claim7.holds Tryd.pinned (.plain (OpenSpec.upto syntaxFormsSpec)) syntaxFormsUptoCard

/-- THE SECOND FORM's CARD OF 'purlinlaw05.SyntaxDeep'. -/
def syntaxDeepUptoCard : Claim7 := { stood := { row := syntaxDeepUptoRow, standIns := [], harness := (true, "de4e27af6678fe4588f8248da52dd59226d1397ebe78c9eb42293c0de61a8f95"), looks := true }, kinds := [], alts := [], laidByText := true, laidKinds := [.data, .pinned], laidTests := true, laidLooks := .later }
def SyntaxDeepUptoCardSaid : Prop := Claim7.holds Tryd.pinned (.plain (OpenSpec.upto syntaxDeepSpec)) syntaxDeepUptoCard

/-- THE SECOND FORM's CARD OF 'purlinlaw05.SyntaxJoined'. -/
def syntaxJoinedUptoCard : Claim7 := { stood := { row := syntaxJoinedUptoRow, standIns := [], harness := (true, "de4e27af6678fe4588f8248da52dd59226d1397ebe78c9eb42293c0de61a8f95"), looks := true }, kinds := [], alts := [], laidByText := true, laidKinds := [.data, .pinned], laidTests := true, laidLooks := .later }
def SyntaxJoinedUptoCardSaid : Prop := Claim7.holds Tryd.pinned (.plain (OpenSpec.upto syntaxJoinedSpec)) syntaxJoinedUptoCard

/-- THE SECOND FORM's CARD OF 'purlinlaw05.SyntaxBinds'. -/
def syntaxBindsUptoCard : Claim7 := { stood := { row := syntaxBindsUptoRow, standIns := [], harness := (true, "de4e27af6678fe4588f8248da52dd59226d1397ebe78c9eb42293c0de61a8f95"), looks := true }, kinds := [], alts := [], laidByText := true, laidKinds := [.data, .pinned], laidTests := true, laidLooks := .later }
def SyntaxBindsUptoCardSaid : Prop := Claim7.holds Tryd.pinned (.plain (OpenSpec.upto syntaxBindsSpec)) syntaxBindsUptoCard

/-- THE SECOND FORM's CARD OF 'purlinlaw05.SyntaxBroken'. -/
def syntaxBrokenUptoCard : Claim7 := { stood := { row := syntaxBrokenUptoRow, standIns := [], harness := (true, "de4e27af6678fe4588f8248da52dd59226d1397ebe78c9eb42293c0de61a8f95"), looks := true }, kinds := [], alts := [], laidByText := true, laidKinds := [.data, .pinned], laidTests := true, laidLooks := .later }
def SyntaxBrokenUptoCardSaid : Prop := Claim7.holds Tryd.pinned (.plain (OpenSpec.upto syntaxBrokenSpec)) syntaxBrokenUptoCard
end Rows
end Go.Proofs.YtofhaneggcpdaaaDoor
