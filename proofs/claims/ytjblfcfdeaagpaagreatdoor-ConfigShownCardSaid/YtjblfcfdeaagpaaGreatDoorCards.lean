/-
  DERIVED. GIVEN WITH THE SEED: THE CARDS: each row of YtjblfcfdeaagpaaGreatDoorRows.lean that lists a variable, with what it lists TIED to the program's text (the seventh form; the later family's looks); each row that meets fmt, with fmt's text TOLD by the authors' own Lean function (tested against real Go, not proved from fmt's source: count such statements apart). THE CARD IS WHAT COUNTS. Prove the row's statement (the work); the ties are given (YtjblfcfdeaagpaaGreatDoorTie.lean); close each card by the builder's one call (the guide's Derived/Test/ToyasCard.lean, 'card_holds'). Laid BY PROGRAM, IN A SANDBOX (cutbox-door.mjs). By AI agents, Wed Nov 11 2026. No macro, syntax, notation, axiom, sorry.
-/
import Derived.Test.YtjblfcfdeaagpaaGreatDoorRows
import GoSem.ClaimSeven
namespace Go.Proofs.YtjblfcfdeaagpaaGreatDoor
namespace Rows

/-- THE TIED CARD OF 'purlinlaw05.SyntaxOwn'. -/
def syntaxOwnCard : Claim7 := { stood := { row := syntaxOwnRow, standIns := [], harness := (true, "83bd0a6014872b2bd3064e56f8aeba35ceab7e9925014d7367ac7f02f102383f"), looks := true }, kinds := [], alts := [], laidByText := true, laidKinds := [.data, .pinned], laidTests := true, laidLooks := .later }
def SyntaxOwnCardSaid : Prop := Claim7.holds Tryz.pinned (.plain (OpenSpec.ofChange syntaxOwnSpec)) syntaxOwnCard

/-- THE TIED CARD OF 'purlinlaw06.ShowBack'. -/
def showBackCard : Claim7 := { stood := { row := showBackRow, standIns := [], harness := (true, "83bd0a6014872b2bd3064e56f8aeba35ceab7e9925014d7367ac7f02f102383f"), looks := true }, kinds := [], alts := [], laidByText := true, laidKinds := [.data, .pinned], laidTests := true, laidLooks := .later }
def ShowBackCardSaid : Prop := Claim7.holds Tryz.pinned (.plain (OpenSpec.ofChange showBackSpec)) showBackCard

/-- THE TIED CARD OF 'purlinlaw11.ConfigOnce'. -/
def configOnceCard : Claim7 := { stood := { row := configOnceRow, standIns := [], harness := (true, "83bd0a6014872b2bd3064e56f8aeba35ceab7e9925014d7367ac7f02f102383f"), looks := true }, kinds := [], alts := [], laidByText := true, laidKinds := [.data, .pinned], laidTests := true, laidLooks := .later }
def ConfigOnceCardSaid : Prop := Claim7.holds Tryz.pinned (.plain (OpenSpec.ofChange configOnceSpec)) configOnceCard

/-- THE TIED CARD OF 'purlinlaw11.ConfigDeep'. -/
def configDeepCard : Claim7 := { stood := { row := configDeepRow, standIns := [], harness := (true, "83bd0a6014872b2bd3064e56f8aeba35ceab7e9925014d7367ac7f02f102383f"), looks := true }, kinds := [], alts := [], laidByText := true, laidKinds := [.data, .pinned], laidTests := true, laidLooks := .later }
def ConfigDeepCardSaid : Prop := Claim7.holds Tryz.pinned (.plain (OpenSpec.ofChange configDeepSpec)) configDeepCard

/-- THE TIED CARD OF 'purlinlaw11.ConfigWide'. -/
def configWideCard : Claim7 := { stood := { row := configWideRow, standIns := [], harness := (true, "83bd0a6014872b2bd3064e56f8aeba35ceab7e9925014d7367ac7f02f102383f"), looks := true }, kinds := [], alts := [], laidByText := true, laidKinds := [.data, .pinned], laidTests := true, laidLooks := .later }
def ConfigWideCardSaid : Prop := Claim7.holds Tryz.pinned (.plain (OpenSpec.ofChange configWideSpec)) configWideCard

/-- THE TIED CARD OF 'purlinlaw11.ConfigApart'. -/
def configApartCard : Claim7 := { stood := { row := configApartRow, standIns := [], harness := (true, "83bd0a6014872b2bd3064e56f8aeba35ceab7e9925014d7367ac7f02f102383f"), looks := true }, kinds := [], alts := [], laidByText := true, laidKinds := [.data, .pinned], laidTests := true, laidLooks := .later }
def ConfigApartCardSaid : Prop := Claim7.holds Tryz.pinned (.plain (OpenSpec.ofChange configApartSpec)) configApartCard

/-- THE TIED CARD OF 'purlinlaw11.ConfigShown'. -/
def configShownCard : Claim7 := { stood := { row := configShownRow, standIns := [], harness := (true, "83bd0a6014872b2bd3064e56f8aeba35ceab7e9925014d7367ac7f02f102383f"), looks := true }, kinds := [], alts := [], laidByText := true, laidKinds := [.data, .pinned], laidTests := true, laidLooks := .later }
def ConfigShownCardSaid : Prop := Claim7.holds Tryz.pinned (.plain (OpenSpec.ofChange configShownSpec)) configShownCard

/-- THE SECOND FORM's CARD OF 'purlinlaw05.SyntaxOwn'. -/
def syntaxOwnUptoCard : Claim7 := { stood := { row := syntaxOwnUptoRow, standIns := [], harness := (true, "83bd0a6014872b2bd3064e56f8aeba35ceab7e9925014d7367ac7f02f102383f"), looks := true }, kinds := [], alts := [], laidByText := true, laidKinds := [.data, .pinned], laidTests := true, laidLooks := .later }
def SyntaxOwnUptoCardSaid : Prop := Claim7.holds Tryz.pinned (.plain (OpenSpec.upto syntaxOwnSpec)) syntaxOwnUptoCard

/-- THE SECOND FORM's CARD OF 'purlinlaw06.ShowBack'. -/
def showBackUptoCard : Claim7 := { stood := { row := showBackUptoRow, standIns := [], harness := (true, "83bd0a6014872b2bd3064e56f8aeba35ceab7e9925014d7367ac7f02f102383f"), looks := true }, kinds := [], alts := [], laidByText := true, laidKinds := [.data, .pinned], laidTests := true, laidLooks := .later }
def ShowBackUptoCardSaid : Prop := Claim7.holds Tryz.pinned (.plain (OpenSpec.upto showBackSpec)) showBackUptoCard

/-- THE SECOND FORM's CARD OF 'purlinlaw11.ConfigOnce'. -/
def configOnceUptoCard : Claim7 := { stood := { row := configOnceUptoRow, standIns := [], harness := (true, "83bd0a6014872b2bd3064e56f8aeba35ceab7e9925014d7367ac7f02f102383f"), looks := true }, kinds := [], alts := [], laidByText := true, laidKinds := [.data, .pinned], laidTests := true, laidLooks := .later }
def ConfigOnceUptoCardSaid : Prop := Claim7.holds Tryz.pinned (.plain (OpenSpec.upto configOnceSpec)) configOnceUptoCard

/-- THE SECOND FORM's CARD OF 'purlinlaw11.ConfigDeep'. -/
def configDeepUptoCard : Claim7 := { stood := { row := configDeepUptoRow, standIns := [], harness := (true, "83bd0a6014872b2bd3064e56f8aeba35ceab7e9925014d7367ac7f02f102383f"), looks := true }, kinds := [], alts := [], laidByText := true, laidKinds := [.data, .pinned], laidTests := true, laidLooks := .later }
def ConfigDeepUptoCardSaid : Prop := Claim7.holds Tryz.pinned (.plain (OpenSpec.upto configDeepSpec)) configDeepUptoCard

/-- THE SECOND FORM's CARD OF 'purlinlaw11.ConfigWide'. -/
def configWideUptoCard : Claim7 := { stood := { row := configWideUptoRow, standIns := [], harness := (true, "83bd0a6014872b2bd3064e56f8aeba35ceab7e9925014d7367ac7f02f102383f"), looks := true }, kinds := [], alts := [], laidByText := true, laidKinds := [.data, .pinned], laidTests := true, laidLooks := .later }
def ConfigWideUptoCardSaid : Prop := Claim7.holds Tryz.pinned (.plain (OpenSpec.upto configWideSpec)) configWideUptoCard

/-- THE SECOND FORM's CARD OF 'purlinlaw11.ConfigApart'. -/
def configApartUptoCard : Claim7 := { stood := { row := configApartUptoRow, standIns := [], harness := (true, "83bd0a6014872b2bd3064e56f8aeba35ceab7e9925014d7367ac7f02f102383f"), looks := true }, kinds := [], alts := [], laidByText := true, laidKinds := [.data, .pinned], laidTests := true, laidLooks := .later }
def ConfigApartUptoCardSaid : Prop := Claim7.holds Tryz.pinned (.plain (OpenSpec.upto configApartSpec)) configApartUptoCard

/-- THE SECOND FORM's CARD OF 'purlinlaw11.ConfigShown'. -/
def configShownUptoCard : Claim7 := { stood := { row := configShownUptoRow, standIns := [], harness := (true, "83bd0a6014872b2bd3064e56f8aeba35ceab7e9925014d7367ac7f02f102383f"), looks := true }, kinds := [], alts := [], laidByText := true, laidKinds := [.data, .pinned], laidTests := true, laidLooks := .later }
def ConfigShownUptoCardSaid : Prop := Claim7.holds Tryz.pinned (.plain (OpenSpec.upto configShownSpec)) configShownUptoCard
end Rows
end Go.Proofs.YtjblfcfdeaagpaaGreatDoor
