/-
  DERIVED. GIVEN WITH THE SEED: THE CARDS: each row of YtdkikjcpgihjlaaGreatDoorRows.lean that lists a variable, with what it lists TIED to the program's text (the seventh form; the later family's looks); each row that meets fmt, with fmt's text TOLD by the authors' own Lean function (tested against real Go, not proved from fmt's source: count such statements apart). THE CARD IS WHAT COUNTS. Prove the row's statement (the work); the ties are given (YtdkikjcpgihjlaaGreatDoorTie.lean); close each card by the builder's one call (the guide's Derived/Test/ToyasCard.lean, 'card_holds'). Laid BY PROGRAM, IN A SANDBOX (cutbox-door.mjs). By AI agents, Wed Nov 11 2026. No macro, syntax, notation, axiom, sorry.
-/
import Derived.Test.YtdkikjcpgihjlaaGreatDoorRows
import GoSem.ClaimSeven
namespace Go.Proofs.YtdkikjcpgihjlaaGreatDoor
namespace Rows

/-- THE TIED CARD OF 'purlinlaw07.FuncsCall'. -/
def funcsCallCard : Claim7 := { stood := { row := funcsCallRow, standIns := [], harness := (true, "f14ce92505437a6bb0790f7de94a4d21871fa55b8801b6574a4c3d1499464554"), looks := true }, kinds := [], alts := [], laidByText := true, laidKinds := [.data, .data, .data, .data, .sentinel, .sentinel, .pinned], laidTests := true, laidLooks := .later }
def FuncsCallCardSaid : Prop := Claim7.holds Tryz.pinned (.plain (OpenSpec.ofChange funcsCallSpec)) funcsCallCard

/-- THE TIED CARD OF 'purlinlaw07.FuncsUnknown'. -/
def funcsUnknownCard : Claim7 := { stood := { row := funcsUnknownRow, standIns := [], harness := (true, "f14ce92505437a6bb0790f7de94a4d21871fa55b8801b6574a4c3d1499464554"), looks := true }, kinds := [], alts := [], laidByText := true, laidKinds := [.data, .data, .data, .data, .sentinel, .sentinel, .pinned], laidTests := true, laidLooks := .later }
def FuncsUnknownCardSaid : Prop := Claim7.holds Tryz.pinned (.plain (OpenSpec.ofChange funcsUnknownSpec)) funcsUnknownCard

/-- THE TIED CARD OF 'purlinlaw07.FuncsRules'. -/
def funcsRulesCard : Claim7 := { stood := { row := funcsRulesRow, standIns := [], harness := (true, "f14ce92505437a6bb0790f7de94a4d21871fa55b8801b6574a4c3d1499464554"), looks := true }, kinds := [], alts := [], laidByText := true, laidKinds := [.data, .data, .data, .data, .sentinel, .sentinel, .pinned], laidTests := true, laidLooks := .later }
def FuncsRulesCardSaid : Prop := Claim7.holds Tryz.pinned (.plain (OpenSpec.ofChange funcsRulesSpec)) funcsRulesCard

/-- THE TIED CARD OF 'purlinlaw07.FuncsObjects'. -/
def funcsObjectsCard : Claim7 := { stood := { row := funcsObjectsRow, standIns := [], harness := (true, "f14ce92505437a6bb0790f7de94a4d21871fa55b8801b6574a4c3d1499464554"), looks := true }, kinds := [], alts := [], laidByText := true, laidKinds := [.data, .data, .data, .data, .sentinel, .sentinel, .pinned], laidTests := true, laidLooks := .later }
def FuncsObjectsCardSaid : Prop := Claim7.holds Tryz.pinned (.plain (OpenSpec.ofChange funcsObjectsSpec)) funcsObjectsCard

/-- THE TIED CARD OF 'purlinlaw07.FuncsOwn'. -/
def funcsOwnCard : Claim7 := { stood := { row := funcsOwnRow, standIns := [], harness := (true, "f14ce92505437a6bb0790f7de94a4d21871fa55b8801b6574a4c3d1499464554"), looks := true }, kinds := [], alts := [], laidByText := true, laidKinds := [.data, .data, .data, .data, .sentinel, .sentinel, .pinned], laidTests := true, laidLooks := .later }
def FuncsOwnCardSaid : Prop := Claim7.holds Tryz.pinned (.plain (OpenSpec.ofChange funcsOwnSpec)) funcsOwnCard

/-- THE TIED CARD OF 'purlinlaw07.FuncsNames'. -/
def funcsNamesCard : Claim7 := { stood := { row := funcsNamesRow, standIns := [], harness := (true, "f14ce92505437a6bb0790f7de94a4d21871fa55b8801b6574a4c3d1499464554"), looks := true }, kinds := [], alts := [], laidByText := true, laidKinds := [.data, .data, .data, .data, .sentinel, .sentinel, .pinned], laidTests := true, laidLooks := .later }
def FuncsNamesCardSaid : Prop := Claim7.holds Tryz.pinned (.plain (OpenSpec.ofChange funcsNamesSpec)) funcsNamesCard

/-- THE SECOND FORM's CARD OF 'purlinlaw07.FuncsCall'. -/
def funcsCallUptoCard : Claim7 := { stood := { row := funcsCallUptoRow, standIns := [], harness := (true, "f14ce92505437a6bb0790f7de94a4d21871fa55b8801b6574a4c3d1499464554"), looks := true }, kinds := [], alts := [], laidByText := true, laidKinds := [.data, .data, .data, .data, .sentinel, .sentinel, .pinned], laidTests := true, laidLooks := .later }
def FuncsCallUptoCardSaid : Prop := Claim7.holds Tryz.pinned (.plain (OpenSpec.upto funcsCallSpec)) funcsCallUptoCard

/-- THE SECOND FORM's CARD OF 'purlinlaw07.FuncsUnknown'. -/
def funcsUnknownUptoCard : Claim7 := { stood := { row := funcsUnknownUptoRow, standIns := [], harness := (true, "f14ce92505437a6bb0790f7de94a4d21871fa55b8801b6574a4c3d1499464554"), looks := true }, kinds := [], alts := [], laidByText := true, laidKinds := [.data, .data, .data, .data, .sentinel, .sentinel, .pinned], laidTests := true, laidLooks := .later }
def FuncsUnknownUptoCardSaid : Prop := Claim7.holds Tryz.pinned (.plain (OpenSpec.upto funcsUnknownSpec)) funcsUnknownUptoCard

/-- THE SECOND FORM's CARD OF 'purlinlaw07.FuncsRules'. -/
def funcsRulesUptoCard : Claim7 := { stood := { row := funcsRulesUptoRow, standIns := [], harness := (true, "f14ce92505437a6bb0790f7de94a4d21871fa55b8801b6574a4c3d1499464554"), looks := true }, kinds := [], alts := [], laidByText := true, laidKinds := [.data, .data, .data, .data, .sentinel, .sentinel, .pinned], laidTests := true, laidLooks := .later }
def FuncsRulesUptoCardSaid : Prop := Claim7.holds Tryz.pinned (.plain (OpenSpec.upto funcsRulesSpec)) funcsRulesUptoCard

/-- THE SECOND FORM's CARD OF 'purlinlaw07.FuncsObjects'. -/
def funcsObjectsUptoCard : Claim7 := { stood := { row := funcsObjectsUptoRow, standIns := [], harness := (true, "f14ce92505437a6bb0790f7de94a4d21871fa55b8801b6574a4c3d1499464554"), looks := true }, kinds := [], alts := [], laidByText := true, laidKinds := [.data, .data, .data, .data, .sentinel, .sentinel, .pinned], laidTests := true, laidLooks := .later }
def FuncsObjectsUptoCardSaid : Prop := Claim7.holds Tryz.pinned (.plain (OpenSpec.upto funcsObjectsSpec)) funcsObjectsUptoCard

/-- THE SECOND FORM's CARD OF 'purlinlaw07.FuncsOwn'. -/
def funcsOwnUptoCard : Claim7 := { stood := { row := funcsOwnUptoRow, standIns := [], harness := (true, "f14ce92505437a6bb0790f7de94a4d21871fa55b8801b6574a4c3d1499464554"), looks := true }, kinds := [], alts := [], laidByText := true, laidKinds := [.data, .data, .data, .data, .sentinel, .sentinel, .pinned], laidTests := true, laidLooks := .later }
def FuncsOwnUptoCardSaid : Prop := Claim7.holds Tryz.pinned (.plain (OpenSpec.upto funcsOwnSpec)) funcsOwnUptoCard

/-- THE SECOND FORM's CARD OF 'purlinlaw07.FuncsNames'. -/
def funcsNamesUptoCard : Claim7 := { stood := { row := funcsNamesUptoRow, standIns := [], harness := (true, "f14ce92505437a6bb0790f7de94a4d21871fa55b8801b6574a4c3d1499464554"), looks := true }, kinds := [], alts := [], laidByText := true, laidKinds := [.data, .data, .data, .data, .sentinel, .sentinel, .pinned], laidTests := true, laidLooks := .later }
def FuncsNamesUptoCardSaid : Prop := Claim7.holds Tryz.pinned (.plain (OpenSpec.upto funcsNamesSpec)) funcsNamesUptoCard
end Rows
end Go.Proofs.YtdkikjcpgihjlaaGreatDoor
