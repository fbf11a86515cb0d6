/-
  DERIVED. GIVEN WITH THE SEED: THE CARDS: each row of YtnoepcndjljolaaGreatDoorRows.lean that lists a variable, with what it lists TIED to the program's text (the seventh form; the later family's looks); each row that meets fmt, with fmt's text TOLD by the authors' own Lean function (tested against real Go, not proved from fmt's source: count such statements apart). THE CARD IS WHAT COUNTS. Prove the row's statement (the work); the ties are given (YtnoepcndjljolaaGreatDoorTie.lean); close each card by the builder's one call (the guide's Derived/Test/ToyasCard.lean, 'card_holds'). Laid BY PROGRAM, IN A SANDBOX (cutbox-door.mjs). By AI agents, Wed Nov 11 2026. No macro, syntax, notation, axiom, sorry.
-/
import Derived.Test.YtnoepcndjljolaaGreatDoorRows
import GoSem.ClaimSeven
namespace Go.Proofs.YtnoepcndjljolaaGreatDoor
namespace Rows

/-- THE TIED CARD OF 'purlinlaw15.StateSpoilt'. -/
def stateSpoiltCard : Claim7 := { stood := { row := stateSpoiltRow, standIns := [], harness := (true, "44ad63f7fb4e356de92fc74cf9ae1d27051623a867a404e8b65adac9a2dc0d24"), looks := true }, kinds := [], alts := [], laidByText := true, laidKinds := [.data, .data, .data, .data, .sentinel, .sentinel, .pinned], laidTests := true, laidLooks := .later }
def StateSpoiltCardSaid : Prop := Claim7.holds Tryz.pinned (.plain (OpenSpec.ofChange stateSpoiltSpec)) stateSpoiltCard

/-- THE TIED CARD OF 'purlinlaw15.StateKeeps'. -/
def stateKeepsCard : Claim7 := { stood := { row := stateKeepsRow, standIns := [], harness := (true, "44ad63f7fb4e356de92fc74cf9ae1d27051623a867a404e8b65adac9a2dc0d24"), looks := true }, kinds := [], alts := [], laidByText := true, laidKinds := [.data, .data, .data, .data, .sentinel, .sentinel, .pinned], laidTests := true, laidLooks := .later }
def StateKeepsCardSaid : Prop := Claim7.holds Tryz.pinned (.plain (OpenSpec.ofChange stateKeepsSpec)) stateKeepsCard

/-- THE TIED CARD OF 'purlinlaw22.AddrSorts'. -/
def addrSortsCard : Claim7 := { stood := { row := addrSortsRow, standIns := [], harness := (true, "44ad63f7fb4e356de92fc74cf9ae1d27051623a867a404e8b65adac9a2dc0d24"), looks := true }, kinds := [], alts := [], laidByText := true, laidKinds := [.data, .data, .data, .data, .sentinel, .sentinel, .pinned], laidTests := true, laidLooks := .later }
def AddrSortsCardSaid : Prop := Claim7.holds Tryz.pinned (.plain (OpenSpec.ofChange addrSortsSpec)) addrSortsCard

/-- THE SECOND FORM's CARD OF 'purlinlaw15.StateSpoilt'. -/
def stateSpoiltUptoCard : Claim7 := { stood := { row := stateSpoiltUptoRow, standIns := [], harness := (true, "44ad63f7fb4e356de92fc74cf9ae1d27051623a867a404e8b65adac9a2dc0d24"), looks := true }, kinds := [], alts := [], laidByText := true, laidKinds := [.data, .data, .data, .data, .sentinel, .sentinel, .pinned], laidTests := true, laidLooks := .later }
def StateSpoiltUptoCardSaid : Prop := Claim7.holds Tryz.pinned (.plain (OpenSpec.upto stateSpoiltSpec)) stateSpoiltUptoCard

/-- THE SECOND FORM's CARD OF 'purlinlaw15.StateKeeps'. -/
def stateKeepsUptoCard : Claim7 := { stood := { row := stateKeepsUptoRow, standIns := [], harness := (true, "44ad63f7fb4e356de92fc74cf9ae1d27051623a867a404e8b65adac9a2dc0d24"), looks := true }, kinds := [], alts := [], laidByText := true, laidKinds := [.data, .data, .data, .data, .sentinel, .sentinel, .pinned], laidTests := true, laidLooks := .later }
def StateKeepsUptoCardSaid : Prop := Claim7.holds Tryz.pinned (.plain (OpenSpec.upto stateKeepsSpec)) stateKeepsUptoCard

/-- THE SECOND FORM's CARD OF 'purlinlaw22.AddrSorts'. -/
def addrSortsUptoCard : Claim7 := { stood := { row := addrSortsUptoRow, standIns := [], harness := (true, "44ad63f7fb4e356de92fc74cf9ae1d27051623a867a404e8b65adac9a2dc0d24"), looks := true }, kinds := [], alts := [], laidByText := true, laidKinds := [.data, .data, .data, .data, .sentinel, .sentinel, .pinned], laidTests := true, laidLooks := .later }
def AddrSortsUptoCardSaid : Prop := Claim7.holds Tryz.pinned (.plain (OpenSpec.upto addrSortsSpec)) addrSortsUptoCard
end Rows
end Go.Proofs.YtnoepcndjljolaaGreatDoor
