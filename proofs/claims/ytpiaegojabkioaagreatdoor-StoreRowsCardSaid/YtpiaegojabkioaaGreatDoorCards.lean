/-
  DERIVED. GIVEN WITH THE SEED: THE CARDS: each row of YtpiaegojabkioaaGreatDoorRows.lean that lists a variable, with what it lists TIED to the program's text (the seventh form; the later family's looks); each row that meets fmt, with fmt's text TOLD by the authors' own Lean function (tested against real Go, not proved from fmt's source: count such statements apart). THE CARD IS WHAT COUNTS. Prove the row's statement (the work); the ties are given (YtpiaegojabkioaaGreatDoorTie.lean); close each card by the builder's one call (the guide's Derived/Test/ToyasCard.lean, 'card_holds'). Laid BY PROGRAM, IN A SANDBOX (cutbox-door.mjs). By AI agents, Wed Nov 11 2026. No macro, syntax, notation, axiom, sorry.
-/
import Derived.Test.YtpiaegojabkioaaGreatDoorRows
import GoSem.ClaimSeven
namespace Go.Proofs.YtpiaegojabkioaaGreatDoor
namespace Rows

/-- THE TIED CARD OF 'purlinlaw16.StoreOnce'. -/
def storeOnceCard : Claim7 := { stood := { row := storeOnceRow, standIns := [], harness := (true, "7c37e46bd59fa836610dcd0e0f5e38567f510dee59cdd35c6cb38616839edd39"), looks := true }, kinds := [], alts := [], laidByText := true, laidKinds := [.data, .data, .data, .data, .sentinel, .sentinel, .pinned], laidTests := true, laidLooks := .later }
def StoreOnceCardSaid : Prop := Claim7.holds Tryz.pinned (.plain (OpenSpec.ofChange storeOnceSpec)) storeOnceCard

/-- THE TIED CARD OF 'purlinlaw16.StoreRows'. -/
def storeRowsCard : Claim7 := { stood := { row := storeRowsRow, standIns := [], harness := (true, "7c37e46bd59fa836610dcd0e0f5e38567f510dee59cdd35c6cb38616839edd39"), looks := true }, kinds := [], alts := [], laidByText := true, laidKinds := [.data, .data, .data, .data, .sentinel, .sentinel, .pinned], laidTests := true, laidLooks := .later }
def StoreRowsCardSaid : Prop := Claim7.holds Tryz.pinned (.plain (OpenSpec.ofChange storeRowsSpec)) storeRowsCard

/-- THE TIED CARD OF 'purlinlaw16.StoreWhole'. -/
def storeWholeCard : Claim7 := { stood := { row := storeWholeRow, standIns := [], harness := (true, "7c37e46bd59fa836610dcd0e0f5e38567f510dee59cdd35c6cb38616839edd39"), looks := true }, kinds := [], alts := [], laidByText := true, laidKinds := [.data, .data, .data, .data, .sentinel, .sentinel, .pinned], laidTests := true, laidLooks := .later }
def StoreWholeCardSaid : Prop := Claim7.holds Tryz.pinned (.plain (OpenSpec.ofChange storeWholeSpec)) storeWholeCard

/-- THE SECOND FORM's CARD OF 'purlinlaw16.StoreOnce'. -/
def storeOnceUptoCard : Claim7 := { stood := { row := storeOnceUptoRow, standIns := [], harness := (true, "7c37e46bd59fa836610dcd0e0f5e38567f510dee59cdd35c6cb38616839edd39"), looks := true }, kinds := [], alts := [], laidByText := true, laidKinds := [.data, .data, .data, .data, .sentinel, .sentinel, .pinned], laidTests := true, laidLooks := .later }
def StoreOnceUptoCardSaid : Prop := Claim7.holds Tryz.pinned (.plain (OpenSpec.upto storeOnceSpec)) storeOnceUptoCard

/-- THE SECOND FORM's CARD OF 'purlinlaw16.StoreRows'. -/
def storeRowsUptoCard : Claim7 := { stood := { row := storeRowsUptoRow, standIns := [], harness := (true, "7c37e46bd59fa836610dcd0e0f5e38567f510dee59cdd35c6cb38616839edd39"), looks := true }, kinds := [], alts := [], laidByText := true, laidKinds := [.data, .data, .data, .data, .sentinel, .sentinel, .pinned], laidTests := true, laidLooks := .later }
def StoreRowsUptoCardSaid : Prop := Claim7.holds Tryz.pinned (.plain (OpenSpec.upto storeRowsSpec)) storeRowsUptoCard

/-- THE SECOND FORM's CARD OF 'purlinlaw16.StoreWhole'. -/
def storeWholeUptoCard : Claim7 := { stood := { row := storeWholeUptoRow, standIns := [], harness := (true, "7c37e46bd59fa836610dcd0e0f5e38567f510dee59cdd35c6cb38616839edd39"), looks := true }, kinds := [], alts := [], laidByText := true, laidKinds := [.data, .data, .data, .data, .sentinel, .sentinel, .pinned], laidTests := true, laidLooks := .later }
def StoreWholeUptoCardSaid : Prop := Claim7.holds Tryz.pinned (.plain (OpenSpec.upto storeWholeSpec)) storeWholeUptoCard
end Rows
end Go.Proofs.YtpiaegojabkioaaGreatDoor
