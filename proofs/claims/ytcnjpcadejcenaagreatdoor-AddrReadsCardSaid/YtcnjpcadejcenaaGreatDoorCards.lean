/-
  DERIVED. GIVEN WITH THE SEED: THE CARDS: each row of YtcnjpcadejcenaaGreatDoorRows.lean that lists a variable, with what it lists TIED to the program's text (the seventh form; the later family's looks); each row that meets fmt, with fmt's text TOLD by the authors' own Lean function (tested against real Go, not proved from fmt's source: count such statements apart). THE CARD IS WHAT COUNTS. Prove the row's statement (the work); the ties are given (YtcnjpcadejcenaaGreatDoorTie.lean); close each card by the builder's one call (the guide's Derived/Test/ToyasCard.lean, 'card_holds'). Laid BY PROGRAM, IN A SANDBOX (cutbox-door.mjs). By AI agents, Wed Nov 11 2026. No macro, syntax, notation, axiom, sorry.
-/
import Derived.Test.YtcnjpcadejcenaaGreatDoorRows
import GoSem.ClaimSeven
namespace Go.Proofs.YtcnjpcadejcenaaGreatDoor
namespace Rows

/-- THE TIED CARD OF 'purlinlaw03.JsoncWrites'. -/
def jsoncWritesCard : Claim7 := { stood := { row := jsoncWritesRow, standIns := [], harness := (true, "7ac73ae1f186732b93d2ae738a48b90b2d0888ea677811346c5c3add449f5628"), looks := true }, kinds := [], alts := [], laidByText := true, laidKinds := [.data, .data, .data, .data, .sentinel, .sentinel, .pinned], laidTests := true, laidLooks := .later }
def JsoncWritesCardSaid : Prop := Claim7.holds Tryz.pinned (.plain (OpenSpec.ofChange jsoncWritesSpec)) jsoncWritesCard

/-- THE TIED CARD OF 'purlinlaw03.JsoncReads'. -/
def jsoncReadsCard : Claim7 := { stood := { row := jsoncReadsRow, standIns := [], harness := (true, "7ac73ae1f186732b93d2ae738a48b90b2d0888ea677811346c5c3add449f5628"), looks := true }, kinds := [], alts := [], laidByText := true, laidKinds := [.data, .data, .data, .data, .sentinel, .sentinel, .pinned], laidTests := true, laidLooks := .later }
def JsoncReadsCardSaid : Prop := Claim7.holds Tryz.pinned (.plain (OpenSpec.ofChange jsoncReadsSpec)) jsoncReadsCard

/-- THE TIED CARD OF 'purlinlaw03.JsoncBack'. -/
def jsoncBackCard : Claim7 := { stood := { row := jsoncBackRow, standIns := [], harness := (true, "7ac73ae1f186732b93d2ae738a48b90b2d0888ea677811346c5c3add449f5628"), looks := true }, kinds := [], alts := [], laidByText := true, laidKinds := [.data, .data, .data, .data, .sentinel, .sentinel, .pinned], laidTests := true, laidLooks := .later }
def JsoncBackCardSaid : Prop := Claim7.holds Tryz.pinned (.plain (OpenSpec.ofChange jsoncBackSpec)) jsoncBackCard

/-- THE TIED CARD OF 'purlinlaw03.JsoncLimits'. -/
def jsoncLimitsCard : Claim7 := { stood := { row := jsoncLimitsRow, standIns := [], harness := (true, "7ac73ae1f186732b93d2ae738a48b90b2d0888ea677811346c5c3add449f5628"), looks := true }, kinds := [], alts := [], laidByText := true, laidKinds := [.data, .data, .data, .data, .sentinel, .sentinel, .pinned], laidTests := true, laidLooks := .later }
def JsoncLimitsCardSaid : Prop := Claim7.holds Tryz.pinned (.plain (OpenSpec.ofChange jsoncLimitsSpec)) jsoncLimitsCard

/-- THE TIED CARD OF 'purlinlaw03.JsoncBlanks'. -/
def jsoncBlanksCard : Claim7 := { stood := { row := jsoncBlanksRow, standIns := [], harness := (true, "7ac73ae1f186732b93d2ae738a48b90b2d0888ea677811346c5c3add449f5628"), looks := true }, kinds := [], alts := [], laidByText := true, laidKinds := [.data, .data, .data, .data, .sentinel, .sentinel, .pinned], laidTests := true, laidLooks := .later }
def JsoncBlanksCardSaid : Prop := Claim7.holds Tryz.pinned (.plain (OpenSpec.ofChange jsoncBlanksSpec)) jsoncBlanksCard

/-- THE TIED CARD OF 'purlinlaw23.ReportErrors'. -/
def reportErrorsCard : Claim7 := { stood := { row := reportErrorsRow, standIns := [], harness := (true, "7ac73ae1f186732b93d2ae738a48b90b2d0888ea677811346c5c3add449f5628"), looks := true }, kinds := [], alts := [], laidByText := true, laidKinds := [.data, .data, .data, .data, .sentinel, .sentinel, .pinned], laidTests := true, laidLooks := .later }
def ReportErrorsCardSaid : Prop := Claim7.holds Tryz.pinned (.plain (OpenSpec.ofChange reportErrorsSpec)) reportErrorsCard

/-- THE TIED CARD OF 'purlinlaw23.ReportPlaces'. -/
def reportPlacesCard : Claim7 := { stood := { row := reportPlacesRow, standIns := [], harness := (true, "7ac73ae1f186732b93d2ae738a48b90b2d0888ea677811346c5c3add449f5628"), looks := true }, kinds := [], alts := [], laidByText := true, laidKinds := [.data, .data, .data, .data, .sentinel, .sentinel, .pinned], laidTests := true, laidLooks := .later }
def ReportPlacesCardSaid : Prop := Claim7.holds Tryz.pinned (.plain (OpenSpec.ofChange reportPlacesSpec)) reportPlacesCard

/-- THE TIED CARD OF 'purlinlaw23.ReportOrder'. -/
def reportOrderCard : Claim7 := { stood := { row := reportOrderRow, standIns := [], harness := (true, "7ac73ae1f186732b93d2ae738a48b90b2d0888ea677811346c5c3add449f5628"), looks := true }, kinds := [], alts := [], laidByText := true, laidKinds := [.data, .data, .data, .data, .sentinel, .sentinel, .pinned], laidTests := true, laidLooks := .later }
def ReportOrderCardSaid : Prop := Claim7.holds Tryz.pinned (.plain (OpenSpec.ofChange reportOrderSpec)) reportOrderCard

/-- THE TIED CARD OF 'purlinlaw22.AddrShows'. -/
def addrShowsCard : Claim7 := { stood := { row := addrShowsRow, standIns := [], harness := (true, "7ac73ae1f186732b93d2ae738a48b90b2d0888ea677811346c5c3add449f5628"), looks := true }, kinds := [], alts := [], laidByText := true, laidKinds := [.data, .data, .data, .data, .sentinel, .sentinel, .pinned], laidTests := true, laidLooks := .later }
def AddrShowsCardSaid : Prop := Claim7.holds Tryz.pinned (.plain (OpenSpec.ofChange addrShowsSpec)) addrShowsCard

/-- THE TIED CARD OF 'purlinlaw22.AddrReads'. -/
def addrReadsCard : Claim7 := { stood := { row := addrReadsRow, standIns := [], harness := (true, "7ac73ae1f186732b93d2ae738a48b90b2d0888ea677811346c5c3add449f5628"), looks := true }, kinds := [], alts := [], laidByText := true, laidKinds := [.data, .data, .data, .data, .sentinel, .sentinel, .pinned], laidTests := true, laidLooks := .later }
def AddrReadsCardSaid : Prop := Claim7.holds Tryz.pinned (.plain (OpenSpec.ofChange addrReadsSpec)) addrReadsCard

/-- THE TIED CARD OF 'purlinlaw22.AddrOrder'. -/
def addrOrderCard : Claim7 := { stood := { row := addrOrderRow, standIns := [], harness := (true, "7ac73ae1f186732b93d2ae738a48b90b2d0888ea677811346c5c3add449f5628"), looks := true }, kinds := [], alts := [], laidByText := true, laidKinds := [.data, .data, .data, .data, .sentinel, .sentinel, .pinned], laidTests := true, laidLooks := .later }
def AddrOrderCardSaid : Prop := Claim7.holds Tryz.pinned (.plain (OpenSpec.ofChange addrOrderSpec)) addrOrderCard

/-- THE TIED CARD OF 'purlinlaw22.AddrWithin'. -/
def addrWithinCard : Claim7 := { stood := { row := addrWithinRow, standIns := [], harness := (true, "7ac73ae1f186732b93d2ae738a48b90b2d0888ea677811346c5c3add449f5628"), looks := true }, kinds := [], alts := [], laidByText := true, laidKinds := [.data, .data, .data, .data, .sentinel, .sentinel, .pinned], laidTests := true, laidLooks := .later }
def AddrWithinCardSaid : Prop := Claim7.holds Tryz.pinned (.plain (OpenSpec.ofChange addrWithinSpec)) addrWithinCard

/-- THE SECOND FORM's CARD OF 'purlinlaw03.JsoncWrites'. -/
def jsoncWritesUptoCard : Claim7 := { stood := { row := jsoncWritesUptoRow, standIns := [], harness := (true, "7ac73ae1f186732b93d2ae738a48b90b2d0888ea677811346c5c3add449f5628"), looks := true }, kinds := [], alts := [], laidByText := true, laidKinds := [.data, .data, .data, .data, .sentinel, .sentinel, .pinned], laidTests := true, laidLooks := .later }
def JsoncWritesUptoCardSaid : Prop := Claim7.holds Tryz.pinned (.plain (OpenSpec.upto jsoncWritesSpec)) jsoncWritesUptoCard

/-- THE SECOND FORM's CARD OF 'purlinlaw03.JsoncReads'. -/
def jsoncReadsUptoCard : Claim7 := { stood := { row := jsoncReadsUptoRow, standIns := [], harness := (true, "7ac73ae1f186732b93d2ae738a48b90b2d0888ea677811346c5c3add449f5628"), looks := true }, kinds := [], alts := [], laidByText := true, laidKinds := [.data, .data, .data, .data, .sentinel, .sentinel, .pinned], laidTests := true, laidLooks := .later }
def JsoncReadsUptoCardSaid : Prop := Claim7.holds Tryz.pinned (.plain (OpenSpec.upto jsoncReadsSpec)) jsoncReadsUptoCard

/-- THE SECOND FORM's CARD OF 'purlinlaw03.JsoncBack'. -/
def jsoncBackUptoCard : Claim7 := { stood := { row := jsoncBackUptoRow, standIns := [], harness := (true, "7ac73ae1f186732b93d2ae738a48b90b2d0888ea677811346c5c3add449f5628"), looks := true }, kinds := [], alts := [], laidByText := true, laidKinds := [.data, .data, .data, .data, .sentinel, .sentinel, .pinned], laidTests := true, laidLooks := .later }
def JsoncBackUptoCardSaid : Prop := Claim7.holds Tryz.pinned (.plain (OpenSpec.upto jsoncBackSpec)) jsoncBackUptoCard

/-- THE SECOND FORM's CARD OF 'purlinlaw03.JsoncLimits'. -/
def jsoncLimitsUptoCard : Claim7 := { stood := { row := jsoncLimitsUptoRow, standIns := [], harness := (true, "7ac73ae1f186732b93d2ae738a48b90b2d0888ea677811346c5c3add449f5628"), looks := true }, kinds := [], alts := [], laidByText := true, laidKinds := [.data, .data, .data, .data, .sentinel, .sentinel, .pinned], laidTests := true, laidLooks := .later }
def JsoncLimitsUptoCardSaid : Prop := Claim7.holds Tryz.pinned (.plain (OpenSpec.upto jsoncLimitsSpec)) jsoncLimitsUptoCard

/-- THE SECOND FORM's CARD OF 'purlinlaw03.JsoncBlanks'. -/
def jsoncBlanksUptoCard : Claim7 := { stood := { row := jsoncBlanksUptoRow, standIns := [], harness := (true, "7ac73ae1f186732b93d2ae738a48b90b2d0888ea677811346c5c3add449f5628"), looks := true }, kinds := [], alts := [], laidByText := true, laidKinds := [.data, .data, .data, .data, .sentinel, .sentinel, .pinned], laidTests := true, laidLooks := .later }
def JsoncBlanksUptoCardSaid : Prop := Claim7.holds Tryz.pinned (.plain (OpenSpec.upto jsoncBlanksSpec)) jsoncBlanksUptoCard

/-- THE SECOND FORM's CARD OF 'purlinlaw23.ReportErrors'. -/
def reportErrorsUptoCard : Claim7 := { stood := { row := reportErrorsUptoRow, standIns := [], harness := (true, "7ac73ae1f186732b93d2ae738a48b90b2d0888ea677811346c5c3add449f5628"), looks := true }, kinds := [], alts := [], laidByText := true, laidKinds := [.data, .data, .data, .data, .sentinel, .sentinel, .pinned], laidTests := true, laidLooks := .later }
def ReportErrorsUptoCardSaid : Prop := Claim7.holds Tryz.pinned (.plain (OpenSpec.upto reportErrorsSpec)) reportErrorsUptoCard

/-- THE SECOND FORM's CARD OF 'purlinlaw23.ReportPlaces'. -/
def reportPlacesUptoCard : Claim7 := { stood := { row := reportPlacesUptoRow, standIns := [], harness := (true, "7ac73ae1f186732b93d2ae738a48b90b2d0888ea677811346c5c3add449f5628"), looks := true }, kinds := [], alts := [], laidByText := true, laidKinds := [.data, .data, .data, .data, .sentinel, .sentinel, .pinned], laidTests := true, laidLooks := .later }
def ReportPlacesUptoCardSaid : Prop := Claim7.holds Tryz.pinned (.plain (OpenSpec.upto reportPlacesSpec)) reportPlacesUptoCard

/-- THE SECOND FORM's CARD OF 'purlinlaw23.ReportOrder'. -/
def reportOrderUptoCard : Claim7 := { stood := { row := reportOrderUptoRow, standIns := [], harness := (true, "7ac73ae1f186732b93d2ae738a48b90b2d0888ea677811346c5c3add449f5628"), looks := true }, kinds := [], alts := [], laidByText := true, laidKinds := [.data, .data, .data, .data, .sentinel, .sentinel, .pinned], laidTests := true, laidLooks := .later }
def ReportOrderUptoCardSaid : Prop := Claim7.holds Tryz.pinned (.plain (OpenSpec.upto reportOrderSpec)) reportOrderUptoCard

/-- THE SECOND FORM's CARD OF 'purlinlaw22.AddrShows'. -/
def addrShowsUptoCard : Claim7 := { stood := { row := addrShowsUptoRow, standIns := [], harness := (true, "7ac73ae1f186732b93d2ae738a48b90b2d0888ea677811346c5c3add449f5628"), looks := true }, kinds := [], alts := [], laidByText := true, laidKinds := [.data, .data, .data, .data, .sentinel, .sentinel, .pinned], laidTests := true, laidLooks := .later }
def AddrShowsUptoCardSaid : Prop := Claim7.holds Tryz.pinned (.plain (OpenSpec.upto addrShowsSpec)) addrShowsUptoCard

/-- THE SECOND FORM's CARD OF 'purlinlaw22.AddrReads'. -/
def addrReadsUptoCard : Claim7 := { stood := { row := addrReadsUptoRow, standIns := [], harness := (true, "7ac73ae1f186732b93d2ae738a48b90b2d0888ea677811346c5c3add449f5628"), looks := true }, kinds := [], alts := [], laidByText := true, laidKinds := [.data, .data, .data, .data, .sentinel, .sentinel, .pinned], laidTests := true, laidLooks := .later }
def AddrReadsUptoCardSaid : Prop := Claim7.holds Tryz.pinned (.plain (OpenSpec.upto addrReadsSpec)) addrReadsUptoCard

/-- THE SECOND FORM's CARD OF 'purlinlaw22.AddrOrder'. -/
def addrOrderUptoCard : Claim7 := { stood := { row := addrOrderUptoRow, standIns := [], harness := (true, "7ac73ae1f186732b93d2ae738a48b90b2d0888ea677811346c5c3add449f5628"), looks := true }, kinds := [], alts := [], laidByText := true, laidKinds := [.data, .data, .data, .data, .sentinel, .sentinel, .pinned], laidTests := true, laidLooks := .later }
def AddrOrderUptoCardSaid : Prop := Claim7.holds Tryz.pinned (.plain (OpenSpec.upto addrOrderSpec)) addrOrderUptoCard

/-- THE SECOND FORM's CARD OF 'purlinlaw22.AddrWithin'. -/
def addrWithinUptoCard : Claim7 := { stood := { row := addrWithinUptoRow, standIns := [], harness := (true, "7ac73ae1f186732b93d2ae738a48b90b2d0888ea677811346c5c3add449f5628"), looks := true }, kinds := [], alts := [], laidByText := true, laidKinds := [.data, .data, .data, .data, .sentinel, .sentinel, .pinned], laidTests := true, laidLooks := .later }
def AddrWithinUptoCardSaid : Prop := Claim7.holds Tryz.pinned (.plain (OpenSpec.upto addrWithinSpec)) addrWithinUptoCard
end Rows
end Go.Proofs.YtcnjpcadejcenaaGreatDoor
