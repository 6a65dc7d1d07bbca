/-
  DERIVED. GIVEN WITH THE SEED: THE CARDS: each row of YtdkhoiahmjadnaaGreatDoorRows.lean that lists a variable, with what it lists TIED to the program's text (the seventh form; the later family's looks); each row that meets fmt, with fmt's text TOLD by the authors' own Lean function (tested against real Go, not proved from fmt's source: count such statements apart). THE CARD IS WHAT COUNTS. Prove the row's statement (the work); the ties are given (YtdkhoiahmjadnaaGreatDoorTie.lean); close each card by the builder's one call (the guide's Derived/Test/ToyasCard.lean, 'card_holds'). Laid BY PROGRAM, IN A SANDBOX (cutbox-door.mjs). By AI agents, Wed Nov 11 2026. No macro, syntax, notation, axiom, sorry.
-/
import Derived.Test.YtdkhoiahmjadnaaGreatDoorRows
import GoSem.ClaimSeven
namespace Go.Proofs.YtdkhoiahmjadnaaGreatDoor
namespace Rows

/-- THE TIED CARD OF 'waybilllaw13.DateShows'. -/
def dateShowsCard : Claim7 := { stood := { row := dateShowsRow, standIns := [], harness := (true, "10e5933440aa2889c0ca5e401182931a80daac8aacff0a01f198953586715ee5"), looks := true }, kinds := [], alts := [], laidByText := true, laidKinds := [.data, .data, .data, .data, .sentinel, .sentinel, .listed, .data, .pinned, .pinned], laidTests := true, laidLooks := .later }
def DateShowsCardSaid : Prop := Claim7.holds Tryz.pinned (.plain (OpenSpec.ofChange dateShowsSpec)) dateShowsCard

/-- THE TIED CARD OF 'waybilllaw13.DateParses'. -/
def dateParsesCard : Claim7 := { stood := { row := dateParsesRow, standIns := [], harness := (true, "10e5933440aa2889c0ca5e401182931a80daac8aacff0a01f198953586715ee5"), looks := true }, kinds := [], alts := [], laidByText := true, laidKinds := [.data, .data, .data, .data, .sentinel, .sentinel, .listed, .data, .pinned, .pinned], laidTests := true, laidLooks := .later }
def DateParsesCardSaid : Prop := Claim7.holds Tryz.pinned (.plain (OpenSpec.ofChange dateParsesSpec)) dateParsesCard

/-- THE TIED CARD OF 'waybilllaw13.DateBack'. -/
def dateBackCard : Claim7 := { stood := { row := dateBackRow, standIns := [], harness := (true, "10e5933440aa2889c0ca5e401182931a80daac8aacff0a01f198953586715ee5"), looks := true }, kinds := [], alts := [], laidByText := true, laidKinds := [.data, .data, .data, .data, .sentinel, .sentinel, .listed, .data, .pinned, .pinned], laidTests := true, laidLooks := .later }
def DateBackCardSaid : Prop := Claim7.holds Tryz.pinned (.plain (OpenSpec.ofChange dateBackSpec)) dateBackCard

/-- THE TIED CARD OF 'waybilllaw13.DateOrders'. -/
def dateOrdersCard : Claim7 := { stood := { row := dateOrdersRow, standIns := [], harness := (true, "10e5933440aa2889c0ca5e401182931a80daac8aacff0a01f198953586715ee5"), looks := true }, kinds := [], alts := [], laidByText := true, laidKinds := [.data, .data, .data, .data, .sentinel, .sentinel, .listed, .data, .pinned, .pinned], laidTests := true, laidLooks := .later }
def DateOrdersCardSaid : Prop := Claim7.holds Tryz.pinned (.plain (OpenSpec.ofChange dateOrdersSpec)) dateOrdersCard

/-- THE TIED CARD OF 'waybilllaw13.DateZones'. -/
def dateZonesCard : Claim7 := { stood := { row := dateZonesRow, standIns := [], harness := (true, "10e5933440aa2889c0ca5e401182931a80daac8aacff0a01f198953586715ee5"), looks := true }, kinds := [], alts := [], laidByText := true, laidKinds := [.data, .data, .data, .data, .sentinel, .sentinel, .listed, .data, .pinned, .pinned], laidTests := true, laidLooks := .later }
def DateZonesCardSaid : Prop := Claim7.holds Tryz.pinned (.plain (OpenSpec.ofChange dateZonesSpec)) dateZonesCard

/-- THE SECOND FORM's CARD OF 'waybilllaw13.DateShows'. -/
def dateShowsUptoCard : Claim7 := { stood := { row := dateShowsUptoRow, standIns := [], harness := (true, "10e5933440aa2889c0ca5e401182931a80daac8aacff0a01f198953586715ee5"), looks := true }, kinds := [], alts := [], laidByText := true, laidKinds := [.data, .data, .data, .data, .sentinel, .sentinel, .listed, .data, .pinned, .pinned], laidTests := true, laidLooks := .later }
def DateShowsUptoCardSaid : Prop := Claim7.holds Tryz.pinned (.plain (OpenSpec.upto dateShowsSpec)) dateShowsUptoCard

/-- THE SECOND FORM's CARD OF 'waybilllaw13.DateParses'. -/
def dateParsesUptoCard : Claim7 := { stood := { row := dateParsesUptoRow, standIns := [], harness := (true, "10e5933440aa2889c0ca5e401182931a80daac8aacff0a01f198953586715ee5"), looks := true }, kinds := [], alts := [], laidByText := true, laidKinds := [.data, .data, .data, .data, .sentinel, .sentinel, .listed, .data, .pinned, .pinned], laidTests := true, laidLooks := .later }
def DateParsesUptoCardSaid : Prop := Claim7.holds Tryz.pinned (.plain (OpenSpec.upto dateParsesSpec)) dateParsesUptoCard

/-- THE SECOND FORM's CARD OF 'waybilllaw13.DateBack'. -/
def dateBackUptoCard : Claim7 := { stood := { row := dateBackUptoRow, standIns := [], harness := (true, "10e5933440aa2889c0ca5e401182931a80daac8aacff0a01f198953586715ee5"), looks := true }, kinds := [], alts := [], laidByText := true, laidKinds := [.data, .data, .data, .data, .sentinel, .sentinel, .listed, .data, .pinned, .pinned], laidTests := true, laidLooks := .later }
def DateBackUptoCardSaid : Prop := Claim7.holds Tryz.pinned (.plain (OpenSpec.upto dateBackSpec)) dateBackUptoCard

/-- THE SECOND FORM's CARD OF 'waybilllaw13.DateOrders'. -/
def dateOrdersUptoCard : Claim7 := { stood := { row := dateOrdersUptoRow, standIns := [], harness := (true, "10e5933440aa2889c0ca5e401182931a80daac8aacff0a01f198953586715ee5"), looks := true }, kinds := [], alts := [], laidByText := true, laidKinds := [.data, .data, .data, .data, .sentinel, .sentinel, .listed, .data, .pinned, .pinned], laidTests := true, laidLooks := .later }
def DateOrdersUptoCardSaid : Prop := Claim7.holds Tryz.pinned (.plain (OpenSpec.upto dateOrdersSpec)) dateOrdersUptoCard

/-- THE SECOND FORM's CARD OF 'waybilllaw13.DateZones'. -/
def dateZonesUptoCard : Claim7 := { stood := { row := dateZonesUptoRow, standIns := [], harness := (true, "10e5933440aa2889c0ca5e401182931a80daac8aacff0a01f198953586715ee5"), looks := true }, kinds := [], alts := [], laidByText := true, laidKinds := [.data, .data, .data, .data, .sentinel, .sentinel, .listed, .data, .pinned, .pinned], laidTests := true, laidLooks := .later }
def DateZonesUptoCardSaid : Prop := Claim7.holds Tryz.pinned (.plain (OpenSpec.upto dateZonesSpec)) dateZonesUptoCard
end Rows
end Go.Proofs.YtdkhoiahmjadnaaGreatDoor
