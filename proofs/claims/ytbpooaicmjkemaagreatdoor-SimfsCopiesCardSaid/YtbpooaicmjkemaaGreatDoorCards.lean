/-
  DERIVED. GIVEN WITH THE SEED: THE CARDS: each row of YtbpooaicmjkemaaGreatDoorRows.lean that lists a variable, with what it lists TIED to the program's text (the seventh form; the later family's looks); each row that meets fmt, with fmt's text TOLD by the authors' own Lean function (tested against real Go, not proved from fmt's source: count such statements apart). THE CARD IS WHAT COUNTS. Prove the row's statement (the work); the ties are given (YtbpooaicmjkemaaGreatDoorTie.lean); close each card by the builder's one call (the guide's Derived/Test/ToyasCard.lean, 'card_holds'). Laid BY PROGRAM, IN A SANDBOX (cutbox-door.mjs). By AI agents, Wed Nov 11 2026. No macro, syntax, notation, axiom, sorry.
-/
import Derived.Test.YtbpooaicmjkemaaGreatDoorRows
import GoSem.ClaimSeven
namespace Go.Proofs.YtbpooaicmjkemaaGreatDoor
namespace Rows

/-- THE TIED CARD OF 'waybilllaw01.SimfsMoves'. -/
def simfsMovesCard : Claim7 := { stood := { row := simfsMovesRow, standIns := [], harness := (true, "ce4858e864525734e3848ee2116e7c890cb8bdb7a4ae64ef021a57014befbb5e"), looks := true }, kinds := [], alts := [], laidByText := true, laidKinds := [.data, .pinned], laidTests := true, laidLooks := .later }
def SimfsMovesCardSaid : Prop := Claim7.holds Tryz.pinned (.plain (OpenSpec.ofChange simfsMovesSpec)) simfsMovesCard

/-- THE TIED CARD OF 'waybilllaw01.SimfsPlays'. -/
def simfsPlaysCard : Claim7 := { stood := { row := simfsPlaysRow, standIns := [], harness := (true, "ce4858e864525734e3848ee2116e7c890cb8bdb7a4ae64ef021a57014befbb5e"), looks := true }, kinds := [], alts := [], laidByText := true, laidKinds := [.data, .pinned], laidTests := true, laidLooks := .later }
def SimfsPlaysCardSaid : Prop := Claim7.holds Tryz.pinned (.plain (OpenSpec.ofChange simfsPlaysSpec)) simfsPlaysCard

/-- THE TIED CARD OF 'waybilllaw01.SimfsCopies'. -/
def simfsCopiesCard : Claim7 := { stood := { row := simfsCopiesRow, standIns := [], harness := (true, "ce4858e864525734e3848ee2116e7c890cb8bdb7a4ae64ef021a57014befbb5e"), looks := true }, kinds := [], alts := [], laidByText := true, laidKinds := [.data, .pinned], laidTests := true, laidLooks := .later }
def SimfsCopiesCardSaid : Prop := Claim7.holds Tryz.pinned (.plain (OpenSpec.ofChange simfsCopiesSpec)) simfsCopiesCard

/-- THE SECOND FORM's CARD OF 'waybilllaw01.SimfsMoves'. -/
def simfsMovesUptoCard : Claim7 := { stood := { row := simfsMovesUptoRow, standIns := [], harness := (true, "ce4858e864525734e3848ee2116e7c890cb8bdb7a4ae64ef021a57014befbb5e"), looks := true }, kinds := [], alts := [], laidByText := true, laidKinds := [.data, .pinned], laidTests := true, laidLooks := .later }
def SimfsMovesUptoCardSaid : Prop := Claim7.holds Tryz.pinned (.plain (OpenSpec.upto simfsMovesSpec)) simfsMovesUptoCard

/-- THE SECOND FORM's CARD OF 'waybilllaw01.SimfsPlays'. -/
def simfsPlaysUptoCard : Claim7 := { stood := { row := simfsPlaysUptoRow, standIns := [], harness := (true, "ce4858e864525734e3848ee2116e7c890cb8bdb7a4ae64ef021a57014befbb5e"), looks := true }, kinds := [], alts := [], laidByText := true, laidKinds := [.data, .pinned], laidTests := true, laidLooks := .later }
def SimfsPlaysUptoCardSaid : Prop := Claim7.holds Tryz.pinned (.plain (OpenSpec.upto simfsPlaysSpec)) simfsPlaysUptoCard

/-- THE SECOND FORM's CARD OF 'waybilllaw01.SimfsCopies'. -/
def simfsCopiesUptoCard : Claim7 := { stood := { row := simfsCopiesUptoRow, standIns := [], harness := (true, "ce4858e864525734e3848ee2116e7c890cb8bdb7a4ae64ef021a57014befbb5e"), looks := true }, kinds := [], alts := [], laidByText := true, laidKinds := [.data, .pinned], laidTests := true, laidLooks := .later }
def SimfsCopiesUptoCardSaid : Prop := Claim7.holds Tryz.pinned (.plain (OpenSpec.upto simfsCopiesSpec)) simfsCopiesUptoCard
end Rows
end Go.Proofs.YtbpooaicmjkemaaGreatDoor
