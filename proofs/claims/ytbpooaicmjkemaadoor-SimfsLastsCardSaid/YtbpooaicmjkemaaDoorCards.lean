/-
  DERIVED. GIVEN WITH THE SEED: THE CARDS: each row of YtbpooaicmjkemaaDoorRows.lean that lists a variable, with what it lists TIED to the program's text (the seventh form; the later family's looks); each row that meets fmt, with fmt's text TOLD by the authors' own Lean function (tested against real Go, not proved from fmt's source: count such statements apart). THE CARD IS WHAT COUNTS. Prove the row's statement (the work); the ties are given (YtbpooaicmjkemaaDoorTie.lean); close each card by the builder's one call (the guide's Derived/Test/ToyasCard.lean, 'card_holds'). Laid BY PROGRAM, IN A SANDBOX (cutbox-door.mjs). By AI agents, Wed Nov 11 2026. No macro, syntax, notation, axiom, sorry.
-/
import Derived.Test.YtbpooaicmjkemaaDoorRows
import GoSem.ClaimSeven
namespace Go.Proofs.YtbpooaicmjkemaaDoor
namespace Rows

/-- THE TIED CARD OF 'waybilllaw01.SimfsLasts'. -/
def simfsLastsCard : Claim7 := { stood := { row := simfsLastsRow, standIns := [], harness := (true, "6a80b00b394037b5191b03a493d99dd4073f09bc6d84066da0f301c76f4321de"), looks := true }, kinds := [], alts := [], laidByText := true, laidKinds := [.data, .pinned], laidTests := true, laidLooks := .later }
def SimfsLastsCardSaid : Prop := Claim7.holds Tryd.pinned (.plain (OpenSpec.ofChange simfsLastsSpec)) simfsLastsCard

/-- THE SECOND FORM's CARD OF 'waybilllaw01.SimfsLasts'. -/
def simfsLastsUptoCard : Claim7 := { stood := { row := simfsLastsUptoRow, standIns := [], harness := (true, "6a80b00b394037b5191b03a493d99dd4073f09bc6d84066da0f301c76f4321de"), looks := true }, kinds := [], alts := [], laidByText := true, laidKinds := [.data, .pinned], laidTests := true, laidLooks := .later }
def SimfsLastsUptoCardSaid : Prop := Claim7.holds Tryd.pinned (.plain (OpenSpec.upto simfsLastsSpec)) simfsLastsUptoCard
end Rows
end Go.Proofs.YtbpooaicmjkemaaDoor
