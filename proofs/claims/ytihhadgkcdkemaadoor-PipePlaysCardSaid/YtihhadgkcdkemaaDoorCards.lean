/-
  DERIVED. GIVEN WITH THE SEED: THE CARDS: each row of YtihhadgkcdkemaaDoorRows.lean that lists a variable, with what it lists TIED to the program's text (the seventh form; the later family's looks); each row that meets fmt, with fmt's text TOLD by the authors' own Lean function (tested against real Go, not proved from fmt's source: count such statements apart). THE CARD IS WHAT COUNTS. Prove the row's statement (the work); the ties are given (YtihhadgkcdkemaaDoorTie.lean); close each card by the builder's one call (the guide's Derived/Test/ToyasCard.lean, 'card_holds'). Laid BY PROGRAM, IN A SANDBOX (cutbox-door.mjs). By AI agents, Wed Nov 11 2026. No macro, syntax, notation, axiom, sorry.
-/
import Derived.Test.YtihhadgkcdkemaaDoorRows
import GoSem.ClaimSeven
namespace Go.Proofs.YtihhadgkcdkemaaDoor
namespace Rows

/-- THE TIED CARD OF 'waybilllaw05.PipeOrder'. -/
def pipeOrderCard : Claim7 := { stood := { row := pipeOrderRow, standIns := [], harness := (true, "dda3435f846a1296f38695a788d470ea344cdc9851c3ad2b60759d7391c0ab71"), looks := false }, kinds := [], alts := [], laidByText := true, laidKinds := [.data, .pinned], laidTests := true, laidLooks := .later }
def PipeOrderCardSaid : Prop := Claim7.holds Tryd.pinned (.plain (OpenSpec.ofChange pipeOrderSpec)) pipeOrderCard

/-- THE TIED CARD OF 'waybilllaw05.PipePlays'. -/
def pipePlaysCard : Claim7 := { stood := { row := pipePlaysRow, standIns := [], harness := (true, "dda3435f846a1296f38695a788d470ea344cdc9851c3ad2b60759d7391c0ab71"), looks := false }, kinds := [], alts := [], laidByText := true, laidKinds := [.data, .pinned], laidTests := true, laidLooks := .later }
def PipePlaysCardSaid : Prop := Claim7.holds Tryd.pinned (.plain (OpenSpec.ofChange pipePlaysSpec)) pipePlaysCard

/-- THE SECOND FORM's CARD OF 'waybilllaw05.PipeOrder'. -/
def pipeOrderUptoCard : Claim7 := { stood := { row := pipeOrderUptoRow, standIns := [], harness := (true, "dda3435f846a1296f38695a788d470ea344cdc9851c3ad2b60759d7391c0ab71"), looks := false }, kinds := [], alts := [], laidByText := true, laidKinds := [.data, .pinned], laidTests := true, laidLooks := .later }
def PipeOrderUptoCardSaid : Prop := Claim7.holds Tryd.pinned (.plain (OpenSpec.upto pipeOrderSpec)) pipeOrderUptoCard

/-- THE SECOND FORM's CARD OF 'waybilllaw05.PipePlays'. -/
def pipePlaysUptoCard : Claim7 := { stood := { row := pipePlaysUptoRow, standIns := [], harness := (true, "dda3435f846a1296f38695a788d470ea344cdc9851c3ad2b60759d7391c0ab71"), looks := false }, kinds := [], alts := [], laidByText := true, laidKinds := [.data, .pinned], laidTests := true, laidLooks := .later }
def PipePlaysUptoCardSaid : Prop := Claim7.holds Tryd.pinned (.plain (OpenSpec.upto pipePlaysSpec)) pipePlaysUptoCard
end Rows
end Go.Proofs.YtihhadgkcdkemaaDoor
