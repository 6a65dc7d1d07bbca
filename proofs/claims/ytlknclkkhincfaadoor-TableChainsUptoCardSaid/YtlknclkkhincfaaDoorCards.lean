/-
  DERIVED. GIVEN WITH THE SEED: THE CARDS: each row of YtlknclkkhincfaaDoorRows.lean that lists a variable, with what it lists TIED to the program's text (the seventh form; the later family's looks); each row that meets fmt, with fmt's text TOLD by the authors' own Lean function (tested against real Go, not proved from fmt's source: count such statements apart). THE CARD IS WHAT COUNTS. Prove the row's statement (the work); the ties are given (YtlknclkkhincfaaDoorTie.lean); close each card by the builder's one call (the guide's Derived/Test/ToyasCard.lean, 'card_holds'). Laid BY PROGRAM, IN A SANDBOX (cutbox-door.mjs). By AI agents, Wed Nov 11 2026. No macro, syntax, notation, axiom, sorry.
-/
import Derived.Test.YtlknclkkhincfaaDoorRows
import GoSem.ClaimSeven
namespace Go.Proofs.YtlknclkkhincfaaDoor
namespace Rows

/-- THE TIED CARD OF 'waybilllaw06.TableParses'. -/
def tableParsesCard : Claim7 := { stood := { row := tableParsesRow, standIns := [], harness := (true, "f84533abec2000a954b31089f67b8900bb8f016eb399c0876ae4761d45e90e69"), looks := false }, kinds := [], alts := [], laidByText := true, laidKinds := [.data, .pinned], laidTests := true, laidLooks := .later }
def TableParsesCardSaid : Prop := Claim7.holds Tryd.pinned (.plain (OpenSpec.ofChange tableParsesSpec)) tableParsesCard

/-- THE TIED CARD OF 'waybilllaw06.TableTurns'. -/
def tableTurnsCard : Claim7 := { stood := { row := tableTurnsRow, standIns := [], harness := (true, "f84533abec2000a954b31089f67b8900bb8f016eb399c0876ae4761d45e90e69"), looks := false }, kinds := [], alts := [], laidByText := true, laidKinds := [.data, .pinned], laidTests := true, laidLooks := .later }
def TableTurnsCardSaid : Prop := Claim7.holds Tryd.pinned (.plain (OpenSpec.ofChange tableTurnsSpec)) tableTurnsCard

/-- THE TIED CARD OF 'waybilllaw06.TableChains'. -/
def tableChainsCard : Claim7 := { stood := { row := tableChainsRow, standIns := [], harness := (true, "f84533abec2000a954b31089f67b8900bb8f016eb399c0876ae4761d45e90e69"), looks := false }, kinds := [], alts := [], laidByText := true, laidKinds := [.data, .pinned], laidTests := true, laidLooks := .later }
def TableChainsCardSaid : Prop := Claim7.holds Tryd.pinned (.plain (OpenSpec.ofChange tableChainsSpec)) tableChainsCard

/-- THE SECOND FORM's CARD OF 'waybilllaw06.TableParses'. -/
def tableParsesUptoCard : Claim7 := { stood := { row := tableParsesUptoRow, standIns := [], harness := (true, "f84533abec2000a954b31089f67b8900bb8f016eb399c0876ae4761d45e90e69"), looks := false }, kinds := [], alts := [], laidByText := true, laidKinds := [.data, .pinned], laidTests := true, laidLooks := .later }
def TableParsesUptoCardSaid : Prop := Claim7.holds Tryd.pinned (.plain (OpenSpec.upto tableParsesSpec)) tableParsesUptoCard

/-- THE SECOND FORM's CARD OF 'waybilllaw06.TableTurns'. -/
def tableTurnsUptoCard : Claim7 := { stood := { row := tableTurnsUptoRow, standIns := [], harness := (true, "f84533abec2000a954b31089f67b8900bb8f016eb399c0876ae4761d45e90e69"), looks := false }, kinds := [], alts := [], laidByText := true, laidKinds := [.data, .pinned], laidTests := true, laidLooks := .later }
def TableTurnsUptoCardSaid : Prop := Claim7.holds Tryd.pinned (.plain (OpenSpec.upto tableTurnsSpec)) tableTurnsUptoCard

/-- THE SECOND FORM's CARD OF 'waybilllaw06.TableChains'. -/
def tableChainsUptoCard : Claim7 := { stood := { row := tableChainsUptoRow, standIns := [], harness := (true, "f84533abec2000a954b31089f67b8900bb8f016eb399c0876ae4761d45e90e69"), looks := false }, kinds := [], alts := [], laidByText := true, laidKinds := [.data, .pinned], laidTests := true, laidLooks := .later }
def TableChainsUptoCardSaid : Prop := Claim7.holds Tryd.pinned (.plain (OpenSpec.upto tableChainsSpec)) tableChainsUptoCard
end Rows
end Go.Proofs.YtlknclkkhincfaaDoor
