/-
  DERIVED. GIVEN WITH THE SEED: THE CARDS: each row of YtjnjnccfojfghaaGreatDoorRows.lean that lists a variable, with what it lists TIED to the program's text (the seventh form; the later family's looks); each row that meets fmt, with fmt's text TOLD by the authors' own Lean function (tested against real Go, not proved from fmt's source: count such statements apart). THE CARD IS WHAT COUNTS. Prove the row's statement (the work); the ties are given (YtjnjnccfojfghaaGreatDoorTie.lean); close each card by the builder's one call (the guide's Derived/Test/ToyasCard.lean, 'card_holds'). Laid BY PROGRAM, IN A SANDBOX (cutbox-door.mjs). By AI agents, Wed Nov 11 2026. No macro, syntax, notation, axiom, sorry.
-/
import Derived.Test.YtjnjnccfojfghaaGreatDoorRows
import GoSem.ClaimSeven
namespace Go.Proofs.YtjnjnccfojfghaaGreatDoor
namespace Rows

/-- THE TIED CARD OF 'waybilllaw20.SmtpcOrder'. -/
def smtpcOrderCard : Claim7 := { stood := { row := smtpcOrderRow, standIns := [], harness := (true, "c1be0802a7fd72f2479c06c6d8cd4217fa3eb00fabef1be01535531d92153308"), looks := true }, kinds := [], alts := [], laidByText := true, laidKinds := [.data, .data, .data, .data, .sentinel, .sentinel, .pinned], laidTests := true, laidLooks := .later }
def SmtpcOrderCardSaid : Prop := Claim7.holds Tryz.pinned (.plain (OpenSpec.ofChange smtpcOrderSpec)) smtpcOrderCard

/-- THE TIED CARD OF 'waybilllaw20.SmtpcCuts'. -/
def smtpcCutsCard : Claim7 := { stood := { row := smtpcCutsRow, standIns := [], harness := (true, "c1be0802a7fd72f2479c06c6d8cd4217fa3eb00fabef1be01535531d92153308"), looks := true }, kinds := [], alts := [], laidByText := true, laidKinds := [.data, .data, .data, .data, .sentinel, .sentinel, .pinned], laidTests := true, laidLooks := .later }
def SmtpcCutsCardSaid : Prop := Claim7.holds Tryz.pinned (.plain (OpenSpec.ofChange smtpcCutsSpec)) smtpcCutsCard

/-- THE TIED CARD OF 'waybilllaw20.SmtpcNew'. -/
def smtpcNewCard : Claim7 := { stood := { row := smtpcNewRow, standIns := [], harness := (true, "c1be0802a7fd72f2479c06c6d8cd4217fa3eb00fabef1be01535531d92153308"), looks := true }, kinds := [], alts := [], laidByText := true, laidKinds := [.data, .data, .data, .data, .sentinel, .sentinel, .pinned], laidTests := true, laidLooks := .later }
def SmtpcNewCardSaid : Prop := Claim7.holds Tryz.pinned (.plain (OpenSpec.ofChange smtpcNewSpec)) smtpcNewCard

/-- THE TIED CARD OF 'waybilllaw20.SmtpcDecides'. -/
def smtpcDecidesCard : Claim7 := { stood := { row := smtpcDecidesRow, standIns := [], harness := (true, "c1be0802a7fd72f2479c06c6d8cd4217fa3eb00fabef1be01535531d92153308"), looks := true }, kinds := [], alts := [], laidByText := true, laidKinds := [.data, .data, .data, .data, .sentinel, .sentinel, .pinned], laidTests := true, laidLooks := .later }
def SmtpcDecidesCardSaid : Prop := Claim7.holds Tryz.pinned (.plain (OpenSpec.ofChange smtpcDecidesSpec)) smtpcDecidesCard

/-- THE TIED CARD OF 'waybilllaw20.SmtpcWell'. -/
def smtpcWellCard : Claim7 := { stood := { row := smtpcWellRow, standIns := [], harness := (true, "c1be0802a7fd72f2479c06c6d8cd4217fa3eb00fabef1be01535531d92153308"), looks := true }, kinds := [], alts := [], laidByText := true, laidKinds := [.data, .data, .data, .data, .sentinel, .sentinel, .pinned], laidTests := true, laidLooks := .later }
def SmtpcWellCardSaid : Prop := Claim7.holds Tryz.pinned (.plain (OpenSpec.ofChange smtpcWellSpec)) smtpcWellCard

/-- THE TIED CARD OF 'waybilllaw20.SmtpcOver'. -/
def smtpcOverCard : Claim7 := { stood := { row := smtpcOverRow, standIns := [], harness := (true, "c1be0802a7fd72f2479c06c6d8cd4217fa3eb00fabef1be01535531d92153308"), looks := true }, kinds := [], alts := [], laidByText := true, laidKinds := [.data, .data, .data, .data, .sentinel, .sentinel, .pinned], laidTests := true, laidLooks := .later }
def SmtpcOverCardSaid : Prop := Claim7.holds Tryz.pinned (.plain (OpenSpec.ofChange smtpcOverSpec)) smtpcOverCard

/-- THE TIED CARD OF 'waybilllaw20.SmtpcSilent'. -/
def smtpcSilentCard : Claim7 := { stood := { row := smtpcSilentRow, standIns := [], harness := (true, "c1be0802a7fd72f2479c06c6d8cd4217fa3eb00fabef1be01535531d92153308"), looks := true }, kinds := [], alts := [], laidByText := true, laidKinds := [.data, .data, .data, .data, .sentinel, .sentinel, .pinned], laidTests := true, laidLooks := .later }
def SmtpcSilentCardSaid : Prop := Claim7.holds Tryz.pinned (.plain (OpenSpec.ofChange smtpcSilentSpec)) smtpcSilentCard

/-- THE TIED CARD OF 'waybilllaw20.SmtpcScripts'. -/
def smtpcScriptsCard : Claim7 := { stood := { row := smtpcScriptsRow, standIns := [], harness := (true, "c1be0802a7fd72f2479c06c6d8cd4217fa3eb00fabef1be01535531d92153308"), looks := true }, kinds := [], alts := [], laidByText := true, laidKinds := [.data, .data, .data, .data, .sentinel, .sentinel, .pinned], laidTests := true, laidLooks := .later }
def SmtpcScriptsCardSaid : Prop := Claim7.holds Tryz.pinned (.plain (OpenSpec.ofChange smtpcScriptsSpec)) smtpcScriptsCard

/-- THE SECOND FORM's CARD OF 'waybilllaw20.SmtpcOrder'. -/
def smtpcOrderUptoCard : Claim7 := { stood := { row := smtpcOrderUptoRow, standIns := [], harness := (true, "c1be0802a7fd72f2479c06c6d8cd4217fa3eb00fabef1be01535531d92153308"), looks := true }, kinds := [], alts := [], laidByText := true, laidKinds := [.data, .data, .data, .data, .sentinel, .sentinel, .pinned], laidTests := true, laidLooks := .later }
def SmtpcOrderUptoCardSaid : Prop := Claim7.holds Tryz.pinned (.plain (OpenSpec.upto smtpcOrderSpec)) smtpcOrderUptoCard

/-- THE SECOND FORM's CARD OF 'waybilllaw20.SmtpcCuts'. -/
def smtpcCutsUptoCard : Claim7 := { stood := { row := smtpcCutsUptoRow, standIns := [], harness := (true, "c1be0802a7fd72f2479c06c6d8cd4217fa3eb00fabef1be01535531d92153308"), looks := true }, kinds := [], alts := [], laidByText := true, laidKinds := [.data, .data, .data, .data, .sentinel, .sentinel, .pinned], laidTests := true, laidLooks := .later }
def SmtpcCutsUptoCardSaid : Prop := Claim7.holds Tryz.pinned (.plain (OpenSpec.upto smtpcCutsSpec)) smtpcCutsUptoCard

/-- THE SECOND FORM's CARD OF 'waybilllaw20.SmtpcNew'. -/
def smtpcNewUptoCard : Claim7 := { stood := { row := smtpcNewUptoRow, standIns := [], harness := (true, "c1be0802a7fd72f2479c06c6d8cd4217fa3eb00fabef1be01535531d92153308"), looks := true }, kinds := [], alts := [], laidByText := true, laidKinds := [.data, .data, .data, .data, .sentinel, .sentinel, .pinned], laidTests := true, laidLooks := .later }
def SmtpcNewUptoCardSaid : Prop := Claim7.holds Tryz.pinned (.plain (OpenSpec.upto smtpcNewSpec)) smtpcNewUptoCard

/-- THE SECOND FORM's CARD OF 'waybilllaw20.SmtpcDecides'. -/
def smtpcDecidesUptoCard : Claim7 := { stood := { row := smtpcDecidesUptoRow, standIns := [], harness := (true, "c1be0802a7fd72f2479c06c6d8cd4217fa3eb00fabef1be01535531d92153308"), looks := true }, kinds := [], alts := [], laidByText := true, laidKinds := [.data, .data, .data, .data, .sentinel, .sentinel, .pinned], laidTests := true, laidLooks := .later }
def SmtpcDecidesUptoCardSaid : Prop := Claim7.holds Tryz.pinned (.plain (OpenSpec.upto smtpcDecidesSpec)) smtpcDecidesUptoCard

/-- THE SECOND FORM's CARD OF 'waybilllaw20.SmtpcWell'. -/
def smtpcWellUptoCard : Claim7 := { stood := { row := smtpcWellUptoRow, standIns := [], harness := (true, "c1be0802a7fd72f2479c06c6d8cd4217fa3eb00fabef1be01535531d92153308"), looks := true }, kinds := [], alts := [], laidByText := true, laidKinds := [.data, .data, .data, .data, .sentinel, .sentinel, .pinned], laidTests := true, laidLooks := .later }
def SmtpcWellUptoCardSaid : Prop := Claim7.holds Tryz.pinned (.plain (OpenSpec.upto smtpcWellSpec)) smtpcWellUptoCard

/-- THE SECOND FORM's CARD OF 'waybilllaw20.SmtpcOver'. -/
def smtpcOverUptoCard : Claim7 := { stood := { row := smtpcOverUptoRow, standIns := [], harness := (true, "c1be0802a7fd72f2479c06c6d8cd4217fa3eb00fabef1be01535531d92153308"), looks := true }, kinds := [], alts := [], laidByText := true, laidKinds := [.data, .data, .data, .data, .sentinel, .sentinel, .pinned], laidTests := true, laidLooks := .later }
def SmtpcOverUptoCardSaid : Prop := Claim7.holds Tryz.pinned (.plain (OpenSpec.upto smtpcOverSpec)) smtpcOverUptoCard

/-- THE SECOND FORM's CARD OF 'waybilllaw20.SmtpcSilent'. -/
def smtpcSilentUptoCard : Claim7 := { stood := { row := smtpcSilentUptoRow, standIns := [], harness := (true, "c1be0802a7fd72f2479c06c6d8cd4217fa3eb00fabef1be01535531d92153308"), looks := true }, kinds := [], alts := [], laidByText := true, laidKinds := [.data, .data, .data, .data, .sentinel, .sentinel, .pinned], laidTests := true, laidLooks := .later }
def SmtpcSilentUptoCardSaid : Prop := Claim7.holds Tryz.pinned (.plain (OpenSpec.upto smtpcSilentSpec)) smtpcSilentUptoCard

/-- THE SECOND FORM's CARD OF 'waybilllaw20.SmtpcScripts'. -/
def smtpcScriptsUptoCard : Claim7 := { stood := { row := smtpcScriptsUptoRow, standIns := [], harness := (true, "c1be0802a7fd72f2479c06c6d8cd4217fa3eb00fabef1be01535531d92153308"), looks := true }, kinds := [], alts := [], laidByText := true, laidKinds := [.data, .data, .data, .data, .sentinel, .sentinel, .pinned], laidTests := true, laidLooks := .later }
def SmtpcScriptsUptoCardSaid : Prop := Claim7.holds Tryz.pinned (.plain (OpenSpec.upto smtpcScriptsSpec)) smtpcScriptsUptoCard
end Rows
end Go.Proofs.YtjnjnccfojfghaaGreatDoor
