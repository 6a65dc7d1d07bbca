/-
  DERIVED. GIVEN WITH THE SEED: THE CARDS: each row of YtliigjmbgbckpaaDoorRows.lean that lists a variable, with what it lists TIED to the program's text (the seventh form; the later family's looks); each row that meets fmt, with fmt's text TOLD by the authors' own Lean function (tested against real Go, not proved from fmt's source: count such statements apart). THE CARD IS WHAT COUNTS. Prove the row's statement (the work); the ties are given (YtliigjmbgbckpaaDoorTie.lean); close each card by the builder's one call (the guide's Derived/Test/ToyasCard.lean, 'card_holds'). Laid BY PROGRAM, IN A SANDBOX (cutbox-door.mjs). By AI agents, Wed Nov 11 2026. No macro, syntax, notation, axiom, sorry.
-/
import Derived.Test.YtliigjmbgbckpaaDoorRows
import GoSem.ClaimSeven
namespace Go.Proofs.YtliigjmbgbckpaaDoor
namespace Rows

/-- THE TIED CARD OF 'waybilllaw02.CodecNumbers'. -/
def codecNumbersCard : Claim7 := { stood := { row := codecNumbersRow, standIns := [], harness := (true, "078cff7e47050088e146ccae5e4a71ad2d2a37cf76fe1106e436c14c95a8f40d"), looks := true }, kinds := [], alts := [], laidByText := true, laidKinds := [.data, .data, .data], laidTests := true, laidLooks := .later }
def CodecNumbersCardSaid : Prop := Claim7.holds Tryd.pinned (.plain (OpenSpec.ofChange codecNumbersSpec)) codecNumbersCard

/-- THE TIED CARD OF 'waybilllaw02.CodecTexts'. -/
def codecTextsCard : Claim7 := { stood := { row := codecTextsRow, standIns := [], harness := (true, "078cff7e47050088e146ccae5e4a71ad2d2a37cf76fe1106e436c14c95a8f40d"), looks := true }, kinds := [], alts := [], laidByText := true, laidKinds := [.data, .data, .data], laidTests := true, laidLooks := .later }
def CodecTextsCardSaid : Prop := Claim7.holds Tryd.pinned (.plain (OpenSpec.ofChange codecTextsSpec)) codecTextsCard

/-- THE TIED CARD OF 'waybilllaw02.CodecTorn'. -/
def codecTornCard : Claim7 := { stood := { row := codecTornRow, standIns := [], harness := (true, "078cff7e47050088e146ccae5e4a71ad2d2a37cf76fe1106e436c14c95a8f40d"), looks := true }, kinds := [], alts := [], laidByText := true, laidKinds := [.data, .data, .data], laidTests := true, laidLooks := .later }
def CodecTornCardSaid : Prop := Claim7.holds Tryd.pinned (.plain (OpenSpec.ofChange codecTornSpec)) codecTornCard

/-- THE TIED CARD OF 'waybilllaw02.CodecTurned'. -/
def codecTurnedCard : Claim7 := { stood := { row := codecTurnedRow, standIns := [], harness := (true, "078cff7e47050088e146ccae5e4a71ad2d2a37cf76fe1106e436c14c95a8f40d"), looks := true }, kinds := [], alts := [], laidByText := true, laidKinds := [.data, .data, .data], laidTests := true, laidLooks := .later }
def CodecTurnedCardSaid : Prop := Claim7.holds Tryd.pinned (.plain (OpenSpec.ofChange codecTurnedSpec)) codecTurnedCard

/-- THE TIED CARD OF 'waybilllaw02.CodecTakes'. -/
def codecTakesCard : Claim7 := { stood := { row := codecTakesRow, standIns := [], harness := (true, "078cff7e47050088e146ccae5e4a71ad2d2a37cf76fe1106e436c14c95a8f40d"), looks := true }, kinds := [], alts := [], laidByText := true, laidKinds := [.data, .data, .data, .sentinel, .sentinel], laidTests := true, laidLooks := .later }
def CodecTakesCardSaid : Prop := Claim7.holds Tryd.pinned (.plain (OpenSpec.ofChange codecTakesSpec)) codecTakesCard

/-- THE TIED CARD OF 'waybilllaw02.CodecSums'. -/
def codecSumsCard : Claim7 := { stood := { row := codecSumsRow, standIns := [], harness := (true, "078cff7e47050088e146ccae5e4a71ad2d2a37cf76fe1106e436c14c95a8f40d"), looks := true }, kinds := [], alts := [], laidByText := true, laidKinds := [.data, .data, .data, .sentinel, .sentinel], laidTests := true, laidLooks := .later }
def CodecSumsCardSaid : Prop := Claim7.holds Tryd.pinned (.plain (OpenSpec.ofChange codecSumsSpec)) codecSumsCard

/-- THE SECOND FORM's CARD OF 'waybilllaw02.CodecNumbers'. -/
def codecNumbersUptoCard : Claim7 := { stood := { row := codecNumbersUptoRow, standIns := [], harness := (true, "078cff7e47050088e146ccae5e4a71ad2d2a37cf76fe1106e436c14c95a8f40d"), looks := true }, kinds := [], alts := [], laidByText := true, laidKinds := [.data, .data, .data], laidTests := true, laidLooks := .later }
def CodecNumbersUptoCardSaid : Prop := Claim7.holds Tryd.pinned (.plain (OpenSpec.upto codecNumbersSpec)) codecNumbersUptoCard

/-- THE SECOND FORM's CARD OF 'waybilllaw02.CodecTexts'. -/
def codecTextsUptoCard : Claim7 := { stood := { row := codecTextsUptoRow, standIns := [], harness := (true, "078cff7e47050088e146ccae5e4a71ad2d2a37cf76fe1106e436c14c95a8f40d"), looks := true }, kinds := [], alts := [], laidByText := true, laidKinds := [.data, .data, .data], laidTests := true, laidLooks := .later }
def CodecTextsUptoCardSaid : Prop := Claim7.holds Tryd.pinned (.plain (OpenSpec.upto codecTextsSpec)) codecTextsUptoCard

/-- THE SECOND FORM's CARD OF 'waybilllaw02.CodecTorn'. -/
def codecTornUptoCard : Claim7 := { stood := { row := codecTornUptoRow, standIns := [], harness := (true, "078cff7e47050088e146ccae5e4a71ad2d2a37cf76fe1106e436c14c95a8f40d"), looks := true }, kinds := [], alts := [], laidByText := true, laidKinds := [.data, .data, .data], laidTests := true, laidLooks := .later }
def CodecTornUptoCardSaid : Prop := Claim7.holds Tryd.pinned (.plain (OpenSpec.upto codecTornSpec)) codecTornUptoCard

/-- THE SECOND FORM's CARD OF 'waybilllaw02.CodecTurned'. -/
def codecTurnedUptoCard : Claim7 := { stood := { row := codecTurnedUptoRow, standIns := [], harness := (true, "078cff7e47050088e146ccae5e4a71ad2d2a37cf76fe1106e436c14c95a8f40d"), looks := true }, kinds := [], alts := [], laidByText := true, laidKinds := [.data, .data, .data], laidTests := true, laidLooks := .later }
def CodecTurnedUptoCardSaid : Prop := Claim7.holds Tryd.pinned (.plain (OpenSpec.upto codecTurnedSpec)) codecTurnedUptoCard

/-- THE SECOND FORM's CARD OF 'waybilllaw02.CodecTakes'. -/
def codecTakesUptoCard : Claim7 := { stood := { row := codecTakesUptoRow, standIns := [], harness := (true, "078cff7e47050088e146ccae5e4a71ad2d2a37cf76fe1106e436c14c95a8f40d"), looks := true }, kinds := [], alts := [], laidByText := true, laidKinds := [.data, .data, .data, .sentinel, .sentinel], laidTests := true, laidLooks := .later }
def CodecTakesUptoCardSaid : Prop := Claim7.holds Tryd.pinned (.plain (OpenSpec.upto codecTakesSpec)) codecTakesUptoCard

/-- THE SECOND FORM's CARD OF 'waybilllaw02.CodecSums'. -/
def codecSumsUptoCard : Claim7 := { stood := { row := codecSumsUptoRow, standIns := [], harness := (true, "078cff7e47050088e146ccae5e4a71ad2d2a37cf76fe1106e436c14c95a8f40d"), looks := true }, kinds := [], alts := [], laidByText := true, laidKinds := [.data, .data, .data, .sentinel, .sentinel], laidTests := true, laidLooks := .later }
def CodecSumsUptoCardSaid : Prop := Claim7.holds Tryd.pinned (.plain (OpenSpec.upto codecSumsSpec)) codecSumsUptoCard
end Rows
end Go.Proofs.YtliigjmbgbckpaaDoor
