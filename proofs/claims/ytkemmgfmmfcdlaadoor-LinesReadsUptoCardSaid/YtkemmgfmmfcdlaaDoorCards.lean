/-
  DERIVED. GIVEN WITH THE SEED: THE CARDS: each row of YtkemmgfmmfcdlaaDoorRows.lean that lists a variable, with what it lists TIED to the program's text (the seventh form; the later family's looks); each row that meets fmt, with fmt's text TOLD by the authors' own Lean function (tested against real Go, not proved from fmt's source: count such statements apart). THE CARD IS WHAT COUNTS. Prove the row's statement (the work); the ties are given (YtkemmgfmmfcdlaaDoorTie.lean); close each card by the builder's one call (the guide's Derived/Test/ToyasCard.lean, 'card_holds'). Laid BY PROGRAM, IN A SANDBOX (cutbox-door.mjs). By AI agents, Wed Nov 11 2026. No macro, syntax, notation, axiom, sorry.
-/
import Derived.Test.YtkemmgfmmfcdlaaDoorRows
import GoSem.ClaimSeven
namespace Go.Proofs.YtkemmgfmmfcdlaaDoor
namespace Rows

/-- THE TIED CARD OF 'waybilllaw12.LinesReads'. -/
def linesReadsCard : Claim7 := { stood := { row := linesReadsRow, standIns := [], harness := (true, "c96ce79798ee03fbf0dea0f0527b01480cc0e0a5a78d7e41d83778ddce576ba5"), looks := false }, kinds := [], alts := [], laidByText := true, laidKinds := [.data, .pinned], laidTests := true, laidLooks := .later }
def LinesReadsCardSaid : Prop := Claim7.holds Tryd.pinned (.plain (OpenSpec.ofChange linesReadsSpec)) linesReadsCard

/-- THE TIED CARD OF 'waybilllaw12.LinesPieces'. -/
def linesPiecesCard : Claim7 := { stood := { row := linesPiecesRow, standIns := [], harness := (true, "c96ce79798ee03fbf0dea0f0527b01480cc0e0a5a78d7e41d83778ddce576ba5"), looks := false }, kinds := [], alts := [], laidByText := true, laidKinds := [.data, .pinned], laidTests := true, laidLooks := .later }
def LinesPiecesCardSaid : Prop := Claim7.holds Tryd.pinned (.plain (OpenSpec.ofChange linesPiecesSpec)) linesPiecesCard

/-- THE TIED CARD OF 'waybilllaw12.LinesStuffs'. -/
def linesStuffsCard : Claim7 := { stood := { row := linesStuffsRow, standIns := [], harness := (true, "c96ce79798ee03fbf0dea0f0527b01480cc0e0a5a78d7e41d83778ddce576ba5"), looks := false }, kinds := [], alts := [], laidByText := true, laidKinds := [.data, .pinned], laidTests := true, laidLooks := .later }
def LinesStuffsCardSaid : Prop := Claim7.holds Tryd.pinned (.plain (OpenSpec.ofChange linesStuffsSpec)) linesStuffsCard

/-- THE TIED CARD OF 'waybilllaw12.LinesBack'. -/
def linesBackCard : Claim7 := { stood := { row := linesBackRow, standIns := [], harness := (true, "c96ce79798ee03fbf0dea0f0527b01480cc0e0a5a78d7e41d83778ddce576ba5"), looks := false }, kinds := [], alts := [], laidByText := true, laidKinds := [.data, .pinned], laidTests := true, laidLooks := .later }
def LinesBackCardSaid : Prop := Claim7.holds Tryd.pinned (.plain (OpenSpec.ofChange linesBackSpec)) linesBackCard

/-- THE SECOND FORM's CARD OF 'waybilllaw12.LinesReads'. -/
def linesReadsUptoCard : Claim7 := { stood := { row := linesReadsUptoRow, standIns := [], harness := (true, "c96ce79798ee03fbf0dea0f0527b01480cc0e0a5a78d7e41d83778ddce576ba5"), looks := false }, kinds := [], alts := [], laidByText := true, laidKinds := [.data, .pinned], laidTests := true, laidLooks := .later }
def LinesReadsUptoCardSaid : Prop := Claim7.holds Tryd.pinned (.plain (OpenSpec.upto linesReadsSpec)) linesReadsUptoCard

/-- THE SECOND FORM's CARD OF 'waybilllaw12.LinesPieces'. -/
def linesPiecesUptoCard : Claim7 := { stood := { row := linesPiecesUptoRow, standIns := [], harness := (true, "c96ce79798ee03fbf0dea0f0527b01480cc0e0a5a78d7e41d83778ddce576ba5"), looks := false }, kinds := [], alts := [], laidByText := true, laidKinds := [.data, .pinned], laidTests := true, laidLooks := .later }
def LinesPiecesUptoCardSaid : Prop := Claim7.holds Tryd.pinned (.plain (OpenSpec.upto linesPiecesSpec)) linesPiecesUptoCard

/-- THE SECOND FORM's CARD OF 'waybilllaw12.LinesStuffs'. -/
def linesStuffsUptoCard : Claim7 := { stood := { row := linesStuffsUptoRow, standIns := [], harness := (true, "c96ce79798ee03fbf0dea0f0527b01480cc0e0a5a78d7e41d83778ddce576ba5"), looks := false }, kinds := [], alts := [], laidByText := true, laidKinds := [.data, .pinned], laidTests := true, laidLooks := .later }
def LinesStuffsUptoCardSaid : Prop := Claim7.holds Tryd.pinned (.plain (OpenSpec.upto linesStuffsSpec)) linesStuffsUptoCard

/-- THE SECOND FORM's CARD OF 'waybilllaw12.LinesBack'. -/
def linesBackUptoCard : Claim7 := { stood := { row := linesBackUptoRow, standIns := [], harness := (true, "c96ce79798ee03fbf0dea0f0527b01480cc0e0a5a78d7e41d83778ddce576ba5"), looks := false }, kinds := [], alts := [], laidByText := true, laidKinds := [.data, .pinned], laidTests := true, laidLooks := .later }
def LinesBackUptoCardSaid : Prop := Claim7.holds Tryd.pinned (.plain (OpenSpec.upto linesBackSpec)) linesBackUptoCard
end Rows
end Go.Proofs.YtkemmgfmmfcdlaaDoor
