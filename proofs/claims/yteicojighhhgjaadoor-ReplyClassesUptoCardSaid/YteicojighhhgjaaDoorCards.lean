/-
  DERIVED. GIVEN WITH THE SEED: THE CARDS: each row of YteicojighhhgjaaDoorRows.lean that lists a variable, with what it lists TIED to the program's text (the seventh form; the later family's looks); each row that meets fmt, with fmt's text TOLD by the authors' own Lean function (tested against real Go, not proved from fmt's source: count such statements apart). THE CARD IS WHAT COUNTS. Prove the row's statement (the work); the ties are given (YteicojighhhgjaaDoorTie.lean); close each card by the builder's one call (the guide's Derived/Test/ToyasCard.lean, 'card_holds'). Laid BY PROGRAM, IN A SANDBOX (cutbox-door.mjs). By AI agents, Wed Nov 11 2026. No macro, syntax, notation, axiom, sorry.
-/
import Derived.Test.YteicojighhhgjaaDoorRows
import GoSem.ClaimSeven
namespace Go.Proofs.YteicojighhhgjaaDoor
namespace Rows

/-- THE TIED CARD OF 'waybilllaw14.ReplyPrints'. -/
def replyPrintsCard : Claim7 := { stood := { row := replyPrintsRow, standIns := [], harness := (true, "58792ab1a32a6535d297a37408d469aa601787e1850b545b04be2184a226dd2d"), looks := true }, kinds := [], alts := [], laidByText := true, laidKinds := [.data, .data, .data, .sentinel], laidTests := true, laidLooks := .later }
def ReplyPrintsCardSaid : Prop := Claim7.holds Tryd.pinned (.plain (OpenSpec.ofChange replyPrintsSpec)) replyPrintsCard

/-- THE TIED CARD OF 'waybilllaw14.ReplyApart'. -/
def replyApartCard : Claim7 := { stood := { row := replyApartRow, standIns := [], harness := (true, "58792ab1a32a6535d297a37408d469aa601787e1850b545b04be2184a226dd2d"), looks := true }, kinds := [], alts := [], laidByText := true, laidKinds := [.data, .data, .data, .sentinel], laidTests := true, laidLooks := .later }
def ReplyApartCardSaid : Prop := Claim7.holds Tryd.pinned (.plain (OpenSpec.ofChange replyApartSpec)) replyApartCard

/-- THE TIED CARD OF 'waybilllaw14.ReplyReads'. -/
def replyReadsCard : Claim7 := { stood := { row := replyReadsRow, standIns := [], harness := (true, "58792ab1a32a6535d297a37408d469aa601787e1850b545b04be2184a226dd2d"), looks := true }, kinds := [], alts := [], laidByText := true, laidKinds := [.data, .data, .data, .sentinel, .sentinel, .sentinel], laidTests := true, laidLooks := .later }
def ReplyReadsCardSaid : Prop := Claim7.holds Tryd.pinned (.plain (OpenSpec.ofChange replyReadsSpec)) replyReadsCard

/-- THE TIED CARD OF 'waybilllaw14.ReplyBack'. -/
def replyBackCard : Claim7 := { stood := { row := replyBackRow, standIns := [], harness := (true, "58792ab1a32a6535d297a37408d469aa601787e1850b545b04be2184a226dd2d"), looks := true }, kinds := [], alts := [], laidByText := true, laidKinds := [.data, .data, .data, .sentinel, .sentinel, .sentinel], laidTests := true, laidLooks := .later }
def ReplyBackCardSaid : Prop := Claim7.holds Tryd.pinned (.plain (OpenSpec.ofChange replyBackSpec)) replyBackCard

/-- THE TIED CARD OF 'waybilllaw14.ReplySame'. -/
def replySameCard : Claim7 := { stood := { row := replySameRow, standIns := [], harness := (true, "58792ab1a32a6535d297a37408d469aa601787e1850b545b04be2184a226dd2d"), looks := true }, kinds := [], alts := [], laidByText := true, laidKinds := [.data, .data, .data, .sentinel, .sentinel, .sentinel], laidTests := true, laidLooks := .later }
def ReplySameCardSaid : Prop := Claim7.holds Tryd.pinned (.plain (OpenSpec.ofChange replySameSpec)) replySameCard

/-- THE TIED CARD OF 'waybilllaw14.ReplyClasses'. -/
def replyClassesCard : Claim7 := { stood := { row := replyClassesRow, standIns := [], harness := (true, "58792ab1a32a6535d297a37408d469aa601787e1850b545b04be2184a226dd2d"), looks := true }, kinds := [], alts := [], laidByText := true, laidKinds := [.data, .data, .data, .data, .sentinel, .sentinel, .sentinel, .pinned], laidTests := true, laidLooks := .later }
def ReplyClassesCardSaid : Prop := Claim7.holds Tryd.pinned (.plain (OpenSpec.ofChange replyClassesSpec)) replyClassesCard

/-- THE SECOND FORM's CARD OF 'waybilllaw14.ReplyPrints'. -/
def replyPrintsUptoCard : Claim7 := { stood := { row := replyPrintsUptoRow, standIns := [], harness := (true, "58792ab1a32a6535d297a37408d469aa601787e1850b545b04be2184a226dd2d"), looks := true }, kinds := [], alts := [], laidByText := true, laidKinds := [.data, .data, .data, .sentinel], laidTests := true, laidLooks := .later }
def ReplyPrintsUptoCardSaid : Prop := Claim7.holds Tryd.pinned (.plain (OpenSpec.upto replyPrintsSpec)) replyPrintsUptoCard

/-- THE SECOND FORM's CARD OF 'waybilllaw14.ReplyApart'. -/
def replyApartUptoCard : Claim7 := { stood := { row := replyApartUptoRow, standIns := [], harness := (true, "58792ab1a32a6535d297a37408d469aa601787e1850b545b04be2184a226dd2d"), looks := true }, kinds := [], alts := [], laidByText := true, laidKinds := [.data, .data, .data, .sentinel], laidTests := true, laidLooks := .later }
def ReplyApartUptoCardSaid : Prop := Claim7.holds Tryd.pinned (.plain (OpenSpec.upto replyApartSpec)) replyApartUptoCard

/-- THE SECOND FORM's CARD OF 'waybilllaw14.ReplyReads'. -/
def replyReadsUptoCard : Claim7 := { stood := { row := replyReadsUptoRow, standIns := [], harness := (true, "58792ab1a32a6535d297a37408d469aa601787e1850b545b04be2184a226dd2d"), looks := true }, kinds := [], alts := [], laidByText := true, laidKinds := [.data, .data, .data, .sentinel, .sentinel, .sentinel], laidTests := true, laidLooks := .later }
def ReplyReadsUptoCardSaid : Prop := Claim7.holds Tryd.pinned (.plain (OpenSpec.upto replyReadsSpec)) replyReadsUptoCard

/-- THE SECOND FORM's CARD OF 'waybilllaw14.ReplyBack'. -/
def replyBackUptoCard : Claim7 := { stood := { row := replyBackUptoRow, standIns := [], harness := (true, "58792ab1a32a6535d297a37408d469aa601787e1850b545b04be2184a226dd2d"), looks := true }, kinds := [], alts := [], laidByText := true, laidKinds := [.data, .data, .data, .sentinel, .sentinel, .sentinel], laidTests := true, laidLooks := .later }
def ReplyBackUptoCardSaid : Prop := Claim7.holds Tryd.pinned (.plain (OpenSpec.upto replyBackSpec)) replyBackUptoCard

/-- THE SECOND FORM's CARD OF 'waybilllaw14.ReplySame'. -/
def replySameUptoCard : Claim7 := { stood := { row := replySameUptoRow, standIns := [], harness := (true, "58792ab1a32a6535d297a37408d469aa601787e1850b545b04be2184a226dd2d"), looks := true }, kinds := [], alts := [], laidByText := true, laidKinds := [.data, .data, .data, .sentinel, .sentinel, .sentinel], laidTests := true, laidLooks := .later }
def ReplySameUptoCardSaid : Prop := Claim7.holds Tryd.pinned (.plain (OpenSpec.upto replySameSpec)) replySameUptoCard

/-- THE SECOND FORM's CARD OF 'waybilllaw14.ReplyClasses'. -/
def replyClassesUptoCard : Claim7 := { stood := { row := replyClassesUptoRow, standIns := [], harness := (true, "58792ab1a32a6535d297a37408d469aa601787e1850b545b04be2184a226dd2d"), looks := true }, kinds := [], alts := [], laidByText := true, laidKinds := [.data, .data, .data, .data, .sentinel, .sentinel, .sentinel, .pinned], laidTests := true, laidLooks := .later }
def ReplyClassesUptoCardSaid : Prop := Claim7.holds Tryd.pinned (.plain (OpenSpec.upto replyClassesSpec)) replyClassesUptoCard
end Rows
end Go.Proofs.YteicojighhhgjaaDoor
