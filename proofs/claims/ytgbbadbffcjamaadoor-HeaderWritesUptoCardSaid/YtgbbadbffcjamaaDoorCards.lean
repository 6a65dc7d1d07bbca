/-
  DERIVED. GIVEN WITH THE SEED: THE CARDS: each row of YtgbbadbffcjamaaDoorRows.lean that lists a variable, with what it lists TIED to the program's text (the seventh form; the later family's looks); each row that meets fmt, with fmt's text TOLD by the authors' own Lean function (tested against real Go, not proved from fmt's source: count such statements apart). THE CARD IS WHAT COUNTS. Prove the row's statement (the work); the ties are given (YtgbbadbffcjamaaDoorTie.lean); close each card by the builder's one call (the guide's Derived/Test/ToyasCard.lean, 'card_holds'). Laid BY PROGRAM, IN A SANDBOX (cutbox-door.mjs). By AI agents, Wed Nov 11 2026. No macro, syntax, notation, axiom, sorry.
-/
import Derived.Test.YtgbbadbffcjamaaDoorRows
import GoSem.ClaimSeven
namespace Go.Proofs.YtgbbadbffcjamaaDoor
namespace Rows

/-- THE TIED CARD OF 'waybilllaw11.HeaderCovers'. -/
def headerCoversCard : Claim7 := { stood := { row := headerCoversRow, standIns := [], harness := (true, "05b5220fd7ed9245acb529409a156f11667bb700a14e7711a406cfbdb8b719ee"), looks := false }, kinds := [], alts := [], laidByText := true, laidKinds := [.data, .pinned], laidTests := true, laidLooks := .later }
def HeaderCoversCardSaid : Prop := Claim7.holds Tryd.pinned (.plain (OpenSpec.ofChange headerCoversSpec)) headerCoversCard

/-- THE TIED CARD OF 'waybilllaw11.HeaderSplits'. -/
def headerSplitsCard : Claim7 := { stood := { row := headerSplitsRow, standIns := [], harness := (true, "05b5220fd7ed9245acb529409a156f11667bb700a14e7711a406cfbdb8b719ee"), looks := false }, kinds := [], alts := [], laidByText := true, laidKinds := [.data, .pinned], laidTests := true, laidLooks := .later }
def HeaderSplitsCardSaid : Prop := Claim7.holds Tryd.pinned (.plain (OpenSpec.ofChange headerSplitsSpec)) headerSplitsCard

/-- THE TIED CARD OF 'waybilllaw11.HeaderWrites'. -/
def headerWritesCard : Claim7 := { stood := { row := headerWritesRow, standIns := [], harness := (true, "05b5220fd7ed9245acb529409a156f11667bb700a14e7711a406cfbdb8b719ee"), looks := false }, kinds := [], alts := [], laidByText := true, laidKinds := [.data, .pinned], laidTests := true, laidLooks := .later }
def HeaderWritesCardSaid : Prop := Claim7.holds Tryd.pinned (.plain (OpenSpec.ofChange headerWritesSpec)) headerWritesCard

/-- THE TIED CARD OF 'waybilllaw11.HeaderAdds'. -/
def headerAddsCard : Claim7 := { stood := { row := headerAddsRow, standIns := [], harness := (true, "05b5220fd7ed9245acb529409a156f11667bb700a14e7711a406cfbdb8b719ee"), looks := false }, kinds := [], alts := [], laidByText := true, laidKinds := [.data, .pinned], laidTests := true, laidLooks := .later }
def HeaderAddsCardSaid : Prop := Claim7.holds Tryd.pinned (.plain (OpenSpec.ofChange headerAddsSpec)) headerAddsCard

/-- THE SECOND FORM's CARD OF 'waybilllaw11.HeaderCovers'. -/
def headerCoversUptoCard : Claim7 := { stood := { row := headerCoversUptoRow, standIns := [], harness := (true, "05b5220fd7ed9245acb529409a156f11667bb700a14e7711a406cfbdb8b719ee"), looks := false }, kinds := [], alts := [], laidByText := true, laidKinds := [.data, .pinned], laidTests := true, laidLooks := .later }
def HeaderCoversUptoCardSaid : Prop := Claim7.holds Tryd.pinned (.plain (OpenSpec.upto headerCoversSpec)) headerCoversUptoCard

/-- THE SECOND FORM's CARD OF 'waybilllaw11.HeaderSplits'. -/
def headerSplitsUptoCard : Claim7 := { stood := { row := headerSplitsUptoRow, standIns := [], harness := (true, "05b5220fd7ed9245acb529409a156f11667bb700a14e7711a406cfbdb8b719ee"), looks := false }, kinds := [], alts := [], laidByText := true, laidKinds := [.data, .pinned], laidTests := true, laidLooks := .later }
def HeaderSplitsUptoCardSaid : Prop := Claim7.holds Tryd.pinned (.plain (OpenSpec.upto headerSplitsSpec)) headerSplitsUptoCard

/-- THE SECOND FORM's CARD OF 'waybilllaw11.HeaderWrites'. -/
def headerWritesUptoCard : Claim7 := { stood := { row := headerWritesUptoRow, standIns := [], harness := (true, "05b5220fd7ed9245acb529409a156f11667bb700a14e7711a406cfbdb8b719ee"), looks := false }, kinds := [], alts := [], laidByText := true, laidKinds := [.data, .pinned], laidTests := true, laidLooks := .later }
def HeaderWritesUptoCardSaid : Prop := Claim7.holds Tryd.pinned (.plain (OpenSpec.upto headerWritesSpec)) headerWritesUptoCard

/-- THE SECOND FORM's CARD OF 'waybilllaw11.HeaderAdds'. -/
def headerAddsUptoCard : Claim7 := { stood := { row := headerAddsUptoRow, standIns := [], harness := (true, "05b5220fd7ed9245acb529409a156f11667bb700a14e7711a406cfbdb8b719ee"), looks := false }, kinds := [], alts := [], laidByText := true, laidKinds := [.data, .pinned], laidTests := true, laidLooks := .later }
def HeaderAddsUptoCardSaid : Prop := Claim7.holds Tryd.pinned (.plain (OpenSpec.upto headerAddsSpec)) headerAddsUptoCard
end Rows
end Go.Proofs.YtgbbadbffcjamaaDoor
