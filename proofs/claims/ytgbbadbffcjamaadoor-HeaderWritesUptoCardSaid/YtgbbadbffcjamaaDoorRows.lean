/-
  NARROWER THAN 'FOR EVERY INPUT', by the rows' own cells (each row's printed sentence says how): HeaderCovers: laid · HeaderSplits: laid · HeaderWrites: laid · HeaderAdds: laid.
  DERIVED. THE GIVEN ROWS OF THIS SEAT. 4 by the template 'for every input the law returns true; each argument reads behind the call as it read before'; 0 by the template 'total and deterministic' (their statements: YtgbbadbffcjamaaDoorTotals.lean).
  GIVEN WITH THE SEED: the statements are not yours to turn. If you find one false, say at which input.
  Laid BY PROGRAM, IN A SANDBOX (cutbox-rows.mjs): the forced cells as the released guide's own fill.sh prints them over the translation 9284a8dc928abd3e… (all of the seat's roots in one cut). By AI agents, Wed Nov 11 2026. No macro, syntax, notation, axiom, sorry.
-/
import Derived.Test.YtgbbadbffcjamaaDoorChecked
import GoSem.PinnedTables
import GoSem.Claim
import GoSem.ClaimJoined
import GoSem.ClaimMapViews
import Derived.JoinedTies
import Derived.KernelRfl
namespace Go.Proofs.YtgbbadbffcjamaaDoor
/- THE CELL 'sum', in the pinned program and in every row, IS THE sha256 OF THE DUMP (.gsa) THAT YtgbbadbffcjamaaDoorProg.lean LOADS. Nothing in Lean hashes anything: it is a label: what it is worth is what the hold of that sum in a sandbox is worth. -/
noncomputable def Tryd.pinned : Pinned := { name := "ytgbbadbffcjamaadoor", sum := "9284a8dc928abd3e0fc412c3654a0ca533b39bb48a0365b991d90f1bccd0f658", checked := Tryd.checked }
namespace Rows
def none {H : Type} : Left H := { results := [], args := [] }

/- WHAT THE LISTED PACKAGE-LEVEL VARIABLES READ AS WHEN THE CALL BEGINS. Each datum BY PROGRAM (the guide's laid-datum.mjs) off the statement by which the dump's own 'gosem.cut.vars' lays the variable. In a bare row this is a premise. The card (YtgbbadbffcjamaaDoorCards.lean) ties it to the program's text. -/
def laid_unicode_utf8_acceptRanges {H : Type} : DataW H := .agg [.agg [.lit (.int .u8 128), .lit (.int .u8 191)], .agg [.lit (.int .u8 160), .lit (.int .u8 191)], .agg [.lit (.int .u8 128), .lit (.int .u8 159)], .agg [.lit (.int .u8 144), .lit (.int .u8 191)], .agg [.lit (.int .u8 128), .lit (.int .u8 143)], .agg [.lit (.int .u8 0), .lit (.int .u8 0)], .agg [.lit (.int .u8 0), .lit (.int .u8 0)], .agg [.lit (.int .u8 0), .lit (.int .u8 0)], .agg [.lit (.int .u8 0), .lit (.int .u8 0)], .agg [.lit (.int .u8 0), .lit (.int .u8 0)], .agg [.lit (.int .u8 0), .lit (.int .u8 0)], .agg [.lit (.int .u8 0), .lit (.int .u8 0)], .agg [.lit (.int .u8 0), .lit (.int .u8 0)], .agg [.lit (.int .u8 0), .lit (.int .u8 0)], .agg [.lit (.int .u8 0), .lit (.int .u8 0)], .agg [.lit (.int .u8 0), .lit (.int .u8 0)]]
/-- One of Go's own tables, pinned by name: the form's constant. -/
def laid_unicode_utf8_first : DataW Unit := Go.Pinned.utf8First

/-- 'waybilllaw11.HeaderCovers': WHATEVER THE INPUT: true; the input reads as it did. -/
def headerCoversSpec : ChangeSpec := { name := "headerCovers", fn := fun _ => fun
  | [d] => { results := [.lit (.bool true)], args := [d] }
  | _ => none }
def headerCoversRow : OpenClaim := { program := "ytgbbadbffcjamaadoor", sum := "9284a8dc928abd3e0fc412c3654a0ca533b39bb48a0365b991d90f1bccd0f658", func := "waybill/waybilllaw11.HeaderCovers", spec := "headerCovers", inPlace := ["internal/bytealg.IndexByte", "internal/bytealg.Index", "internal/abi.NoEscape", "internal/bytealg.CountString", "internal/bytealg.IndexByteString", "internal/bytealg.IndexString", "internal/bytealg.MakeNoZero"], unfollowed := true, recurses := true, named := ["internal/bytealg.MaxLen", "unicode/utf8.first", "unicode/utf8.acceptRanges"], apart := false, laid := [("unicode/utf8.acceptRanges", laid_unicode_utf8_acceptRanges), ("unicode/utf8.first", laid_unicode_utf8_first)] }
def HeaderCoversSaid : Prop := headerCoversRow.holds Tryd.pinned (OpenSpec.ofChange headerCoversSpec)

/-- ITS FALSE NEIGHBOUR: 'it returns false'. Refute it at one input. -/
def headerCoversWrong : ChangeSpec := { name := "headerCovers", fn := fun _ => fun
  | [d] => { results := [.lit (.bool false)], args := [d] }
  | _ => none }
def HeaderCoversWrongFalsely : Prop := headerCoversRow.holds Tryd.pinned (OpenSpec.ofChange headerCoversWrong)

/-- 'waybilllaw11.HeaderSplits': WHATEVER THE INPUT: true; the input reads as it did. -/
def headerSplitsSpec : ChangeSpec := { name := "headerSplits", fn := fun _ => fun
  | [d1, d2] => { results := [.lit (.bool true)], args := [d1, d2] }
  | _ => none }
def headerSplitsRow : OpenClaim := { program := "ytgbbadbffcjamaadoor", sum := "9284a8dc928abd3e0fc412c3654a0ca533b39bb48a0365b991d90f1bccd0f658", func := "waybill/waybilllaw11.HeaderSplits", spec := "headerSplits", inPlace := ["internal/bytealg.IndexByte", "internal/bytealg.Index", "internal/abi.NoEscape", "internal/bytealg.CountString", "internal/bytealg.IndexByteString", "internal/bytealg.IndexString", "internal/bytealg.MakeNoZero"], unfollowed := true, recurses := true, named := ["internal/bytealg.MaxLen", "unicode/utf8.first", "unicode/utf8.acceptRanges"], apart := false, laid := [("unicode/utf8.acceptRanges", laid_unicode_utf8_acceptRanges), ("unicode/utf8.first", laid_unicode_utf8_first)] }
def HeaderSplitsSaid : Prop := headerSplitsRow.holds Tryd.pinned (OpenSpec.ofChange headerSplitsSpec)

/-- ITS FALSE NEIGHBOUR: 'it returns false'. Refute it at one input. -/
def headerSplitsWrong : ChangeSpec := { name := "headerSplits", fn := fun _ => fun
  | [d1, d2] => { results := [.lit (.bool false)], args := [d1, d2] }
  | _ => none }
def HeaderSplitsWrongFalsely : Prop := headerSplitsRow.holds Tryd.pinned (OpenSpec.ofChange headerSplitsWrong)

/-- 'waybilllaw11.HeaderWrites': WHATEVER THE INPUT: true; the input reads as it did. -/
def headerWritesSpec : ChangeSpec := { name := "headerWrites", fn := fun _ => fun
  | [d1, d2, d3] => { results := [.lit (.bool true)], args := [d1, d2, d3] }
  | _ => none }
def headerWritesRow : OpenClaim := { program := "ytgbbadbffcjamaadoor", sum := "9284a8dc928abd3e0fc412c3654a0ca533b39bb48a0365b991d90f1bccd0f658", func := "waybill/waybilllaw11.HeaderWrites", spec := "headerWrites", inPlace := ["internal/bytealg.IndexByte", "internal/bytealg.Index", "internal/abi.NoEscape", "internal/bytealg.CountString", "internal/bytealg.IndexByteString", "internal/bytealg.IndexString", "internal/bytealg.MakeNoZero"], unfollowed := true, recurses := true, named := ["internal/bytealg.MaxLen", "unicode/utf8.first", "unicode/utf8.acceptRanges"], apart := false, laid := [("unicode/utf8.acceptRanges", laid_unicode_utf8_acceptRanges), ("unicode/utf8.first", laid_unicode_utf8_first)] }
def HeaderWritesSaid : Prop := headerWritesRow.holds Tryd.pinned (OpenSpec.ofChange headerWritesSpec)

/-- ITS FALSE NEIGHBOUR: 'it returns false'. Refute it at one input. -/
def headerWritesWrong : ChangeSpec := { name := "headerWrites", fn := fun _ => fun
  | [d1, d2, d3] => { results := [.lit (.bool false)], args := [d1, d2, d3] }
  | _ => none }
def HeaderWritesWrongFalsely : Prop := headerWritesRow.holds Tryd.pinned (OpenSpec.ofChange headerWritesWrong)

/-- 'waybilllaw11.HeaderAdds': WHATEVER THE INPUT: true; the input reads as it did. -/
def headerAddsSpec : ChangeSpec := { name := "headerAdds", fn := fun _ => fun
  | [d1, d2, d3] => { results := [.lit (.bool true)], args := [d1, d2, d3] }
  | _ => none }
def headerAddsRow : OpenClaim := { program := "ytgbbadbffcjamaadoor", sum := "9284a8dc928abd3e0fc412c3654a0ca533b39bb48a0365b991d90f1bccd0f658", func := "waybill/waybilllaw11.HeaderAdds", spec := "headerAdds", inPlace := ["internal/bytealg.IndexByte", "internal/bytealg.Index", "internal/abi.NoEscape", "internal/bytealg.CountString", "internal/bytealg.IndexByteString", "internal/bytealg.IndexString", "internal/bytealg.MakeNoZero"], unfollowed := true, recurses := true, named := ["internal/bytealg.MaxLen", "unicode/utf8.first", "unicode/utf8.acceptRanges"], apart := false, laid := [("unicode/utf8.acceptRanges", laid_unicode_utf8_acceptRanges), ("unicode/utf8.first", laid_unicode_utf8_first)] }
def HeaderAddsSaid : Prop := headerAddsRow.holds Tryd.pinned (OpenSpec.ofChange headerAddsSpec)

/-- ITS FALSE NEIGHBOUR: 'it returns false'. Refute it at one input. -/
def headerAddsWrong : ChangeSpec := { name := "headerAdds", fn := fun _ => fun
  | [d1, d2, d3] => { results := [.lit (.bool false)], args := [d1, d2, d3] }
  | _ => none }
def HeaderAddsWrongFalsely : Prop := headerAddsRow.holds Tryd.pinned (OpenSpec.ofChange headerAddsWrong)

/- THE SECOND FORM. 'bulk': how many values and letters a reading holds, each counted each time it is reached (what is shared counts as often as it is met; a slice's spare places count too). A statement '..UptoSaid' is the law's where the arguments, and the package variables that the reading takes, are together of bulk at most 1048576: NARROWER than '..Said'. Prove '..Said' where nothing that the law and all that it calls make is longer than what came in: it says more and counts as full. Else prove '..UptoSaid'. A law counts once. -/
mutual
def uptoBulk {H : Type} : DataW H → Nat
  | .lit (.string bytes) => bytes.length + 1
  | .lit _ => 1
  | .nil => 1
  | .ptr d => uptoBulk d + 1
  | .slice elems spare => uptoBulkAll elems + uptoBulkAll spare + 1
  | .agg parts => uptoBulkAll parts + 1
  | .iface _ d => uptoBulk d + 1
  | .map entries => uptoBulkEntries entries + 1
  | .held _ => 1
def uptoBulkAll {H : Type} : List (DataW H) → Nat
  | [] => 0
  | d :: r => uptoBulk d + uptoBulkAll r
def uptoBulkEntries {H : Type} : List (Lit × DataW H) → Nat
  | [] => 0
  | x :: r => uptoBulkEntry x + uptoBulkEntries r
def uptoBulkEntry {H : Type} : Lit × DataW H → Nat
  | (.string bytes, d) => bytes.length + uptoBulk d + 1
  | (_, d) => uptoBulk d + 1
 end
def uptoSmall : (H : Type) → List (DataW H) → Bool := fun _ ds => decide (uptoBulkAll ds ≤ 1048576)
def OpenSpec.upto (s : _root_.Go.ChangeSpec) : _root_.Go.OpenSpec := { _root_.Go.OpenSpec.ofChange s with cond := some uptoSmall }

/-- 'waybilllaw11.HeaderCovers', WHERE WHAT IT READS IS OF BULK AT MOST 1048576: true; the input reads as it did. -/
def headerCoversUptoRow : OpenClaim := { program := "ytgbbadbffcjamaadoor", sum := "9284a8dc928abd3e0fc412c3654a0ca533b39bb48a0365b991d90f1bccd0f658", func := "waybill/waybilllaw11.HeaderCovers", spec := "headerCovers", inPlace := ["internal/bytealg.IndexByte", "internal/bytealg.Index", "internal/abi.NoEscape", "internal/bytealg.CountString", "internal/bytealg.IndexByteString", "internal/bytealg.IndexString", "internal/bytealg.MakeNoZero"], unfollowed := true, recurses := true, named := ["internal/bytealg.MaxLen", "unicode/utf8.first", "unicode/utf8.acceptRanges"], apart := false, laid := [("unicode/utf8.acceptRanges", laid_unicode_utf8_acceptRanges), ("unicode/utf8.first", laid_unicode_utf8_first)], narrowed := true }
def HeaderCoversUptoSaid : Prop := headerCoversUptoRow.holds Tryd.pinned (OpenSpec.upto headerCoversSpec)

/-- 'waybilllaw11.HeaderSplits', WHERE WHAT IT READS IS OF BULK AT MOST 1048576: true; the input reads as it did. -/
def headerSplitsUptoRow : OpenClaim := { program := "ytgbbadbffcjamaadoor", sum := "9284a8dc928abd3e0fc412c3654a0ca533b39bb48a0365b991d90f1bccd0f658", func := "waybill/waybilllaw11.HeaderSplits", spec := "headerSplits", inPlace := ["internal/bytealg.IndexByte", "internal/bytealg.Index", "internal/abi.NoEscape", "internal/bytealg.CountString", "internal/bytealg.IndexByteString", "internal/bytealg.IndexString", "internal/bytealg.MakeNoZero"], unfollowed := true, recurses := true, named := ["internal/bytealg.MaxLen", "unicode/utf8.first", "unicode/utf8.acceptRanges"], apart := false, laid := [("unicode/utf8.acceptRanges", laid_unicode_utf8_acceptRanges), ("unicode/utf8.first", laid_unicode_utf8_first)], narrowed := true }
def HeaderSplitsUptoSaid : Prop := headerSplitsUptoRow.holds Tryd.pinned (OpenSpec.upto headerSplitsSpec)

/-- 'waybilllaw11.HeaderWrites', WHERE WHAT IT READS IS OF BULK AT MOST 1048576: true; the input reads as it did. -/
def headerWritesUptoRow : OpenClaim := { program := "ytgbbadbffcjamaadoor", sum := "9284a8dc928abd3e0fc412c3654a0ca533b39bb48a0365b991d90f1bccd0f658", func := "waybill/waybilllaw11.HeaderWrites", spec := "headerWrites", inPlace := ["internal/bytealg.IndexByte", "internal/bytealg.Index", "internal/abi.NoEscape", "internal/bytealg.CountString", "internal/bytealg.IndexByteString", "internal/bytealg.IndexString", "internal/bytealg.MakeNoZero"], unfollowed := true, recurses := true, named := ["internal/bytealg.MaxLen", "unicode/utf8.first", "unicode/utf8.acceptRanges"], apart := false, laid := [("unicode/utf8.acceptRanges", laid_unicode_utf8_acceptRanges), ("unicode/utf8.first", laid_unicode_utf8_first)], narrowed := true }
def HeaderWritesUptoSaid : Prop := headerWritesUptoRow.holds Tryd.pinned (OpenSpec.upto headerWritesSpec)

/-- 'waybilllaw11.HeaderAdds', WHERE WHAT IT READS IS OF BULK AT MOST 1048576: true; the input reads as it did. -/
def headerAddsUptoRow : OpenClaim := { program := "ytgbbadbffcjamaadoor", sum := "9284a8dc928abd3e0fc412c3654a0ca533b39bb48a0365b991d90f1bccd0f658", func := "waybill/waybilllaw11.HeaderAdds", spec := "headerAdds", inPlace := ["internal/bytealg.IndexByte", "internal/bytealg.Index", "internal/abi.NoEscape", "internal/bytealg.CountString", "internal/bytealg.IndexByteString", "internal/bytealg.IndexString", "internal/bytealg.MakeNoZero"], unfollowed := true, recurses := true, named := ["internal/bytealg.MaxLen", "unicode/utf8.first", "unicode/utf8.acceptRanges"], apart := false, laid := [("unicode/utf8.acceptRanges", laid_unicode_utf8_acceptRanges), ("unicode/utf8.first", laid_unicode_utf8_first)], narrowed := true }
def HeaderAddsUptoSaid : Prop := headerAddsUptoRow.holds Tryd.pinned (OpenSpec.upto headerAddsSpec)

end Rows
end Go.Proofs.YtgbbadbffcjamaaDoor
