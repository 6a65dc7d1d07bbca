/-
  What the listed variables give of the library's tables. No condition.
-/
import Derived.Test.YtdkhoiahmjadnaaGreatDoorPad
import Derived.Test.YtdkhoiahmjadnaaGreatDoorRows
import Derived.Lib.LaidU8T
import Derived.PinnedBridge
import Derived.LaidSub
import Derived.Shelf.Vars
namespace Go.Proofs.YtdkhoiahmjadnaaGreatDoor
open Go.RowKit
set_option linter.unusedVariables false

def u8ren : Go.Shelf.Ren := ⟨fun n => n, fun | 5 => 5 | 119 => 81 | 138 => 150 | 139 => 151 | n => n, fun | 3 => 7 | 4 => 8 | n => n⟩
theorem u8types : U8Types Tryz.prog u8ren := { t5 := Tryz.underlying5, t119 := Tryz.underlying81, t138 := Tryz.underlying150, t139 := Tryz.underlying151 }
theorem u8extra : U8Extra Tryz.prog u8ren := { n3 := by kernel_rfl, n4 := by kernel_rfl, y3 := by kernel_rfl, y4 := by kernel_rfl, c5 := by kernel_rfl, c119 := by kernel_rfl, c138 := by kernel_rfl }
theorem tabsD_of {W : World} {laid : List (String × DataW Unit)} (h : laidMet Tryz.prog laid W) (hsh : W.ShapedOpen Tryz.prog)
    (e1 : laid.filter (fun x => x.1 == "internal/strconv.uint64pow10") = [("internal/strconv.uint64pow10", Lib.tabData .u64 Lib.pow10Tab)])
    (e2 : laid.filter (fun x => x.1 == "strings.asciiSpace") = [("strings.asciiSpace", Lib.tabData .u8 Lib.asciiSpaceTab)])
    (e3 : laid.filter (fun x => x.1 == "unicode/utf8.first") = [("unicode/utf8.first", Lib.firstData)])
    (e4 : laid.filter (fun x => x.1 == "unicode/utf8.acceptRanges") = [("unicode/utf8.acceptRanges", Lib.acceptData)]) : TabsD W := by
  have h1 := h.filter (fun x => x.1 == "internal/strconv.uint64pow10")
  have h2 := h.filter (fun x => x.1 == "strings.asciiSpace")
  have h3 := h.filter (fun x => x.1 == "unicode/utf8.first")
  have h4 := h.filter (fun x => x.1 == "unicode/utf8.acceptRanges")
  rw [e1] at h1
  rw [e2] at h2
  rw [e3] at h3
  rw [e4] at h4
  have t1 := Lib.tabIs_of_head (rest := []) (g := 3) (t := 139) (e := 95) (n := 20) (by kernel_rfl) (by kernel_rfl) Tryz.underlying139 Tryz.underlying95 (by kernel_rfl) (by kernel_rfl) h1
  have t2 := Lib.tabIs_of_head (rest := []) (g := 0) (t := 81) (e := 5) (n := 256) (by kernel_rfl) (by kernel_rfl) Tryz.underlying81 Tryz.underlying5 (by kernel_rfl) (by kernel_rfl) h2
  have t3 : Lib.Utf8Tabs 7 8 W := utf8Tabs_of_readsT u8types u8extra (Lib.laidMet.reads h3 (List.mem_singleton.2 rfl)) (Lib.laidMet.reads h4 (List.mem_singleton.2 rfl))
  obtain ⟨m, hm⟩ := cell_of_shapedOpen_int hsh (g := 6) (t := 3) (zero := #[.int .i64 0]) (by decide) (by kernel_rfl) rfl (by kernel_rfl) (by kernel_rfl) Tryz.underlying3
  exact fun w' hb => ⟨Lib.tabBelow_of_tabIs t1 w' hb, Lib.tabBelow_of_tabIs t2 w' hb, Utf8Tabs_below t3 hb, m, (hb.cell (World.block_lt_of_cell? _ _ hm)).trans hm⟩
end Go.Proofs.YtdkhoiahmjadnaaGreatDoor
