/-
  What the listed variables give: the tables of the library. No condition.
-/
import Derived.Test.YtliigjmbgbckpaaDoorShown
import Derived.Test.YtliigjmbgbckpaaDoorOpen
import Derived.Test.YtliigjmbgbckpaaDoorRows
namespace Go.Proofs.YtliigjmbgbckpaaDoor
open Go.RowKit
set_option linter.unusedVariables false

theorem tabs_of {W : World} {laid : List (String × DataW Unit)} (h : laidMet Tryd.prog laid W)
    (e1 : laid.filter (fun x => x.1 == "internal/strconv.uint64pow10") = [("internal/strconv.uint64pow10", Lib.tabData .u64 Lib.pow10Tab)])
    (e2 : laid.filter (fun x => x.1 == "math/bits.deBruijn64tab") = [("math/bits.deBruijn64tab", Rows.laid_math_bits_deBruijn64tab)]) : Tabs W := by
  have h1 := h.filter (fun x => x.1 == "internal/strconv.uint64pow10")
  have h2 := h.filter (fun x => x.1 == "math/bits.deBruijn64tab")
  rw [e1] at h1
  rw [e2] at h2
  have g2 : Tryd.prog.globalNamed "math/bits.deBruijn64tab" = some 4 := by kernel_rfl
  have t2 : Lib.TabIs Tryd.prog W "math/bits.deBruijn64tab" .u8 [0, 1, 56, 2, 57, 49, 28, 3, 61, 58, 42, 50, 38, 29, 17, 4, 62, 47, 59, 36, 45, 43, 51, 22, 53, 39, 33, 30, 24, 18, 12, 5, 63, 55, 48, 27, 60, 41, 37, 16, 46, 35, 44, 21, 52, 32, 23, 11, 54, 26, 40, 15, 34, 20, 31, 10, 25, 14, 19, 9, 13, 8, 7, 6] :=
    Lib.tabIs_of_head (rest := []) (t := 83) (e := 5) (n := 64) g2 (by kernel_rfl) Tryd.underlying83 Tryd.underlying5 (by kernel_rfl) (by kernel_rfl) h2
  have c2 := t2.cell g2 15 (by decide)
  exact ⟨Lib.tabIs_of_head (rest := []) (g := 2) (t := 72) (e := 47) (n := 20) (by kernel_rfl) (by kernel_rfl) Tryd.underlying72 Tryd.underlying47 (by kernel_rfl) (by kernel_rfl) h1, c2, World.block_lt_of_cell? _ _ c2⟩
end Go.Proofs.YtliigjmbgbckpaaDoor
