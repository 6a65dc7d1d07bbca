/-
  What the listed variables give: the table of powers of ten. No condition.
-/
import Derived.Test.YteicojighhhgjaaDoorPrint
import Derived.Test.YteicojighhhgjaaDoorOpen
import Derived.Test.YteicojighhhgjaaDoorRows
import Derived.Lib.SmallJoins
namespace Go.Proofs.YteicojighhhgjaaDoor
open Go.RowKit
set_option linter.unusedVariables false

theorem pow10_of {W : World} {laid : List (String × DataW Unit)} (h : laidMet Tryd.prog laid W)
    (e1 : laid.filter (fun x => x.1 == "internal/strconv.uint64pow10") = [("internal/strconv.uint64pow10", Lib.tabData .u64 Lib.pow10Tab)]) : Pow10 W := by
  have h1 := h.filter (fun x => x.1 == "internal/strconv.uint64pow10")
  rw [e1] at h1
  exact Lib.tabBelow_of_tabIs (Lib.tabIs_of_head (rest := []) (g := 2) (t := 99) (e := 72) (n := 20) (by kernel_rfl) (by kernel_rfl) Tryd.underlying99 Tryd.underlying72 (by kernel_rfl) (by kernel_rfl) h1)
end Go.Proofs.YteicojighhhgjaaDoor
