/-
  The library's variable MaxLen at a start. No condition.
-/
import Derived.Test.YtgbbadbffcjamaaDoorHdS0
import Derived.Test.YtgbbadbffcjamaaDoorBulk
import Derived.PinnedBridge
import Derived.LaidSub
import Derived.Shelf.Vars
namespace Go.Proofs.YtgbbadbffcjamaaDoor
open Go.RowKit
set_option linter.unusedVariables false
theorem mx_of {W : World} {laid : List (String × DataW Unit)} (h : laidMet Tryd.prog laid W) (hsh : W.ShapedOpen Tryd.prog) : Mx W :=
  cell_of_shapedOpen_int hsh (g := 0) (t := 3) (zero := #[.int .i64 0]) (by decide) (by kernel_rfl) rfl (by kernel_rfl) (by kernel_rfl) Tryd.underlying3
end Go.Proofs.YtgbbadbffcjamaaDoor
