/-
  The disks' laws ask nothing of the library's variables. No condition.
-/
import Derived.Test.YtbpooaicmjkemaaDoorSfSt
import Derived.PinnedBridge
namespace Go.Proofs.YtbpooaicmjkemaaDoor
open Go.RowKit
def TabsS (_ : World) : Prop := True
theorem tabsS_of {W : World} {laid : List (String × DataW Unit)} (_ : laidMet Tryd.prog laid W) : TabsS W := trivial
end Go.Proofs.YtbpooaicmjkemaaDoor
