/-
  The disks' laws ask nothing of the library's variables. No condition.
-/
import Derived.Test.YtbpooaicmjkemaaGreatDoorSfSt
import Derived.PinnedBridge
namespace Go.Proofs.YtbpooaicmjkemaaGreatDoor
open Go.RowKit
def TabsS (_ : World) : Prop := True
theorem tabsS_of {W : World} {laid : List (String × DataW Unit)} (_ : laidMet Tryz.prog laid W) : TabsS W := trivial
end Go.Proofs.YtbpooaicmjkemaaGreatDoor
