/-
  The pipes' laws ask nothing of the library's variables. No condition.
-/
import Derived.Test.YtihhadgkcdkemaaDoorPSt
import Derived.PinnedBridge
namespace Go.Proofs.YtihhadgkcdkemaaDoor
open Go.RowKit
def TabsP (_ : World) : Prop := True
theorem tabsP_of {W : World} {laid : List (String × DataW Unit)} (_ : laidMet Tryd.prog laid W) : TabsP W := trivial
end Go.Proofs.YtihhadgkcdkemaaDoor
