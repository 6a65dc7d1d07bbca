/-
  The walk of the statement ReplyClasses, where the text is shorter than 4294967281 bytes. It asks what the library's variables hold.
-/
import Derived.Test.YteicojighhhgjaaDoorStatW
import Derived.Test.YteicojighhhgjaaDoorRStat2
import Derived.Test.YteicojighhhgjaaDoorPrints
import Derived.Test.YteicojighhhgjaaDoorTabs2
import Derived.Shelf.Vars
namespace Go.Proofs.YteicojighhhgjaaDoor
open Go.RowKit Go.Sort
set_option linter.unusedVariables false

theorem maxL_of {W : World} (h : W.ShapedOpen Tryd.prog) : MaxL W :=
  cell_of_shapedOpen_int h (g := 1) (t := 3) (zero := #[.int .i64 0]) (by decide) (by kernel_rfl) rfl (by kernel_rfl) (by kernel_rfl) Tryd.underlying3

set_option maxRecDepth 100000 in
set_option maxHeartbeats 1000000 in
theorem classes_walk (n : Int) (s : ByteArray) (w : World) (hs : s.size < 4294967281) (T : PowErrs w) (TM : MaxL w) :
    Calls Tryd.prog 8 #[.int .i64 n, .string s] w fun e w' => Below w.heap.size w w' ∧ e = .returned (.bool true) := by
  go_enter Tryd.func8, Tryd.ntmps8
  go_wp2_with fail
  refine (awake_walk w T.pow).mono ?_
  rintro e w1 ⟨h1, rfl⟩
  go_wp2_with fail
  refine (class_walk n w1).mono ?_
  rintro e w' ⟨rfl, rfl⟩
  go_wp2_with fail
  refine (rclass_walk n w1).mono ?_
  rintro e w' ⟨rfl, rfl⟩
  go_wp2_with fail
  refine (stat_walk s w1 hs (T.keep h1).errs (T.keep h1).pow (TM.keep h1)).mono ?_
  rintro e w2 ⟨h2, rfl⟩
  have h12 := h1.trans (h2.mono h1.size)
  have HR := Lib.hid (fun w => rstat_walk s w (by omega))
  clear h1 h2 T TM hs
  generalize statP s.data.toList = st at *
  generalize classP n = c at *
  rcases st with _ | ⟨x, a, b⟩
  all_goals
    dsimp only [statV] at HR ⊢
    go_wp2_with fail
    refine (HR.out _).mono ?_
    rintro e w' ⟨rfl, rfl⟩
    go_wp2
    go_ret
    exact ⟨h12, rfl⟩
end Go.Proofs.YteicojighhhgjaaDoor
