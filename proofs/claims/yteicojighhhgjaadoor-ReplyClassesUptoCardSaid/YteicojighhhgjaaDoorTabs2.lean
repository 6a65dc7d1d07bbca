/-
  What the listed variables give: the table of powers of ten, and two errors. No condition.
-/
import Derived.Test.YteicojighhhgjaaDoorTabs
import Derived.Test.YteicojighhhgjaaDoorLine
import Derived.Test.YteicojighhhgjaaDoorLaidErr
namespace Go.Proofs.YteicojighhhgjaaDoor
open Go.RowKit
set_option linter.unusedVariables false
structure PowErrs (w : World) : Prop where
  pow : Pow10 w
  errs : Errs w
theorem PowErrs.keep {w w' : World} (h : PowErrs w) (hb : Below w.heap.size w w') : PowErrs w' := ⟨h.pow.keep hb, h.errs.keep hb⟩
theorem powErrs_of {W : World} {laid : List (String × DataW Unit)} (h : laidMet Tryd.prog laid W)
    (e1 : laid.filter (fun x => x.1 == "internal/strconv.uint64pow10") = [("internal/strconv.uint64pow10", Lib.tabData .u64 Lib.pow10Tab)])
    (e2 : laid.filter (fun x => x.1 == "strconv.ErrSyntax") = [("strconv.ErrSyntax", Rows.laid_strconv_ErrSyntax)])
    (e3 : laid.filter (fun x => x.1 == "strconv.ErrRange") = [("strconv.ErrRange", Rows.laid_strconv_ErrRange)]) : PowErrs W := by
  have h2 := h.filter (fun x => x.1 == "strconv.ErrSyntax")
  have h3 := h.filter (fun x => x.1 == "strconv.ErrRange")
  rw [e2] at h2
  rw [e3] at h3
  obtain ⟨u2, p2, c2⟩ := iface_of_head (g := 3) (t := 47) (by kernel_rfl) (by kernel_rfl) Tryd.underlying47 h2
  obtain ⟨u3, p3, c3⟩ := iface_of_head (g := 4) (t := 47) (by kernel_rfl) (by kernel_rfl) Tryd.underlying47 h3
  exact ⟨pow10_of h e1, ⟨⟨u2, p2, c2⟩, ⟨u3, p3, c3⟩, World.block_lt_of_cell? _ _ c2, World.block_lt_of_cell? _ _ c3⟩⟩
end Go.Proofs.YteicojighhhgjaaDoor
