/-
  What the library's tables hold, and what the listed variables give of it. No condition.
-/
import Derived.Test.YtfnhaddgdfkmcaaDoorNum
import Derived.Test.YtfnhaddgdfkmcaaDoorBlk
import Derived.Test.YtfnhaddgdfkmcaaDoorOpen
import Derived.Test.YtfnhaddgdfkmcaaDoorRows
import Derived.Lib.SlBytesConst
namespace Go.Proofs.YtfnhaddgdfkmcaaDoor
open Go.RowKit
set_option linter.unusedVariables false

/-- what the library's tables hold -/
structure Tabs (w : World) : Prop where
  pow : Lib.TabIs Tryd.prog w "internal/strconv.uint64pow10" .u64 Lib.pow10Tab
  cell : w.cell? ⟨5, 15, none⟩ = some (.int .u8 4)
  lt : 5 < w.heap.size
theorem Tabs.pow10 {w : World} (h : Tabs w) : Pow10 w := Lib.tabBelow_of_tabIs h.pow
theorem Tabs.keep {w w' : World} (h : Tabs w) (hb : Below w.heap.size w w') : Tabs w' :=
  ⟨h.pow10 w' hb, (hb.cell h.lt).trans h.cell, Nat.lt_of_lt_of_le h.lt hb.size⟩
theorem bytes_const (w : World) (C : Array Value) (n c : Nat) : (convert 23 23 (.slice (some ⟨w.heap.size, 0, none⟩) n c)).run Tryd.prog (w.alloc (.cells C 5)) = .ok (.slice (some ⟨w.heap.size, 0, none⟩) n c) (w.alloc (.cells C 5 (C.size, C.size + 1))) :=
  Lib.run_convert_bytes_const (P := Tryd.prog) w 23 5 C n c Tryd.underlying23 Tryd.underlying5
theorem RB.lit (w : World) (E : TypeId) (C : Array Value) (f : Nat × Nat) (l : List UInt8) (hC : C.toList = Lib.byteCells l) : RB (w.alloc (.cells C E f)) (w.heap.size + 1) (some ⟨w.heap.size, 0, none⟩) l := by
  refine .inr ⟨_, _, rfl, by omega, fun i hi => ?_⟩
  have : (w.alloc (.cells C E f)).heap[w.heap.size]? = some (.cells C E f) := heap_alloc_new w _
  rw [Nat.zero_add, cell_of_row _ _ i C E f this, ← Array.getElem?_toList, hC, bt_getElem hi]
  simp [Lib.byteCells, hi]

theorem tabs_of {W : World} {laid : List (String × DataW Unit)} (h : laidMet Tryd.prog laid W)
    (e1 : laid.filter (fun x => x.1 == "internal/strconv.uint64pow10") = [("internal/strconv.uint64pow10", Lib.tabData .u64 Lib.pow10Tab)])
    (e2 : laid.filter (fun x => x.1 == "math/bits.deBruijn64tab") = [("math/bits.deBruijn64tab", Rows.laid_math_bits_deBruijn64tab)]) : Tabs W := by
  have h1 := h.filter (fun x => x.1 == "internal/strconv.uint64pow10")
  have h2 := h.filter (fun x => x.1 == "math/bits.deBruijn64tab")
  rw [e1] at h1
  rw [e2] at h2
  have g2 : Tryd.prog.globalNamed "math/bits.deBruijn64tab" = some 5 := by kernel_rfl
  have t2 : Lib.TabIs Tryd.prog W "math/bits.deBruijn64tab" .u8 [0, 1, 56, 2, 57, 49, 28, 3, 61, 58, 42, 50, 38, 29, 17, 4, 62, 47, 59, 36, 45, 43, 51, 22, 53, 39, 33, 30, 24, 18, 12, 5, 63, 55, 48, 27, 60, 41, 37, 16, 46, 35, 44, 21, 52, 32, 23, 11, 54, 26, 40, 15, 34, 20, 31, 10, 25, 14, 19, 9, 13, 8, 7, 6] :=
    Lib.tabIs_of_head (rest := []) (t := 121) (e := 5) (n := 64) g2 (by kernel_rfl) Tryd.underlying121 Tryd.underlying5 (by kernel_rfl) (by kernel_rfl) h2
  have c2 := t2.cell g2 15 (by decide)
  exact ⟨Lib.tabIs_of_head (rest := []) (g := 0) (t := 107) (e := 76) (n := 20) (by kernel_rfl) (by kernel_rfl) Tryd.underlying107 Tryd.underlying76 (by kernel_rfl) (by kernel_rfl) h1, c2, World.block_lt_of_cell? _ _ c2⟩
end Go.Proofs.YtfnhaddgdfkmcaaDoor
