/-
  The walk of the program's Parse at any text. Conditions: the size; the tables.
-/
import Derived.Test.YtlknclkkhincfaaDoorTbPar
namespace Go.Proofs.YtlknclkkhincfaaDoor
open Go.RowKit Go.Shelf
set_option linter.unusedVariables false
set_option maxRecDepth 100000 in
theorem parse_long (text : List UInt8) (w : World) (hs : 262144 < text.length) (hl : text.length ≤ 9223372036854775807) : Calls Tryd.prog 8 #[.string (bs text)] w (PPostN w (parseP text)) := by
  have hsz := bs_size text
  have hls : (262144 : Int) < (text.length : Int) := by omega
  have HE : Hid (parseP text = ([], 60, 262144)) := Lib.hid (by unfold parseP; rw [if_pos hs])
  obtain ⟨W0, hW0⟩ : ∃ W0, W0 = ((w.alloc (.cells #[.int .i64 0, .int .i64 0] 27)).alloc (.cells #[.int .i64 0, .int .i64 0] 27)).alloc (.cells #[.slice none 0 0] 70) := ⟨_, rfl⟩
  obtain ⟨o1, o2, o3, o4, o5⟩ := parse_open w W0 hW0
  have HO1 := Lib.hid o1
  have HO2 := Lib.hid o2
  have HO4 := Lib.hid o4
  have HW0 := Lib.hid hW0
  clear o1 o2 o3 o4 hs
  go_enter Tryd.func8, Tryd.ntmps8
  go_wp2_with fail
  refine wp_scope_inline 0 rfl ?_
  go_upto_region 4 with fail
  rw [← hW0]
  clear hW0 HW0
  have y0 := HO2.out.cell 0
  have y1 := HO2.out.cell 1
  have v0 := HO2.out.frozen 0
  have v1 := HO2.out.frozen 1
  go_wp2_with fail
  go_step3
  refine ⟨rfl, ?_⟩
  clear y0 y1 v0 v1
  have F5 := Lib.hid ((HO2.out.set_ 0 (.int .i64 60)).set_ 1 (.int .i64 262144))
  have R5 : Hid (Blk ((W0.setCell ⟨w.heap.size + 1, 0, none⟩ (.int .i64 60)).setCell ⟨w.heap.size + 1, 1, none⟩ (.int .i64 262144)) w.heap.size 27 #[.int .i64 0, .int .i64 0]) := Lib.hid ((HO1.out.far (by simp) _).far (by simp) _)
  have B5 := Lib.hid ((HO4.out.setCell (p := ⟨w.heap.size + 1, 0, none⟩) (by simp) (.int .i64 60)).setCell (p := ⟨w.heap.size + 1, 1, none⟩) (by simp) (.int .i64 262144))
  generalize (W0.setCell ⟨w.heap.size + 1, 0, none⟩ (.int .i64 60)).setCell ⟨w.heap.size + 1, 1, none⟩ (.int .i64 262144) = WR at *
  have f0 : WR.cell? ⟨w.heap.size + 1, 0, none⟩ = some (.int .i64 60) := F5.out.cell 0
  have f1 : WR.cell? ⟨w.heap.size + 1, 1, none⟩ = some (.int .i64 262144) := F5.out.cell 1
  have r0 : WR.cell? ⟨w.heap.size, 0, none⟩ = some (.int .i64 0) := R5.out.cell 0
  have r1 : WR.cell? ⟨w.heap.size, 1, none⟩ = some (.int .i64 0) := R5.out.cell 1
  have g0 : WR.frozen? ⟨w.heap.size, 0, none⟩ = false := R5.out.frozen 0
  have g1 : WR.frozen? ⟨w.heap.size, 1, none⟩ = false := R5.out.frozen 1
  go_wp2_with fail
  go_region
  go_wp2_with fail
  refine jump_ret ?_
  have HWf := Lib.hid ((R5.out.set_ 0 (.int .i64 60)).set_ 1 (.int .i64 262144))
  have HBf := Lib.hid ((B5.out.setCell (p := ⟨w.heap.size, 0, none⟩) (Nat.le_refl _) (.int .i64 60)).setCell (p := ⟨w.heap.size, 1, none⟩) (Nat.le_refl _) (.int .i64 262144))
  have z0 := HWf.out.cell 0
  have z1 := HWf.out.cell 1
  refine bodyPost_ret (v := .tuple #[.pointer none, .agg #[.int .i64 60, .int .i64 262144]]) ?_ rfl ?_
  · rw [results_tmp_cell rfl]; go_simp
  · exact ⟨below_drew HBf.out, .inr ⟨by rw [HE.out]; decide, by rw [HE.out]⟩⟩
theorem parse_any (text : List UInt8) (w : World) (hl : text.length ≤ 9223372036854775807) (hT : TabsT w.heap.size w) : Calls Tryd.prog 8 #[.string (bs text)] w (PPostN w (parseP text)) := by
  by_cases h : text.length ≤ 262144
  · exact parse_walkN text w h hT
  · exact parse_long text w (by omega) hl
end Go.Proofs.YtlknclkkhincfaaDoor
