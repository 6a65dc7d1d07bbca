/-
  The walk of the statement DateShows. It asks what the library's tables hold.
-/
import Derived.Test.YtdkhoiahmjadnaaGreatDoorShown
import Derived.Test.YtdkhoiahmjadnaaGreatDoorRShow
import Derived.ChangeKeysEq
namespace Go.Proofs.YtdkhoiahmjadnaaGreatDoor
open Go.RowKit Go.Sort
set_option linter.unusedVariables false

theorem six_civ (t : Int) : ∃ a b c d e f : Int, civA t = #[.int .i64 a, .int .i64 b, .int .i64 c, .int .i64 d, .int .i64 e, .int .i64 f] := by
  unfold civA
  split <;> exact ⟨_, _, _, _, _, _, rfl⟩
theorem eq_six (a b c d e f : Int) (w : World) : (binOp .eql 23 (.agg #[.int .i64 a, .int .i64 b, .int .i64 c, .int .i64 d, .int .i64 e, .int .i64 f]) (.agg #[.int .i64 a, .int .i64 b, .int .i64 c, .int .i64 d, .int .i64 e, .int .i64 f])).run Tryz.prog w = .ok (.bool true) w := by
  obtain ⟨i, hi⟩ := info_of_underlying (P := Tryz.prog) Tryz.underlying3
  rw [run_eql_struct, run_equalIn_array w 9999 _ _ Tryz.underlying23 hi]
  have hc : Tryz.prog.cellsOf 3 = 1 := by kernel_rfl
  rw [hc]
  have hp : ∀ (xs : Array Value) (off : Nat) v, xs[off]? = some v → (part 3 xs off).run Tryz.prog w = .ok v w := fun xs off v h => run_part_plain w (by kernel_rfl) h
  have he : ∀ z : Int, (Op.equalIn 9999 3 (.int .i64 z) (.int .i64 z)).run Tryz.prog w = .ok true w := fun z => by
    rw [run_equalIn_int w 9998 3 .i64 .i64 z z Tryz.underlying3]
    simp
  have hr : List.range 6 = [0, 1, 2, 3, 4, 5] := rfl
  rw [hr]
  simp only [Op.eqItems, Sem.run_bind, Nat.mul_one]
  have p0 := hp #[.int .i64 a, .int .i64 b, .int .i64 c, .int .i64 d, .int .i64 e, .int .i64 f] 0 (.int .i64 a) rfl
  have p1 := hp #[.int .i64 a, .int .i64 b, .int .i64 c, .int .i64 d, .int .i64 e, .int .i64 f] 1 (.int .i64 b) rfl
  have p2 := hp #[.int .i64 a, .int .i64 b, .int .i64 c, .int .i64 d, .int .i64 e, .int .i64 f] 2 (.int .i64 c) rfl
  have p3 := hp #[.int .i64 a, .int .i64 b, .int .i64 c, .int .i64 d, .int .i64 e, .int .i64 f] 3 (.int .i64 d) rfl
  have p4 := hp #[.int .i64 a, .int .i64 b, .int .i64 c, .int .i64 d, .int .i64 e, .int .i64 f] 4 (.int .i64 e) rfl
  have p5 := hp #[.int .i64 a, .int .i64 b, .int .i64 c, .int .i64 d, .int .i64 e, .int .i64 f] 5 (.int .i64 f) rfl
  simp only [p0, p1, p2, p3, p4, p5, Result.andThen_ok, he, Bool.not_true, Bool.false_eq_true, if_false, Sem.run_bind, Sem.run_pure]
set_option maxRecDepth 100000 in
set_option maxHeartbeats 4000000 in
theorem shows_walk (t : Int) (w : World) (hb : -9223372036854775808 ≤ t ∧ t ≤ 9223372036854775807) (T : TabsD w) :
    Calls Tryz.prog 3 #[.int .i64 t] w fun e w' => Below w.heap.size w w' ∧ e = .returned (.bool true) := by
  have HS := Lib.hid (fun w' T' => shown_walk w' T')
  have HC := Lib.hid (fun w' => civ_walk t w' hb.1 hb.2)
  have HRC := Lib.hid (fun w' => rciv_walk t w' hb.1 hb.2)
  have HD := Lib.hid (fun w' => day_walk t w' hb.1 hb.2)
  have HRD := Lib.hid (fun w' => rday_walk t w' hb.1 hb.2)
  have HW := Lib.hid (fun w' T' => show_walk t w' hb.1 hb.2 T')
  have HRW := Lib.hid (fun w' => rshow_walk t w' hb.1 hb.2)
  obtain ⟨a, b, c, d, g, f, h6⟩ := six_civ t
  rw [h6] at HC HRC
  have HEQ := eq_six a b c d g f
  clear h6
  generalize dayE t = E at *
  generalize dayV t = V at *
  generalize (⟨(showL t).toArray⟩ : ByteArray) = SH at *
  have TT : Hid (∀ w', Below w.heap.size w w' → TabsD w') := Lib.hid fun w' hb => T.keep hb
  have B := Lib.hid (Below.refl w.heap.size w)
  clear T
  go_enter Tryz.func3, Tryz.ntmps3
  go_wp2_with fail
  refine (HS.out _ (TT.out _ B.out)).mono ?_
  rintro e w2 ⟨hb2, rfl⟩
  have B := Lib.hid (B.out.trans (hb2.mono B.out.size))
  clear hb2
  go_wp2_with fail
  refine (HC.out _).mono ?_
  rintro e w3 ⟨hb3, rfl⟩
  have BA := Lib.hid (B.out.trans (hb3.mono B.out.size))
  have bkA := Blk.new w3 23 #[.int .i64 a, .int .i64 b, .int .i64 c, .int .i64 d, .int .i64 g, .int .i64 f]
  have B := Lib.hid (BA.out.alloc BA.out.size (.cells #[.int .i64 a, .int .i64 b, .int .i64 c, .int .i64 d, .int .i64 g, .int .i64 f] 23))
  clear hb3 BA
  go_upto_region 3 with fail
  generalize hw4 : w3.alloc (.cells #[.int .i64 a, .int .i64 b, .int .i64 c, .int .i64 d, .int .i64 g, .int .i64 f] 23) = w4 at *
  clear hw4
  go_wp2_with fail
  refine (HRC.out _).mono ?_
  rintro e w5 ⟨hb5, rfl⟩
  have bkA5 := (bkA.keep hb5).alloc (.cells #[.int .i64 a, .int .i64 b, .int .i64 c, .int .i64 d, .int .i64 g, .int .i64 f] 23)
  have bkB := Blk.new w5 23 #[.int .i64 a, .int .i64 b, .int .i64 c, .int .i64 d, .int .i64 g, .int .i64 f]
  have BB := Lib.hid (B.out.trans (hb5.mono B.out.size))
  have B := Lib.hid (BB.out.alloc BB.out.size (.cells #[.int .i64 a, .int .i64 b, .int .i64 c, .int .i64 d, .int .i64 g, .int .i64 f] 23))
  clear hb5 bkA BB
  go_upto_region 4 with fail
  generalize hw6 : w5.alloc (.cells #[.int .i64 a, .int .i64 b, .int .i64 c, .int .i64 d, .int .i64 g, .int .i64 f] 23) = w6 at *
  clear hw6
  go_wp2_with fail
  refine (HD.out _).mono ?_
  rintro e w7 ⟨rfl, rfl⟩
  go_wp2_with fail
  refine (HRD.out _).mono ?_
  rintro e w7 ⟨rfl, rfl⟩
  go_wp2_with fail
  refine (HW.out _ (TT.out _ B.out)).mono ?_
  rintro e w7 ⟨hb7, rfl⟩
  have bkA7 := bkA5.keep hb7
  have bkB7 := bkB.keep hb7
  have B := Lib.hid (B.out.trans (hb7.mono B.out.size))
  clear hb7 bkA5 bkB
  go_wp2_with fail
  refine (HRW.out _).mono ?_
  rintro e w8 ⟨hb8, rfl⟩
  have bkA8 := bkA7.keep hb8
  have bkB8 := bkB7.keep hb8
  have B := Lib.hid (B.out.trans (hb8.mono B.out.size))
  have c0 := bkA8.cell 0
  have c1 := bkA8.cell 1
  have c2 := bkA8.cell 2
  have c3 := bkA8.cell 3
  have c4 := bkA8.cell 4
  have c5 := bkA8.cell 5
  have d0 := bkB8.cell 0
  have d1 := bkB8.cell 1
  have d2 := bkB8.cell 2
  have d3 := bkB8.cell 3
  have d4 := bkB8.cell 4
  have d5 := bkB8.cell 5
  clear hb8 bkA7 bkB7 bkA8 bkB8 HS HC HRC HD HRD HW HRW TT
  simp only [List.getElem?_toArray, List.getElem?_cons_zero, List.getElem?_cons_succ] at c0 c1 c2 c3 c4 c5 d0 d1 d2 d3 d4 d5
  go_wp2
  go_ret
  exact ⟨B.out, by simp⟩
end Go.Proofs.YtdkhoiahmjadnaaGreatDoor
