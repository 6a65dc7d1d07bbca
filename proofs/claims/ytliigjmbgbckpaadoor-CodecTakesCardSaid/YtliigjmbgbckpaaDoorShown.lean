/-
  The walk of shown: the document's examples. No condition but what the tables of the library hold.
-/
import Derived.Test.YtliigjmbgbckpaaDoorTT
import Derived.Test.YtliigjmbgbckpaaDoorSum
import Derived.Test.YtliigjmbgbckpaaDoorHex
import Derived.Lib.SlBytesConst
namespace Go.Proofs.YtliigjmbgbckpaaDoor
open Go.RowKit
set_option linter.unusedVariables false

/-- what the library's tables hold -/
structure Tabs (w : World) : Prop where
  pow : Lib.TabIs Tryd.prog w "internal/strconv.uint64pow10" .u64 Lib.pow10Tab
  cell : w.cell? ⟨4, 15, none⟩ = some (.int .u8 4)
  lt : 4 < w.heap.size
theorem Tabs.pow10 {w : World} (h : Tabs w) : Pow10 w := Lib.tabBelow_of_tabIs h.pow
theorem Tabs.keep {w w' : World} (h : Tabs w) (hb : Below w.heap.size w w') : Tabs w' :=
  ⟨h.pow10 w' hb, (hb.cell h.lt).trans h.cell, Nat.lt_of_lt_of_le h.lt hb.size⟩
theorem bytes_const (w : World) (C : Array Value) (n c : Nat) : (convert 22 22 (.slice (some ⟨w.heap.size, 0, none⟩) n c)).run Tryd.prog (w.alloc (.cells C 5)) = .ok (.slice (some ⟨w.heap.size, 0, none⟩) n c) (w.alloc (.cells C 5 (C.size, C.size + 1))) :=
  Lib.run_convert_bytes_const (P := Tryd.prog) w 22 5 C n c Tryd.underlying22 Tryd.underlying5
theorem RB.lit (w : World) (E : TypeId) (C : Array Value) (f : Nat × Nat) (l : List UInt8) (hC : C.toList = Lib.byteCells l) : RB (w.alloc (.cells C E f)) (w.heap.size + 1) (some ⟨w.heap.size, 0, none⟩) l := by
  refine .inr ⟨_, _, rfl, by omega, fun i hi => ?_⟩
  have : (w.alloc (.cells C E f)).heap[w.heap.size]? = some (.cells C E f) := heap_alloc_new w _
  rw [Nat.zero_add, cell_of_row _ _ i C E f this, ← Array.getElem?_toList, hC, bt_getElem hi]
  simp [Lib.byteCells, hi]

theorem numB_25 : numB 25 = [50, 53, 59] := by
  unfold numB; rw [if_neg (by omega), Lib.decDigits_two (by decide) (by decide)]; rfl
theorem textB_ab : textB [97, 44, 98] = [51, 58, 97, 44, 98, 44] := by
  unfold textB; rw [if_neg (by decide), Lib.decDigits_one (by decide)]; rfl
theorem hex8_crc : hex8 3421780262 = [99, 98, 102, 52, 51, 57, 50, 54] := by
  have := hexK_eq 8 3421780262 (by omega) (by omega)
  unfold hex8
  rw [← this]
  decide +kernel
theorem crc_nine : crc [49, 50, 51, 52, 53, 54, 55, 56, 57] = 3421780262 := by decide +kernel

set_option maxHeartbeats 4000000 in
theorem shown_any (w : World) (T : Tabs w) : Calls Tryd.prog 9 #[] w fun e w' => Below w.heap.size w w' ∧ e = .returned (.bool true) := by
  have bc := bytes_const
  go_enter Tryd.func9, Tryd.ntmps9
  go_wp2_with fail
  have n1 := number_any 25 w (by omega) (by omega) T.pow10
  rw [show numE 25 = 0 from rfl, numB_25] at n1
  refine n1.mono ?_
  clear n1
  rintro e w1 ⟨hb1, v1, rfl, ho1⟩
  obtain ⟨A1, c1, rfl, -, -, hr1⟩ := ho1.out
  clear ho1
  have T1 := T.keep hb1
  go_wp2_with fail
  have t1 := takeNumber_any (some ⟨w1.heap.size, 0, none⟩) [50, 53, 59, 120] 4 _ _ (RB.lit w1 5 #[.int .u8 50, .int .u8 53, .int .u8 59, .int .u8 120] (4, 5) _ rfl) (by decide)
  rw [show tk 59 16 9007199254740992 (bt [50, 53, 59, 120] 0) [50, 53, 59, 120] 0 0 = (25, 3, 0) by decide] at t1
  refine t1.mono ?_
  clear t1
  rintro e w2 ⟨rfl, rfl⟩
  have hb2 : Below w.heap.size w (w1.alloc (.cells #[.int .u8 50, .int .u8 53, .int .u8 59, .int .u8 120] 5 (4, 5))) := hb1.alloc hb1.size _
  have T2 := T.keep hb2
  have hr2 : RB (w1.alloc (.cells #[.int .u8 50, .int .u8 53, .int .u8 59, .int .u8 120] 5 (4, 5))) w1.heap.size A1 [50, 53, 59] := hr1.below ((Below.refl _ _).alloc (Nat.le_refl _) _)
  generalize hW2 : w1.alloc (.cells #[.int .u8 50, .int .u8 53, .int .u8 59, .int .u8 120] 5 (4, 5)) = W2 at *
  have hs2 : w1.heap.size ≤ W2.heap.size := by rw [← hW2]; simp
  clear hW2 hr1 T1
  have hr2' := hr2.mono hs2
  clear hr2 hs2
  go_wp2_with fail
  have n2 := text_any ⟨#[97, 44, 98]⟩ W2 (by decide) T2.pow10
  rw [show (⟨#[97, 44, 98]⟩ : ByteArray).data.toList = [97, 44, 98] from rfl, show textE [97, 44, 98] = 0 from rfl, textB_ab] at n2
  refine n2.mono ?_
  clear n2
  rintro e w3 ⟨hb3, v3, rfl, ho3⟩
  obtain ⟨A3, c3, rfl, -, -, hr3⟩ := ho3.out
  clear ho3
  have hr1 := (hr2'.below hb3).mono hb3.size
  have T3 := T2.keep hb3
  have hb4 := hb2.trans (hb3.mono hb2.size)
  clear hb1 hb2 hb3 T2 hr2'
  go_wp2_with fail
  have t1 := takeText_any (some ⟨w3.heap.size, 0, none⟩) [51, 58, 97, 44, 98, 44, 55] 7 _ _ (RB.lit w3 5 #[.int .u8 51, .int .u8 58, .int .u8 97, .int .u8 44, .int .u8 98, .int .u8 44, .int .u8 55] (7, 8) _ rfl) (by decide) (by decide) (by decide)
  rw [show ttS [51, 58, 97, 44, 98, 44, 55] = [97, 44, 98] by decide, show ttN [51, 58, 97, 44, 98, 44, 55] = 6 by decide, show ttE [51, 58, 97, 44, 98, 44, 55] = 0 by decide] at t1
  refine t1.mono ?_
  clear t1
  rintro e w5 ⟨rfl, rfl⟩
  have q1 : Below w3.heap.size w3 (w3.alloc (.cells #[.int .u8 51, .int .u8 58, .int .u8 97, .int .u8 44, .int .u8 98, .int .u8 44, .int .u8 55] 5 (7, 8))) := (Below.refl _ _).alloc (Nat.le_refl _) _
  generalize w3.alloc (.cells #[.int .u8 51, .int .u8 58, .int .u8 97, .int .u8 44, .int .u8 98, .int .u8 44, .int .u8 55] 5 (7, 8)) = W4 at *
  have hr5 := (hr1.below q1).mono q1.size
  have hr6 := (hr3.below q1).mono q1.size
  have T4 := T3.keep q1
  have hb5 := hb4.trans (q1.mono hb4.size)
  clear hr1 hr3 T3 hb4 q1
  go_wp2_with fail
  have t1 := sum_any (some ⟨W4.heap.size, 0, none⟩) [49, 50, 51, 52, 53, 54, 55, 56, 57] 9 _ _ (RB.lit W4 5 #[.int .u8 49, .int .u8 50, .int .u8 51, .int .u8 52, .int .u8 53, .int .u8 54, .int .u8 55, .int .u8 56, .int .u8 57] (9, 10) _ rfl) (by decide)
  rw [crc_nine] at t1
  refine t1.mono ?_
  clear t1
  rintro e w6 ⟨rfl, rfl⟩
  have q1 : Below W4.heap.size W4 (W4.alloc (.cells #[.int .u8 49, .int .u8 50, .int .u8 51, .int .u8 52, .int .u8 53, .int .u8 54, .int .u8 55, .int .u8 56, .int .u8 57] 5 (9, 10))) := (Below.refl _ _).alloc (Nat.le_refl _) _
  generalize W4.alloc (.cells #[.int .u8 49, .int .u8 50, .int .u8 51, .int .u8 52, .int .u8 53, .int .u8 54, .int .u8 55, .int .u8 56, .int .u8 57] 5 (9, 10)) = W5 at *
  have hr1 := (hr5.below q1).mono q1.size
  have hr3 := (hr6.below q1).mono q1.size
  have T5 := T4.keep q1
  have hb6 := hb5.trans (q1.mono hb5.size)
  clear hr5 hr6 T4 hb5 q1
  go_wp2_with fail
  have t1 := hex_any 3421780262 W5 (by omega) T5.cell T5.lt
  rw [hex8_crc] at t1
  refine t1.mono ?_
  clear t1
  rintro e w7 ⟨hb7, rfl⟩
  have hr5 := (hr1.below hb7).mono hb7.size
  have hr6 := (hr3.below hb7).mono hb7.size
  have hb8 := hb6.trans (hb7.mono hb6.size)
  clear hr1 hr3 T5 T hb6 hb7
  have k1 := run_convRB (P := Tryd.prog) 22 9 5 Tryd.underlying22 Tryd.underlying5 Tryd.underlying9 hr5 3 c1 rfl
  have k2 := run_convRB (P := Tryd.prog) 22 9 5 Tryd.underlying22 Tryd.underlying5 Tryd.underlying9 hr6 6 c3 rfl
  clear hr5 hr6 bc
  go_wp2
  go_ret
  exact ⟨hb8, rfl⟩
end Go.Proofs.YtliigjmbgbckpaaDoor
