/-
  The walk of the law RecordEncodes. Its conditions: what the form gives (the tables of the library, the message's reading).
-/
import Derived.Test.YtfnhaddgdfkmcaaDoorSz
import Derived.Test.YtfnhaddgdfkmcaaDoorSame
import Derived.Test.YtfnhaddgdfkmcaaDoorShown
import Derived.Test.YtfnhaddgdfkmcaaDoorRMarkAt
namespace Go.Proofs.YtfnhaddgdfkmcaaDoor
open Go.RowKit Go.Sort
set_option linter.unusedVariables false

set_option maxRecDepth 100000 in
set_option maxHeartbeats 4000000 in
theorem lawEncodes (m : Msg) (A1 : Option Addr) (c1 : Nat) (A2 : Option Addr) (c2 : Nat) (i : Int) (w : World) (T : Tabs w) (h : MsgAt w w.heap.size m A1 c1 A2 c2) :
    Calls Tryd.prog 3 #[.agg (mCells m A1 c1 A2 c2), .int .i64 i] w fun e w' => Below w.heap.size w w' ∧ e = .returned (.bool true) := by
  have HSZ := Lib.hid h.sz
  have bk0 := Blk.new w 25 (mCells m A1 c1 A2 c2)
  have hb0 : Below w.heap.size w (w.alloc (.cells (mCells m A1 c1 A2 c2) 25)) := (Below.refl _ _).alloc (Nat.le_refl _) _
  have hs0 : (w.alloc (.cells (mCells m A1 c1 A2 c2) 25)).heap.size = w.heap.size + 1 := by simp
  generalize hw0 : w.alloc (.cells (mCells m A1 c1 A2 c2) 25) = w0 at *
  have h0 := (h.below hb0).mono hb0.size
  have K : Hid (∀ w', Below w0.heap.size w0 w' → w'.cell? ⟨w.heap.size, 0, none⟩ = some (.int .i64 m.time) ∧ w'.cell? ⟨w.heap.size, 1, none⟩ = some (.string m.frm) ∧ w'.cell? ⟨w.heap.size, 2, none⟩ = some (.slice A1 m.rcpts.length c1) ∧ w'.cell? ⟨w.heap.size, 3, none⟩ = some (.slice A2 m.data.length c2)) :=
    Lib.hid fun w' hb => ⟨(bk0.keep hb).cell 0, (bk0.keep hb).cell 1, (bk0.keep hb).cell 2, (bk0.keep hb).cell 3⟩
  have M : Hid (∀ w', Below w0.heap.size w0 w' → MsgAt w' w'.heap.size m A1 c1 A2 c2) := Lib.hid fun w' hb => (h0.below hb).mono hb.size
  have TT : Hid (∀ w', Below w0.heap.size w0 w' → Tabs w') := Lib.hid fun w' hb => (T.keep (hb0.mono (Nat.le_refl _))).keep hb
  have HCP := Lib.hid (fun w' h => copy_walk m A1 c1 A2 c2 w' h)
  have HRE := Lib.hid (fun w' h => rencode_walk m A1 c1 A2 c2 w' h)
  have HEN := Lib.hid (fun B1 d1 B2 d2 w' h T => encode_walk m B1 d1 B2 d2 w' h T)
  have HRI := Lib.hid (fun B1 d1 B2 d2 w' h => mright_walk m B1 d1 B2 d2 w' h)
  have HRR := Lib.hid (fun w' h => rright_walk m A1 c1 A2 c2 w' h)
  have HMA := Lib.hid (fun B1 d1 B2 d2 w' h T => markAt_walk m B1 d1 B2 d2 i w' h T)
  have HRM := Lib.hid (fun w' h => rmarkAt_walk m A1 c1 A2 c2 i w' h)
  have HSA := Lib.hid (fun B1 d1 B2 d2 w' h h2 => same_walk m B1 d1 B2 d2 A1 c1 A2 c2 w' h h2)
  have HB0 := Lib.hid hb0
  have HW := Lib.hid hw0
  unfold AtAns at HMA HRM
  generalize atV m i = z1 at *
  generalize atE m i = z2 at *
  generalize rightE m = z3 at *
  unfold mCells at *
  obtain ⟨k0, k1, k2, k3⟩ := K.out w0 (Below.refl _ _)
  clear h h0 bk0 hb0 hw0 T
  have hw0 := HW.out
  go_enter Tryd.func3, Tryd.ntmps3
  go_wp2_with fail
  refine (shown_walk w0 (TT.out w0 (Below.refl _ _))).mono ?_
  rintro e w1 ⟨hb1, rfl⟩
  obtain ⟨k0, k1, k2, k3⟩ := K.out w1 hb1
  have HB1 := Lib.hid hb1
  clear hb1
  go_wp2_with fail
  refine (HCP.out w1 (M.out w1 HB1.out)).mono ?_
  rintro e w2 ⟨hb2, v1, v2, rfl, ho2⟩
  obtain ⟨B1, d1, B2, d2, rfl, rfl, -⟩ := ho2.out HSZ.out
  have bk2 := Blk.new w2 25 #[.int .i64 m.time, .string m.frm, .slice B1 m.rcpts.length d1, .slice B2 m.data.length d2]
  have hb3 := hb2.alloc hb2.size (.cells #[.int .i64 m.time, .string m.frm, .slice B1 m.rcpts.length d1, .slice B2 m.data.length d2] 25)
  have ho3 := ho2.below ((Below.refl _ _).alloc (Nat.le_refl _) (.cells #[.int .i64 m.time, .string m.frm, .slice B1 m.rcpts.length d1, .slice B2 m.data.length d2] 25))
  generalize hw3 : w2.alloc (.cells #[.int .i64 m.time, .string m.frm, .slice B1 m.rcpts.length d1, .slice B2 m.data.length d2] 25) = w3 at *
  have K2 : Hid (∀ w', Below w3.heap.size w3 w' → w'.cell? ⟨w2.heap.size, 0, none⟩ = some (.int .i64 m.time) ∧ w'.cell? ⟨w2.heap.size, 1, none⟩ = some (.string m.frm) ∧ w'.cell? ⟨w2.heap.size, 2, none⟩ = some (.slice B1 m.rcpts.length d1) ∧ w'.cell? ⟨w2.heap.size, 3, none⟩ = some (.slice B2 m.data.length d2)) :=
    Lib.hid fun w' hb => ⟨(bk2.keep hb).cell 0, (bk2.keep hb).cell 1, (bk2.keep hb).cell 2, (bk2.keep hb).cell 3⟩
  have M2 : Hid (∀ w', Below w3.heap.size w3 w' → MsgAt w' w'.heap.size m B1 d1 B2 d2) := Lib.hid fun w' hb => (ho3.below hb).at_ HSZ.out
  have HB3 := Lib.hid (HB1.out.trans (hb3.mono HB1.out.size))
  have T3 : Hid (∀ w', Below w3.heap.size w3 w' → Below w0.heap.size w0 w') := Lib.hid fun w' hb => HB3.out.trans (hb.mono HB3.out.size)
  obtain ⟨k0, k1, k2, k3⟩ := K.out w3 HB3.out
  clear hb2 ho2 bk2 hb3 ho3 HCP
  go_wp2_with fail
  refine (HRE.out w3 (M.out w3 HB3.out)).mono ?_
  rintro e w4 ⟨hb4, u1, rfl, hu1⟩
  obtain ⟨E1, f1, rfl, -, -, hu2⟩ := hu1.out
  obtain ⟨q0, q1, q2, q3⟩ := K2.out w4 hb4
  have HB4 := Lib.hid hb4
  have HU1 := Lib.hid hu2
  clear hb4 hu1 hu2 HRE
  go_wp2_with fail
  refine (HEN.out B1 d1 B2 d2 w4 (M2.out w4 HB4.out) (TT.out w4 (T3.out w4 HB4.out))).mono ?_
  rintro e w5 ⟨hb5, u2, rfl, hu2⟩
  obtain ⟨E2, f2, rfl, -, -, hu3⟩ := hu2.out
  have HB5 := Lib.hid (HB4.out.trans (hb5.mono HB4.out.size))
  obtain ⟨q0, q1, q2, q3⟩ := K2.out w5 HB5.out
  have HU2 := Lib.hid hu3
  have HU15 := Lib.hid ((HU1.out.below hb5).mono hb5.size)
  clear hb5 hu2 hu3 HEN HU1
  go_wp2_with fail
  refine (HRI.out B1 d1 B2 d2 w5 (M2.out w5 HB5.out)).mono ?_
  rintro e w6 ⟨hb6, rfl⟩
  have HB6 := Lib.hid (HB5.out.trans (hb6.mono HB5.out.size))
  obtain ⟨q0, q1, q2, q3⟩ := K2.out w6 HB6.out
  have hs56 := hb6.size
  have HC6 := Lib.hid hb6
  clear hb6 HRI
  go_wp2_with fail
  refine (HMA.out B1 d1 B2 d2 w6 (M2.out w6 HB6.out) (TT.out w6 (T3.out w6 HB6.out))).mono ?_
  rintro e w7 ⟨hb7, rfl⟩
  have HB7 := Lib.hid (HB6.out.trans (hb7.mono HB6.out.size))
  have HC7 := Lib.hid (HC6.out.trans (hb7.mono HC6.out.size))
  obtain ⟨k0, k1, k2, k3⟩ := K.out w7 (T3.out w7 HB7.out)
  clear hb7 HMA HC6
  go_wp2_with fail
  refine (HRM.out w7 (M.out w7 (T3.out w7 HB7.out))).mono ?_
  rintro e w8 ⟨hb8, rfl⟩
  have HB8 := Lib.hid (HB7.out.trans (hb8.mono HB7.out.size))
  have HC8 := Lib.hid (HC7.out.trans (hb8.mono HC7.out.size))
  obtain ⟨q0, q1, q2, q3⟩ := K2.out w8 HB8.out
  obtain ⟨k0, k1, k2, k3⟩ := K.out w8 (T3.out w8 HB8.out)
  clear hb8 HRM HC7
  go_wp2_with fail
  refine (HSA.out B1 d1 B2 d2 w8 (M2.out w8 HB8.out) (M.out w8 (T3.out w8 HB8.out))).mono ?_
  rintro e w9 ⟨hb9, rfl⟩
  have HB9 := Lib.hid (T3.out w9 (HB8.out.trans (hb9.mono HB8.out.size)))
  have HC9 := Lib.hid (HC8.out.trans (hb9.mono HC8.out.size))
  obtain ⟨k0, k1, k2, k3⟩ := K.out w9 HB9.out
  clear hb9 HSA HC8
  go_wp2_with (go_at_call 15; refine (HRR.out w9 (M.out w9 HB9.out)).mono ?_; rintro e w10 ⟨hb10, rfl⟩; have hcv1 := cvRB (HU15.out.below (HC9.out.trans (hb10.mono HC9.out.size))) (encV m).length f1 rfl; have hcv2 := cvRB (HU2.out.below (HC9.out.trans (hb10.mono HC9.out.size))) (encV m).length f2 rfl)
  go_ret
  exact ⟨HB0.out.trans ((HB9.out.trans (hb10.mono HB9.out.size)).mono HB0.out.size), rfl⟩
end Go.Proofs.YtfnhaddgdfkmcaaDoor
