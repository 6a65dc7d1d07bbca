/-
  The walk of waybilllaw03's shown. Its condition: what the library's tables hold.
-/
import Derived.Test.YtfnhaddgdfkmcaaDoorSm
import Derived.Test.YtfnhaddgdfkmcaaDoorPl
import Derived.Test.YtfnhaddgdfkmcaaDoorMark
import Derived.Test.YtfnhaddgdfkmcaaDoorEnc
import Derived.Test.YtfnhaddgdfkmcaaDoorMore
namespace Go.Proofs.YtfnhaddgdfkmcaaDoor
open Go.RowKit Go.Sort
set_option linter.unusedVariables false

def smallP : List UInt8 := [87, 49, 59, 116, 55, 59, 102, 48, 58, 44, 110, 49, 59, 114, 80, 51, 58, 97, 64, 98, 44, 100, 48, 58, 44, 101]
theorem numB_7 : numB 7 = [55, 59] := by unfold numB; rw [if_neg (by omega), Lib.decDigits_one (by decide)]; rfl
theorem numB_1 : numB 1 = [49, 59] := by unfold numB; rw [if_neg (by omega), Lib.decDigits_one (by decide)]; rfl
theorem textB_e : textB [] = [48, 58, 44] := by unfold textB; rw [if_neg (by decide), Lib.decDigits_one (by decide)]; rfl
theorem textB_s : textB [97, 64, 98] = [51, 58, 97, 64, 98, 44] := by unfold textB; rw [if_neg (by decide), Lib.decDigits_one (by decide)]; rfl
theorem small_hd : hdB smallM = [87, 49, 59, 116, 55, 59, 102, 48, 58, 44, 110, 49, 59] := by
  unfold hdB smallM
  show [] ++ ([87, 49, 59, 116] ++ numB 7) ++ ([102] ++ textB []) ++ ([110] ++ numB 1) = _
  rw [numB_7, numB_1, textB_e]; rfl
theorem small_enc : encB smallM = smallP ++ (hex8 (crc (layB smallM)) ++ [10]) := by
  unfold encB endB sumB
  rw [small_hd]
  rw [show recM smallM.rcpts = ([114, 80] ++ textB [97, 64, 98]) ++ [] from rfl, show textB smallM.data = textB [] from rfl, textB_s, textB_e]
  simp [smallP]
theorem small_may : MayBe smallM := ⟨by decide, by decide, by decide, by decide, by decide, by decide, .inl rfl, fun r hr => by
  simp [smallM] at hr
  subst hr
  exact ⟨by decide, by decide, by decide⟩⟩
theorem small_ok : rightE smallM = 0 := right_may small_may
theorem small_at : atI smallM 0 = 14 := by
  unfold atI
  rw [small_hd]; rfl
theorem small_len : (encB smallM).length = 35 := by
  rw [small_enc, List.length_append, List.length_append, hex8_len8 (crc_lt _)]; rfl
set_option maxRecDepth 100000 in
set_option maxHeartbeats 4000000 in
theorem shown_walk (w : World) (T : Tabs w) : Calls Tryd.prog 7 #[] w fun e w' => Below w.heap.size w w' ∧ e = .returned (.bool true) := by
  have HS := Lib.hid (fun w => small_walk w)
  have HE := Lib.hid (fun A w h T => encode_walk smallM A 1 none 0 w h T)
  have HM0 := Lib.hid (fun A w h T => markAt_walk smallM A 1 none 0 0 w h T)
  have HM1 := Lib.hid (fun A w h T => markAt_walk smallM A 1 none 0 1 w h T)
  have HLEN := Lib.hid small_len
  have HDT := Lib.hid (dec_torn small_may (c := 34) (by rw [small_len]; decide))
  have HDB := Lib.hid (dec_back small_may)
  have HTK : Hid ((encB smallM).take 26 = smallP) := Lib.hid (by rw [small_enc, List.take_append_of_le_length (by decide)]; rfl)
  unfold encV mCells at HE
  rw [small_ok, if_pos rfl] at HE
  unfold mCells at HM0 HM1
  rw [at_ok small_ok (by decide), small_at] at HM0
  rw [at_arg small_ok (by decide)] at HM1
  change Hid (∀ A w, MsgAt w w.heap.size smallM A 1 none 0 → Tabs w → Calls Tryd.prog 10 #[.agg #[.int .i64 7, .string ⟨#[]⟩, .slice A 1 1, .slice none 0 0]] w _) at HE
  change Hid (∀ A w, MsgAt w w.heap.size smallM A 1 none 0 → Tabs w → Calls Tryd.prog 12 #[.agg #[.int .i64 7, .string ⟨#[]⟩, .slice A 1 1, .slice none 0 0], .int .i64 0] w _) at HM0
  change Hid (∀ A w, MsgAt w w.heap.size smallM A 1 none 0 → Tabs w → Calls Tryd.prog 12 #[.agg #[.int .i64 7, .string ⟨#[]⟩, .slice A 1 1, .slice none 0 0], .int .i64 1] w _) at HM1
  generalize encB smallM = E at *
  go_enter Tryd.func7, Tryd.ntmps7
  go_wp2_with fail
  refine (HS.out w).mono ?_
  rintro e w1 ⟨hb1, A1, rfl, hm1⟩
  have T1 := T.keep hb1
  go_wp2_with fail
  refine (HE.out A1 w1 hm1 T1).mono ?_
  rintro e w2 ⟨hb2, v, rfl, ho2⟩
  obtain ⟨A2, c2, rfl, hc2, hx2, hr2⟩ := ho2.out
  have B2 := hb1.trans (hb2.mono hb1.size)
  have T2 := T.keep B2
  rw [HLEN.out] at hc2 ⊢
  have hcv := cvRB (hr2.take 26) 26 c2 (by rw [List.length_take, HLEN.out]; rfl)
  rw [HTK.out] at hcv
  clear HE hb1 hb2 hm1 T1 ho2
  have HR2 := Lib.hid hr2
  have HB2 := Lib.hid B2
  unfold smallP at hcv
  clear hr2 B2
  have hc3 : (35 : Int) ≤ (c2 : Int) := by omega
  have hx3 : (c2 : Int) ≤ 9223372036854775807 := by simp only [maxLen] at hx2; omega
  go_wp2_with fail
  refine (HS.out w2).mono ?_
  rintro e w3 ⟨hb3, A3, rfl, hm3⟩
  have T3 := T2.keep hb3
  go_wp2_with fail
  refine (HM0.out A3 w3 hm3 T3).mono ?_
  rintro e w4 ⟨hb4, rfl⟩
  have T4 := T3.keep hb4
  have HB4 := Lib.hid ((HB2.out.trans (hb3.mono HB2.out.size)).trans (hb4.mono (Nat.le_trans HB2.out.size hb3.size)))
  have HR4 := Lib.hid ((HR2.out.below (hb3.trans (hb4.mono hb3.size))).mono (Nat.le_trans hb3.size hb4.size))
  clear hm3 hb3 hb4 T2 T3 HR2 HB2 HM0 hcv
  go_wp2_with fail
  refine (HS.out w4).mono ?_
  rintro e w5 ⟨hb5, A5, rfl, hm5⟩
  have T5 := T4.keep hb5
  go_wp2_with fail
  refine (HM1.out A5 w5 hm5 T5).mono ?_
  rintro e w6 ⟨hb6, rfl⟩
  have T6 := T5.keep hb6
  have HB6 := Lib.hid ((HB4.out.trans (hb5.mono HB4.out.size)).trans (hb6.mono (Nat.le_trans HB4.out.size hb5.size)))
  have HR6 := Lib.hid ((HR4.out.below (hb5.trans (hb6.mono hb5.size))).mono (Nat.le_trans hb5.size hb6.size))
  have HC1 := Lib.hid (decode_walk A2 (E.take 34) c2 w6 (HR6.out.take 34) (by rw [List.length_take, HLEN.out]; omega) hx2 T6)
  rw [show (E.take 34).length = 34 by rw [List.length_take, HLEN.out]; rfl, HDT.out] at HC1
  clear hm5 hb5 hb6 T4 T5 HR4 HB4 HM1 HDT HTK HS
  go_wp2_with fail
  refine HC1.out.mono ?_
  rintro e w7 ⟨hb7, he7⟩
  unfold DecP at he7
  dsimp only at he7
  subst he7
  have hb8 := hb7.alloc hb7.size (.cells #[.int .i64 0, .string ⟨#[]⟩, .slice none 0 0, .slice none 0 0] 25)
  have HB8 := Lib.hid (HB6.out.trans (hb8.mono HB6.out.size))
  have HR8 := Lib.hid ((HR6.out.below hb8).mono hb8.size)
  have T8 := T6.keep hb8
  clear hb7 hb8 HC1 HB6 HR6 T6
  have HC2 := Lib.hid (decode_walk A2 E c2 _ HR8.out (by rw [HLEN.out]; omega) hx2 T8)
  rw [HLEN.out, HDB.out] at HC2
  go_wp2_with fail
  refine HC2.out.mono ?_
  rintro e w9 ⟨hb9, he9⟩
  unfold DecP at he9
  dsimp only at he9
  obtain ⟨v1, v2, rfl, ho9, hw9⟩ := he9
  obtain ⟨A9, c9, rfl, -, -, -⟩ := ho9.out
  obtain ⟨A10, c10, rfl, -, -, -⟩ := hw9
  have HB9 := Lib.hid (HB8.out.trans (hb9.mono HB8.out.size))
  clear ho9 hb9 HC2 HB8 HR8 T8
  go_wp2
  go_ret
  exact ⟨HB9.out.alloc HB9.out.size _, rfl⟩
end Go.Proofs.YtfnhaddgdfkmcaaDoor
