/-
  The walk of HeaderSplits. It asks that MaxLen is a number, and the sizes.
-/
import Derived.Test.YtgbbadbffcjamaaDoorHdSm
import Derived.Test.YtgbbadbffcjamaaDoorHdRS
namespace Go.Proofs.YtgbbadbffcjamaaDoor
open Go.RowKit
set_option linter.unusedVariables false
set_option maxRecDepth 1000000 in
set_option maxHeartbeats 4000000 in
theorem splits_walk (w : World) (hM : Mx w) (A : Option Addr) (l : List UInt8) (n c : Nat) (hn : n = l.length) (hr : RB w w.heap.size A l) (hc : n ≤ c) (hm : c ≤ 9223372036854775807) (hl : n ≤ 1048576) (t : ByteArray) (ht : t.size ≤ 1048576) :
    Calls Tryd.prog 4 #[.slice A n c, .string t] w fun e w' => Below w.heap.size w w' ∧ e = .returned (.bool true) := by
  have HM := Lib.hid hM
  have HR0 := Lib.hid hr
  have HN0 := Lib.hid hn
  have KS := Lib.hid (shown_walk w hM)
  obtain ⟨L, B, er, hE⟩ : ∃ L B er, split11 l = (L, B, er) := ⟨_, _, _, rfl⟩
  have HSM := Lib.hid (split11_small hE (by omega))
  have HE := Lib.hid hE
  clear hr hn hM hE
  go_enter Tryd.func4, Tryd.ntmps4
  go_wp2_with fail
  with_reducible refine KS.out.mono ?_
  rintro e1 w1 ⟨hb1, rfl⟩
  have HB1 := Lib.hid hb1
  clear hb1 KS
  have hba := (Below.refl w1.heap.size w1).alloc (Nat.le_refl _) (.cells #[] 5)
  have HBa := Lib.hid (HB1.out.trans (hba.mono HB1.out.size))
  clear hba
  go_wp2_with (at_builtin; refine wpList_appQ _ u8S (.tmp 21) (.tmp 22) rfl rfl w.heap.size rfl (OwnQ.nil _ _ (some ⟨w1.heap.size, 0, none⟩)) _ _ rfl HN0.out (HR0.out.below HBa.out) (by have := HN0.out; simp; omega) HBa.out.size ?_; intro v2 own2 w2 hO2 hg2 ho2; rw [List.nil_append] at hO2; obtain ⟨A2, cc2, rfl, -⟩ := hO2.out; have HO2 := Lib.hid hO2; have HB2 := Lib.hid (HBa.out.trans ((OwnQ.nil _ _ (some ⟨w1.heap.size, 0, none⟩)).belowG hg2 HBa.out.size)); clear hO2 hg2 ho2)
  have hv2 := (OwnV.of_q HO2.out).sl
  have HV2 := Lib.hid (OwnV.of_q HO2.out)
  rw [← HN0.out] at hv2 HV2 ⊢
  obtain ⟨-, hc2, hm2, hr2⟩ := hv2
  have HR2 := Lib.hid hr2
  unfold maxLen at hm2
  have KR := Lib.hid (rsplit_walk w2 A l n c HN0.out ((HR0.out.below HB2.out).mono HB2.out.size) hc hm (by omega))
  clear hr2 HO2
  go_wp2_with fail
  with_reducible refine KR.out.mono ?_
  rintro e3 w3 hp3
  obtain ⟨hb3, A3, c3, rfl, hR3, hc3, hm3⟩ := hp3.get HE.out
  have HB3 := Lib.hid (HB2.out.trans (hb3.mono HB2.out.size))
  have HV3 := Lib.hid (HV2.out.below hb3)
  have KP := Lib.hid (split_walk w3 (HM.out.below HB3.out) A2 l n cc2 HN0.out ((HR2.out.below hb3).mono hb3.size) hc2 hm2 (by omega))
  have HR3 := Lib.hid hR3
  clear hb3 hp3 KR hR3 HR2 HV2
  unfold maxLen at hm3
  go_wp2_with fail
  with_reducible refine KP.out.mono ?_
  rintro e4 w4 hp4
  obtain ⟨hb4, A4, c4, rfl, hR4, hc4, hm4⟩ := hp4.get HE.out
  have HB4 := Lib.hid (HB3.out.trans (hb4.mono HB3.out.size))
  have HF3 := Lib.hid ((HR3.out.below hb4).mono hb4.size)
  have HF4 := Lib.hid hR4
  have HV4 := Lib.hid (HV3.out.below hb4).wu
  obtain ⟨no, hno⟩ : ∃ no, no = L.length := ⟨_, rfl⟩
  rw [← hno] at hc3 hc4 ⊢
  have HNO := Lib.hid hno
  unfold maxLen at hm4
  clear hb4 hp4 KP hR4 HR3 HV3 hno
  go_wp2_with fail
  go_loopg [13] n (fun k s wr => ∃ j : Nat, j + k = n ∧ s = .int .i64 (j : Int) ∧ Hid (Wu wr A2 n) ∧ Hid (RF wr w4.heap.size A3 L) ∧ Hid (RF wr w4.heap.size A4 L) ∧ Hid (Below w.heap.size w wr) ∧ Hid (w4.heap.size ≤ wr.heap.size))
  case atStart => exact ⟨0, by omega, rfl, Lib.hid HV4.out.1, HF3, HF4, HB4, Lib.hid (Nat.le_refl _)⟩
  case round =>
    obtain ⟨j, hj, rfl, HW, H3, H4, HB, HS⟩ := hrel
    clear HF3 HF4 HB4
    by_cases hlt : j < n
    · have hj1 : (j : Int) < (n : Int) := by omega
      obtain ⟨g, o, rfl, hg⟩ := HV4.out.2 (by omega)
      obtain ⟨⟨u, ku⟩, fu⟩ := HW.out g o rfl j hlt
      have HKU := Lib.hid ku
      go_wp2
      go_roundg (gk - 1)
      case rel => exact ⟨j + 1, by omega, by go_num, Lib.hid (HW.out.set_ _ _), Lib.hid (H3.out.byte HKU.out rfl _), Lib.hid (H4.out.byte HKU.out rfl _), Lib.hid (HB.out.setCell (p := ⟨g, o + j, none⟩) hg _), Lib.hid (by simpa using HS.out)⟩
      case measure => omega
    · have hj1 : ¬ (j : Int) < (n : Int) := by omega
      obtain ⟨hsm, hll, -⟩ := HSM.out
      have hnl : no ≤ 1000 := by rw [HNO.out]; exact hll
      have R3 := Lib.hid (H3.out.mono HS.out)
      have R4 := Lib.hid (H4.out.mono HS.out)
      have HSL := Lib.hid hsm
      have KF := Lib.hid (samef_walk wr A4 A3 L no c4 c3 HNO.out R4.out R3.out (by omega))
      clear HW H3 H4 HV4 HS hsm hll
      go_wp2_with fail
      with_reducible refine KF.out.mono ?_
      rintro e5 w5 ⟨hb5, rfl⟩
      have HB5 := Lib.hid (HB.out.trans (hb5.mono HB.out.size))
      have R35 := Lib.hid ((R3.out.below hb5).mono hb5.size)
      have R45 := Lib.hid ((R4.out.below hb5).mono hb5.size)
      have KD := Lib.hid (find_walk w5 A4 L no c4 t HNO.out R45.out HSL.out (by omega) (by omega))
      clear hb5 KF R3 R4
      go_wp2_with fail
      with_reducible refine KD.out.mono ?_
      rintro e6 w6 hp6
      obtain ⟨hb6, rfl⟩ := hp6.get
      obtain ⟨F, bb, hF⟩ : ∃ F bb, fr11 t L = (F, bb) := ⟨_, _, rfl⟩
      have HF := Lib.hid hF
      rw [hF]
      simp only []
      unfold fdv
      obtain ⟨sN, hsN⟩ : ∃ sN : ByteArray, sN = ⟨F.nm.toArray⟩ := ⟨_, rfl⟩
      obtain ⟨sB, hsB⟩ : ∃ sN : ByteArray, sN = ⟨F.bd.toArray⟩ := ⟨_, rfl⟩
      obtain ⟨fr, hfr⟩ : ∃ x, x = F.fr := ⟨_, rfl⟩
      obtain ⟨tt, htt⟩ : ∃ x, x = F.tt := ⟨_, rfl⟩
      rw [← hsN, ← hsB, ← hfr, ← htt]
      have HV : Hid (fdv F = .agg #[.string sN, .string sB, .int .i64 (fr : Int), .int .i64 (tt : Int)]) := Lib.hid (by rw [hsN, hsB, hfr, htt]; rfl)
      have hba := (Below.refl w6.heap.size w6).alloc (Nat.le_refl _) (.cells #[.string sN, .string sB, .int .i64 (fr : Int), .int .i64 (tt : Int)] 29)
      have HK6 := Lib.hid (Blk.new w6 29 #[.string sN, .string sB, .int .i64 (fr : Int), .int .i64 (tt : Int)])
      have hb56 := hb6.trans (hba.mono hb6.size)
      have HB6 := Lib.hid (HB5.out.trans (hb56.mono HB5.out.size))
      have R36 := Lib.hid ((R35.out.below hb56).mono hb56.size)
      have R46 := Lib.hid ((R45.out.below hb56).mono hb56.size)
      have KD2 := Lib.hid (rfind_walk (w6.alloc (.cells #[.string sN, .string sB, .int .i64 (fr : Int), .int .i64 (tt : Int)] 29)) A3 L no c3 t HNO.out R36.out HSL.out (by omega) (by omega))
      clear hb6 hb56 hba hsN hsB hfr htt hF hp6 KD R35 R45
      go_wp2_with fail
      with_reducible refine KD2.out.mono ?_
      rintro e7 w7 hp7
      obtain ⟨hb7, rfl⟩ := hp7.get
      rw [HF.out]
      simp only []
      rw [HV.out]
      have hba := (Below.refl w7.heap.size w7).alloc (Nat.le_refl _) (.cells #[.string sN, .string sB, .int .i64 (fr : Int), .int .i64 (tt : Int)] 29)
      have HK7 := Lib.hid (Blk.new w7 29 #[.string sN, .string sB, .int .i64 (fr : Int), .int .i64 (tt : Int)])
      have hb67 := hb7.trans (hba.mono hb7.size)
      have HB7 := Lib.hid (HB6.out.trans (hb67.mono HB6.out.size))
      have R37 := Lib.hid ((R36.out.below hb67).mono hb67.size)
      have R47 := Lib.hid ((R46.out.below hb67).mono hb67.size)
      have HK67 := Lib.hid (HK6.out.keep hb67)
      have KH := Lib.hid (hops_walk (w7.alloc (.cells #[.string sN, .string sB, .int .i64 (fr : Int), .int .i64 (tt : Int)] 29)) A4 L no c4 HNO.out R47.out HSL.out (by omega))
      clear hb7 hb67 hba hp7 KD2 R36 R46 HK6 HV HF
      go_wp2_with fail
      with_reducible refine KH.out.mono ?_
      rintro e8 w8 ⟨hb8, rfl⟩
      have HB8 := Lib.hid (HB7.out.trans (hb8.mono HB7.out.size))
      have R38 := Lib.hid ((R37.out.below hb8).mono hb8.size)
      have HK68 := Lib.hid (HK67.out.keep hb8)
      have HK78 := Lib.hid (HK7.out.keep hb8)
      have KH2 := Lib.hid (rhops_walk w8 A3 L no c3 HNO.out R38.out HSL.out (by omega))
      generalize hops11 L = hp at *
      have z0 := HK68.out.cell 0
      have z1 := HK68.out.cell 1
      have z2 := HK68.out.cell 2
      have z3 := HK68.out.cell 3
      have y0 := HK78.out.cell 0
      have y1 := HK78.out.cell 1
      have y2 := HK78.out.cell 2
      have y3 := HK78.out.cell 3
      have q1 : ((B : Int) == (B : Int)) = true := by simp
      have q2 : ((er : Int) == er) = true := by simp
      have q3 : ((hp : Int) == (hp : Int)) = true := by simp
      have q4 : (bb == bb) = true := by simp
      clear hb8 KH HK67 HK7 R37 R47
      go_wp2_with fail
      with_reducible refine KH2.out.mono ?_
      rintro e9 w9 ⟨hb9, rfl⟩
      have HB9 := Lib.hid (HB8.out.trans (hb9.mono HB8.out.size))
      clear hb9
      go_wp2
      go_ret
      exact ⟨HB9.out, rfl⟩
end Go.Proofs.YtgbbadbffcjamaaDoor
