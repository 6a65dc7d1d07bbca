/-
  The walk of the law's does. Conditions: the sizes.
-/
import Derived.Test.YtihhadgkcdkemaaDoorPDoes0
import Derived.Test.YtihhadgkcdkemaaDoorRSend
import Derived.Test.YtihhadgkcdkemaaDoorRTake
namespace Go.Proofs.YtihhadgkcdkemaaDoor
open Go.RowKit Go.Maps
set_option linter.unusedVariables false
def DoesPost (w0 : World) (B : Nat) (pb rb : Nat) (S : List Pq) (e : Ending) (w' : World) : Prop :=
  ∃ own', Both w0 w' B own' pb rb S S ∧ e = .returned (.bool true)
set_option maxRecDepth 100000 in
set_option maxHeartbeats 4000000 in
theorem does_walk (w0 w : World) (B : Nat) (own : Nat → Nat × Nat) (pb rb : Nat) (S : List Pq) (h : Both w0 w B own pb rb S S) (hS : S.length ≤ 10000) (k : Int) (f t : ByteArray) (hf : f.size ≤ maxLen) (ht : t.size ≤ maxLen) (most : Int) (hm1 : -9223372036854775808 ≤ most) (hm2 : most ≤ 9223372036854775807)
    (Ab : Option Addr) (l : List UInt8) (n c : Nat) (hn : n = l.length) (hr : RB w B Ab l) (hA : Ab = none → n = 0) (hm : n ≤ 140737488351232) :
    Calls Tryd.prog 13 #[.pointer (some ⟨pb, 0, none⟩), .pointer (some ⟨rb, 0, none⟩), .agg #[.int .i64 k, .string f, .string t, .int .i64 most, .slice Ab n c]] w (DoesPost w0 B pb rb (doQ S k f t most l)) := by
  have HI := Lib.hid h
  have HF := Lib.hid hf
  have HT := Lib.hid ht
  have HR := Lib.hid hr
  have HN := Lib.hid hn
  have HA := Lib.hid hA
  have HB0 := Lib.hid h.s
  clear h hf ht hr hn hA
  go_enter Tryd.func13, Tryd.ntmps13
  have HBx := Lib.hid ((Below.refl w.heap.size w).alloc (Nat.le_refl _) (.cells #[.int .i64 k, .string f, .string t, .int .i64 most, .slice Ab n c] 40))
  have HBy := Lib.hid (HBx.out.alloc HBx.out.size (.cells #[] 5))
  have HX0 := Lib.hid ((Blk.new w 40 #[.int .i64 k, .string f, .string t, .int .i64 most, .slice Ab n c]).alloc (.cells #[] 5))
  have x4 := HX0.out.cell 4
  go_upto_region 3 with (at_builtin; refine wpList_appQ _ u8P (.tmp 19) (.tmp 21) rfl rfl w.heap.size rfl (OwnQ.nil _ _ _) n c rfl HN.out ((HR.out.keep (Nat.le_refl _) (fun _ hp => (HBy.out.mono HB0.out).cell hp))) (by have := HN.out; simp; omega) HBy.out.size ?_; intro v1 g1 w1 hO1 hG1 ho1; rw [List.nil_append] at hO1; have hb1 := HBy.out.grown hG1 HBy.out.size (fun k h => by cases h); have HB1 := Lib.hid hb1; have HX1 := Lib.hid (HX0.out.grown hG1 (by simp)); have HV1 := Lib.hid (OwnV.of_q hO1); have HG1 : Hid (∀ k, g1 = some k → w.heap.size ≤ k) := Lib.hid (fun k hk => (hO1.base_ hk).1); obtain ⟨A1, c1, rfl, -⟩ := hO1; have x0 := HX1.out.cell 0; clear hG1 ho1 hb1)
  have HI1 := Lib.hid (HI.out.below HB1.out)
  have HM1 : Hid (cutM w own w.heap.size = (0, 0)) := Lib.hid (cutM_new (Nat.le_refl _))
  have HNb := Lib.hid (Nb.mk HX1.out HM1.out)
  have HVm : Hid (∀ k, msgBlk (.slice A1 l.length c1) = some k → cutM w own k = (0, 0)) := Lib.hid fun k hk => cutM_new (by
    obtain ⟨-, -, -, -, h5, -⟩ := HV1.out.wu
    cases A1 with
    | none => cases hk
    | some a =>
      cases e : l.length with
      | zero => rw [e] at hk; cases hk
      | succ m =>
        obtain ⟨g, o, e2, h6, -⟩ := h5 (by omega)
        cases e2
        rw [e] at hk
        cases hk
        exact h6)
  have HRB := Lib.hid (HR.out.keep (Nat.le_refl _) fun _ hp => (HB1.out.mono HB0.out).cell hp)
  have HVl : Hid (∀ k, msgBlk (.slice A1 l.length c1) = some k → k < w1.heap.size) := Lib.hid fun k hk => by
    obtain ⟨-, -, -, -, h5, -⟩ := HV1.out.wu
    cases A1 with
    | none => cases hk
    | some a =>
      cases e : l.length with
      | zero => rw [e] at hk; cases hk
      | succ m =>
        obtain ⟨g, o, e2, -, h6⟩ := h5 (by omega)
        cases e2
        rw [e] at hk
        cases hk
        exact h6
  obtain ⟨own1, ho1⟩ : ∃ own1, cutM w own = own1 := ⟨_, rfl⟩
  rw [ho1] at HI1 HNb HVm
  obtain ⟨xb, hxb⟩ : ∃ xb, w.heap.size = xb := ⟨_, rfl⟩
  have HXB := Lib.hid hxb
  rw [hxb] at HNb HV1
  rw [hxb]
  clear ho1 x0 x4 HX0 HX1 HM1 HBx HBy HB1 hxb HI HG1
  have x0 := HNb.out.blk.cell 0
  have x1 := HNb.out.blk.cell 1
  have x2 := HNb.out.blk.cell 2
  have x3 := HNb.out.blk.cell 3
  have x4 := HNb.out.blk.cell 4
  by_cases hk0 : k = 0
  · subst hk0
    have KO := Lib.hid (open_walk w1 own1 pb S HI1.out.p (by omega) f t HF.out HT.out most hm1 hm2)
    go_wp2_with fail
    with_reducible refine KO.out.mono ?_
    rintro e w2 ⟨own2, hP, hT, rfl⟩
    have HI2 := Lib.hid (HI1.out.pturn hP hT)
    have HNb2 := Lib.hid (HNb.out.turn hT isP0)
    clear KO hP hT x0 x1 x2 x3 x4
    have x1 := HNb2.out.blk.cell 1
    have x2 := HNb2.out.blk.cell 2
    have x3 := HNb2.out.blk.cell 3
    have KR := Lib.hid (ropen_walk w2 own2 rb S HI2.out.r (by omega) f t HF.out HT.out most hm1 hm2)
    go_wp2_with fail
    with_reducible refine KR.out.mono ?_
    rintro e w3 ⟨own3, hP, hT, rfl⟩
    have HI3 := Lib.hid (HI2.out.rturn hP hT)
    clear KR hP hT x1 x2 x3
    generalize (openQ S f t most).2 = er at *
    have he : (er == er) = true := by simp
    go_wp2_with fail
    go_ret
    exact ⟨own3, by unfold doQ; rw [if_pos rfl]; exact HI3.out, rfl⟩
  have hk0' : (k == 0) = false := beq_eq_false_iff_ne.2 hk0
  by_cases hk3 : k = 3
  · subst hk3
    have KO := Lib.hid (pclear_walk w1 own1 pb S HI1.out.p (by omega) f)
    go_wp2_with fail
    with_reducible refine KO.out.mono ?_
    rintro e w2 ⟨own2, hP, hT, rfl⟩
    have HI2 := Lib.hid (HI1.out.pturn hP hT)
    have HNb2 := Lib.hid (HNb.out.turn hT isP0)
    clear KO hP hT x0 x1 x2 x3 x4
    have x1 := HNb2.out.blk.cell 1
    have KR := Lib.hid (rclear_walk w2 own2 rb S HI2.out.r (by omega) f)
    go_wp2_with fail
    with_reducible refine KR.out.mono ?_
    rintro e w3 ⟨hP, hT, rfl⟩
    have HI3 := Lib.hid (HI2.out.rturn hP hT)
    clear KR hP hT x1
    generalize (clearQ f S).2 = er at *
    have he : ((er : Int) == (er : Int)) = true := by simp
    go_wp2_with fail
    go_ret
    exact ⟨own2, by unfold doQ; rw [if_neg (by decide), if_neg (by decide), if_neg (by decide), if_pos rfl]; exact HI3.out, rfl⟩
  have hk3' : (k == 3) = false := beq_eq_false_iff_ne.2 hk3
  by_cases hk1 : k = 1
  · subst hk1
    obtain ⟨-, wu2, wu3, wu4, wu5, wu6⟩ := HV1.out.wu
    have HGe := Lib.hid wu5
    have HA1 : Hid (A1 = none → l.length = 0) := Lib.hid fun e => by
      rcases Nat.eq_zero_or_pos l.length with h0 | h0
      · exact h0
      · obtain ⟨g, o, e2, -⟩ := wu5 h0
        rw [e] at e2; cases e2
    have KO := Lib.hid (send_walk w1 own1 pb S HI1.out.p f t HF.out HT.out A1 l l.length c1 rfl wu6 HA1.out (Nat.le_trans wu2 wu3))
    have HM3 := Lib.hid wu3
    clear wu2 wu3 wu4 wu5 wu6
    go_wp2_with fail
    with_reducible refine KO.out.mono ?_
    rintro e w2 ⟨own2, hP, rfl, hT⟩
    have HI2 := Lib.hid (HI1.out.pturn hP hT)
    have HNb2 := Lib.hid (HNb.out.turn hT isP0)
    have HV2 := Lib.hid ((HV1.out.mono (Nat.zero_le _)).turn hT isP0 fun k hk => ⟨HVm.out k hk, HVl.out k hk⟩)
    have HRB2 := Lib.hid (HRB.out.keep HI2.out.s fun _ hp => (hT.below HI1.out.s HI1.out.z isP0).cell hp)
    clear KO hP hT x0 x1 x2 x3 x4
    have x1 := HNb2.out.blk.cell 1
    have x2 := HNb2.out.blk.cell 2
    have x4 := HNb2.out.blk.cell 4
    have KR := Lib.hid (rsend_walk w2 own2 rb S HI2.out.r (by omega) f t Ab l n c HN.out HRB2.out (by simp only [maxLen]; omega))
    go_wp2_with fail
    with_reducible refine KR.out.mono ?_
    rintro e w3 ⟨own3, hP, hT, rfl⟩
    have HI3 := Lib.hid (HI2.out.rturn hP hT)
    have HV3 := Lib.hid (HV2.out.1.turn hT isR0 HV2.out.2)
    clear KR hP hT x1 x2 x4
    have HDO : Hid (doQ S 1 f t most l = (sendQ S f t l).1) := Lib.hid rfl
    generalize (sendQ S f t l).2 = er at *
    generalize (sendQ S f t l).1 = S' at *
    have he : (er == er) = true := by simp
    have HW3 : Hid (Wu w3 A1 l.length) := Lib.hid HV3.out.1.wu.2.2.2.1
    have HG3 : Hid (∀ g o, A1 = some ⟨g, o, none⟩ → 0 < l.length → own3 g = (0, 0)) := Lib.hid fun g o e h0 => (HV3.out.2 g (by cases hl : l.length with | zero => omega | succ m => rw [e]; rfl)).1
    have hcm : c1 ≤ 9223372036854775807 := by have := HM3.out; simp only [maxLen] at this; omega
    have hlc : l.length ≤ c1 := by obtain ⟨-, h, -⟩ := HV3.out.1.wu; exact h
    generalize l.length = m at *
    go_wp2_with fail
    go_loopg [11] m (fun k s11 wr => ∃ j : Nat, j + k = m ∧ s11 = .int .i64 (j : Int) ∧ Hid (Wu wr A1 m) ∧ Hid (Both w0 wr B own3 pb rb S' S'))
    case atStart => exact ⟨0, by omega, rfl, HW3, HI3⟩
    case round =>
      obtain ⟨j, hj, rfl, HW, HI⟩ := hrel
      by_cases hlt : j < m
      · have hj1 : (j : Int) < (m : Int) := by omega
        have hj2 : (0 : Int) ≤ (j : Int) := by omega
        obtain ⟨g, o, rfl, hge⟩ := (HGe.out (by omega) : ∃ g o, A1 = some ⟨g, o, none⟩ ∧ xb ≤ g ∧ _)
        obtain ⟨⟨u, hu⟩, hfz⟩ := HW.out g o rfl j hlt
        have HWs := Lib.hid (HW.out.set_ ⟨g, o + j, none⟩ 77)
        have HIs := Lib.hid (HI.out.store ⟨g, o + j, none⟩ (.int .u8 77) (HG3.out g o rfl (by omega)) (by have := HB0.out; have := HXB.out; have := hge.1; show B ≤ g; omega))
        have HJ : Hid (j + gk = m) := Lib.hid hj
        clear hj hge HW HI
        go_wp2_with fail
        go_roundg (gk - 1)
        case rel => exact ⟨j + 1, by have := HJ.out; omega, by go_num, HWs, HIs⟩
        case measure => have := HJ.out; omega
      · have hj1 : ¬ (j : Int) < (m : Int) := by omega
        clear hj
        go_wp2_with fail
        go_ret
        exact ⟨own3, by rw [HDO.out]; exact HI.out, rfl⟩
  have hk1' : (k == 1) = false := beq_eq_false_iff_ne.2 hk1
  by_cases hk2 : k = 2
  · subst hk2
    have KO := Lib.hid (take_walk w1 own1 pb S HI1.out.p f t HF.out HT.out)
    go_wp2_with fail
    with_reducible refine KO.out.mono ?_
    rintro e w2 ⟨own2, hP, hT, A2, c2, rfl, hV, hk⟩
    have HI2 := Lib.hid (HI1.out.pturn hP hT)
    have HNb2 := Lib.hid (HNb.out.turn hT isP0)
    have HV2 := Lib.hid (And.intro hV fun k h => (⟨(hk k h).1, (hk k h).2.2⟩ : own2 k = (0, 0) ∧ k < w2.heap.size))
    have HGB : Hid (∀ k, msgBlk (.slice A2 (takeQ S f t).2.1.length c2) = some k → B ≤ k) := Lib.hid fun k h => by
      rcases Nat.lt_or_ge k B with h1 | h1
      · exact absurd (HI1.out.z k h1) (hk k h).2.1
      · exact h1
    clear KO hP hT hV hk x0 x1 x2 x3 x4
    have x1 := HNb2.out.blk.cell 1
    have x2 := HNb2.out.blk.cell 2
    have KR := Lib.hid (rtake_walk w2 own2 rb S HI2.out.r (by omega) f t)
    go_wp2_with fail
    with_reducible refine KR.out.mono ?_
    rintro e w3 ⟨own3, hP, hT, A3, c3, rfl, hc1, hc2, hO⟩
    have HI3 := Lib.hid (HI2.out.rturn hP hT)
    have HV3 := Lib.hid (HV2.out.1.turn hT isR0 HV2.out.2)
    have HO3 := Lib.hid hO.rb
    clear KR hP hT hc1 hc2 hO x1 x2
    have HDO : Hid (doQ S 2 f t most l = (takeQ S f t).1) := Lib.hid rfl
    obtain ⟨-, hlc, wu3, wu4, wu5, wu6⟩ := HV3.out.1.wu
    have HRA := Lib.hid wu6
    have HW3 := Lib.hid wu4
    have HGe := Lib.hid wu5
    have hcm : c2 ≤ 9223372036854775807 := by simp only [maxLen] at wu3; omega
    clear wu3 wu4 wu5 wu6
    generalize (takeQ S f t).2.2 = er at *
    generalize (takeQ S f t).1 = S' at *
    generalize (takeQ S f t).2.1 = lb at *
    have he : (er == er) = true := by simp
    have cv1 := run_convRB (P := Tryd.prog) 30 9 5 Tryd.underlying30 Tryd.underlying5 Tryd.underlying9 HRA.out lb.length c2 rfl
    have cv2 := run_convRB (P := Tryd.prog) 30 9 5 Tryd.underlying30 Tryd.underlying5 Tryd.underlying9 HO3.out lb.length c3 rfl
    have HG3 : Hid (∀ g o, A2 = some ⟨g, o, none⟩ → 0 < lb.length → own3 g = (0, 0) ∧ B ≤ g) := Lib.hid fun g o e h0 => by
      have hm : msgBlk (.slice A2 lb.length c2) = some g := by cases hl : lb.length with | zero => omega | succ m => rw [e]; rfl
      exact ⟨(HV3.out.2 g hm).1, HGB.out g hm⟩
    obtain ⟨str, hstr⟩ : ∃ str : ByteArray, str = ⟨lb.toArray⟩ := ⟨_, rfl⟩
    rw [← hstr] at cv1 cv2
    obtain ⟨q1, q2⟩ := str_same (rfl : str = str)
    clear hstr
    generalize lb.length = m at *
    go_wp2_with fail
    go_loopg [17] m (fun k s17 wr => ∃ j : Nat, j + k = m ∧ s17 = .int .i64 (j : Int) ∧ Hid (Wu wr A2 m) ∧ Hid (Both w0 wr B own3 pb rb S' S'))
    case atStart => exact ⟨0, by omega, rfl, HW3, HI3⟩
    case round =>
      obtain ⟨j, hj, rfl, HW, HI⟩ := hrel
      by_cases hlt : j < m
      · have hj1 : (j : Int) < (m : Int) := by omega
        have hj2 : (0 : Int) ≤ (j : Int) := by omega
        obtain ⟨g, o, rfl, -⟩ := (HGe.out (by omega) : ∃ g o, A2 = some ⟨g, o, none⟩ ∧ _)
        obtain ⟨⟨u, hu⟩, hfz⟩ := HW.out g o rfl j hlt
        have HWs := Lib.hid (HW.out.set_ ⟨g, o + j, none⟩ 77)
        have HIs := Lib.hid (HI.out.store ⟨g, o + j, none⟩ (.int .u8 77) (HG3.out g o rfl (by omega)).1 (HG3.out g o rfl (by omega)).2)
        have HJ : Hid (j + gk = m) := Lib.hid hj
        clear hj HW HI cv1 cv2
        go_wp2_with fail
        go_roundg (gk - 1)
        case rel => exact ⟨j + 1, by have := HJ.out; omega, by go_num, HWs, HIs⟩
        case measure => have := HJ.out; omega
      · have hj1 : ¬ (j : Int) < (m : Int) := by omega
        clear hj cv1 cv2
        go_wp2_with fail
        go_ret
        exact ⟨own3, by rw [HDO.out]; exact HI.out, rfl⟩
  have hk2' : (k == 2) = false := beq_eq_false_iff_ne.2 hk2
  have HK : Hid (doQ S k f t most l = S) := Lib.hid (by unfold doQ; rw [if_neg hk0, if_neg hk1, if_neg hk2, if_neg hk3])
  clear hk0 hk1 hk2 hk3
  go_wp2_with fail
  go_ret
  exact ⟨own1, by rw [HK.out]; exact HI1.out, rfl⟩
end Go.Proofs.YtihhadgkcdkemaaDoor
