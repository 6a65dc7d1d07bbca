/-
  The walk of waybillref03's Encode. No condition but what the message is.
-/
import Derived.Test.YtfnhaddgdfkmcaaDoorHead
import Derived.Test.YtfnhaddgdfkmcaaDoorRRight
import Derived.Test.YtfnhaddgdfkmcaaDoorRd
import Derived.Test.YtfnhaddgdfkmcaaDoorPHex
import Derived.Test.YtfnhaddgdfkmcaaDoorEnc
import Derived.Deep.RegionHeld3
namespace Go.Proofs.YtfnhaddgdfkmcaaDoor
open Go.RowKit Go.Sort
set_option linter.unusedVariables false

theorem bdrew1 {B : Nat} {a w : World} (h : Below B a w) : Below B a w.drew := ⟨h.os, h.tape, h.output, h.size, h.block⟩
set_option maxRecDepth 100000 in
set_option maxHeartbeats 4000000 in
theorem rencode_walk (m : Msg) (A1 : Option Addr) (c1 : Nat) (A2 : Option Addr) (c2 : Nat) (w : World) (h : MsgAt w w.heap.size m A1 c1 A2 c2) :
    Calls Tryd.prog 9 #[.agg (mCells m A1 c1 A2 c2)] w fun e w' => Below w.heap.size w w' ∧ ∃ v, e = .returned (.tuple #[v, .int .i64 (rightE m)]) ∧ OwnB w' w.heap.size 5 v (encV m) := by
  have hblk := Blk.new w 25 (mCells m A1 c1 A2 c2)
  generalize hw0 : w.alloc (.cells (mCells m A1 c1 A2 c2) 25) = w0 at hblk
  have hb0 : Below w.heap.size w w0 := by rw [← hw0]; exact (Below.refl _ _).alloc (Nat.le_refl _) _
  have hs0 : w0.heap.size = w.heap.size + 1 := by rw [← hw0]; simp
  have h0 := (h.below hb0).mono hb0.size
  have HR := Lib.hid (rright_walk m A1 c1 A2 c2 w0 h0)
  have HB0 := Lib.hid hb0
  have HS0 := Lib.hid hs0
  have K : Hid (∀ w', Below w0.heap.size w0 w' → w'.cell? ⟨w.heap.size, 0, none⟩ = some (.int .i64 m.time) ∧ w'.cell? ⟨w.heap.size, 1, none⟩ = some (.string m.frm) ∧ w'.cell? ⟨w.heap.size, 2, none⟩ = some (.slice A1 m.rcpts.length c1) ∧ w'.cell? ⟨w.heap.size, 3, none⟩ = some (.slice A2 m.data.length c2)) :=
    Lib.hid fun w' hb => ⟨(hblk.keep hb).cell 0, (hblk.keep hb).cell 1, (hblk.keep hb).cell 2, (hblk.keep hb).cell 3⟩
  obtain ⟨k0, k1, k2, k3⟩ := K.out w0 (Below.refl _ _)
  by_cases hr : rightE m = 0
  · have MB := Lib.hid (right_ok hr)
    have HV : Hid (encV m = encB m) := Lib.hid (if_pos hr)
    rw [HV.out, hr]
    rw [hr] at HR
    clear hr
    have HH := Lib.hid (fun (p : Bool) w' (hb : Below w0.heap.size w0 w') => head_walk m A1 c1 A2 c2 m.rcpts.length p w' ((h0.below hb).mono hb.size) MB.out.n1 (Nat.le_refl _))
    have HP1 : Hid (hdB m ++ hdR true m.rcpts.length m.rcpts = hdB m ++ recB m.rcpts) := Lib.hid (by rw [hdR_plain _ _ (Nat.le_refl _)])
    have HP2 : Hid (hdB m ++ hdR false m.rcpts.length m.rcpts = hdB m ++ recM m.rcpts) := Lib.hid (by rw [hdR_mark _ _ (Nat.le_refl _)])
    have hl1 := h.l1
    have hm1 := h.m1
    have hl2 := h.l2
    have hm2 := h.m2
    have h200 := MB.out.n1
    have HHL := Lib.hid (hdB_len m)
    have HE : Hid (encB m = hdB m ++ recM m.rcpts ++ endB m ++ ([101] ++ hex8 (crc (layB m)) ++ [10])) := Lib.hid rfl
    have HLB : Hid (layB m = hdB m ++ recB m.rcpts ++ endB m) := Lib.hid rfl
    have HEN : Hid (endB m = [100] ++ textB m.data) := Lib.hid rfl
    have HRB := Lib.hid h.rb
    have HRBK : Hid (∀ w', Below w0.heap.size w0 w' → RB w' w.heap.size A2 m.data) := Lib.hid fun w' hb => HRB.out.below (hb0.trans (hb.mono hb0.size))
    unfold HeadAns at HH
    have hX1 : (hdB m ++ recB m.rcpts).length ≤ 300000000 := by
      have := recB_len (L := m.rcpts)
      rw [List.length_append]; have := HHL.out; omega
    have hX2 : (hdB m ++ recM m.rcpts).length ≤ 300000000 := by
      have h1 : (recM m.rcpts).length = (recB m.rcpts).length := by
        have : ∀ L : List Rc, (recM L).length = (recB L).length := fun L => by
          induction L with
          | nil => rfl
          | cons r L ih => rw [recM, recB]; simp only [List.length_append, List.length_cons, ih]
        exact this _
      have := recB_len (L := m.rcpts)
      rw [List.length_append, h1]; have := HHL.out; omega
    have htb := textB_len m.data
    have hcl := crc_lt (layB m)
    have hxl := hex8_len hcl
    have HHX := Lib.hid (fun w' => rhex_any (crc (layB m)) w' hcl)
    generalize encB m = F at *
    generalize hdB m ++ recM m.rcpts = XM at *
    generalize hdB m ++ recB m.rcpts = XP at *
    generalize endB m = en at *
    obtain ⟨t, fr, L, d⟩ := m
    unfold mCells at *
    dsimp only at *
    have HH1 := Lib.hid (fun w' hb => HH.out true w' hb)
    have HH2 := Lib.hid (fun w' hb => HH.out false w' hb)
    have HTX := Lib.hid (fun base v l w' h1 h2 h3 => rtx_walk base v l 100 ⟨d.toArray⟩ w' h1 h2 (by rw [size_len]; simp only [maxLen]; omega) h3)
    clear h h0 hs0 hb0 hblk MB HV HH
    go_enter Tryd.func9, Tryd.ntmps9
    go_wp2_with fail
    refine HR.out.mono ?_
    rintro e w1 ⟨hb1, rfl⟩
    have HB1 := Lib.hid hb1
    have hs1 := hb1.size
    have HCV : Hid (∀ w', Below w0.heap.size w0 w' → (convert 23 9 (.slice A2 d.length c2)).run Tryd.prog w' = .ok (.string ⟨d.toArray⟩) w') := Lib.hid fun w' hb => cvRB (HRBK.out w' hb) d.length c2 rfl
    have HSS : Hid (∀ w', Below w0.heap.size w0 w' → (fun w' => w'.cell? ⟨w.heap.size, 0, none⟩ = some (.int .i64 t) ∧ w'.cell? ⟨w.heap.size, 1, none⟩ = some (.string fr) ∧ w'.cell? ⟨w.heap.size, 2, none⟩ = some (.slice A1 L.length c1) ∧ w'.cell? ⟨w.heap.size, 3, none⟩ = some (.slice A2 d.length c2) ∧ (convert 23 9 (.slice A2 d.length c2)).run Tryd.prog w' = .ok (.string ⟨d.toArray⟩) w') w') := Lib.hid fun w' hb => ⟨(K.out w' hb).1, (K.out w' hb).2.1, (K.out w' hb).2.2.1, (K.out w' hb).2.2.2, HCV.out w' hb⟩
    obtain ⟨k0, k1, k2, k3⟩ := K.out w1 hb1
    clear hb1 HR
    go_upto_region 4 with fail
    go_cut [5] from 13 to 21 (fun x wr => Below w1.heap.size w1 wr ∧ OwnB wr w1.heap.size 5 x (XM ++ en))
    case first =>
      go_region_held3 (fun w' => w'.cell? ⟨w.heap.size, 0, none⟩ = some (.int .i64 t) ∧ w'.cell? ⟨w.heap.size, 1, none⟩ = some (.string fr) ∧ w'.cell? ⟨w.heap.size, 2, none⟩ = some (.slice A1 L.length c1) ∧ w'.cell? ⟨w.heap.size, 3, none⟩ = some (.slice A2 d.length c2) ∧ (convert 23 9 (.slice A2 d.length c2)).run Tryd.prog w' = .ok (.string ⟨d.toArray⟩) w')
        (first | exact HSS.out _ HB1.out | exact HSS.out _ (bdrew1 HB1.out) | exact HSS.out _ HB2.out | exact HSS.out _ HB3.out)
        (first
        | (go_at_call 21; refine (HH2.out _ (by first | exact HB1.out | exact bdrew1 HB1.out)).mono ?_; rintro e w2 ⟨hb2, v2, rfl, ho2⟩; have hb2' : Below w1.heap.size w1 w2 := ⟨hb2.os, hb2.tape, hb2.output, hb2.size, hb2.block⟩; have HB2 := Lib.hid (HB1.out.trans (hb2'.mono hs1)); have HO2 := Lib.hid ho2; clear ho2 hb2)
        | (go_at_call 20; refine (HTX.out w1.heap.size v2 _ w2 HO2.out hb2'.size (by rw [HP2.out]; omega)).mono ?_; rintro e w3 ⟨hb3, v3, rfl, ho3⟩; have HB3 := Lib.hid (HB2.out.trans (hb3.mono hs1))))
      all_goals
        go_wp2_with fail
        go_meet
        refine ⟨hb2'.trans hb3, ?_⟩
        rw [HP2.out] at ho3
        rw [HEN.out]
        exact ho3
    case rest =>
      obtain ⟨hbc, hoc⟩ := hcut
      generalize wc = w5 at *
      have HBc := Lib.hid (HB1.out.trans (hbc.mono hs1))
      have HOc := Lib.hid hoc
      have hsc := hbc.size
      obtain ⟨Ac, nc, cc, rfl⟩ := hoc.sl
      obtain ⟨k0, k1, k2, k3⟩ := K.out w5 HBc.out
      clear hoc
      go_upto_region 5 with fail
      go_cut [6] from 22 to 30 (fun x wr => Below w5.heap.size w5 wr ∧ OwnB wr w5.heap.size 5 x (XP ++ en))
      case first =>
        go_region_held3 (fun w' => w'.cell? ⟨w.heap.size, 0, none⟩ = some (.int .i64 t) ∧ w'.cell? ⟨w.heap.size, 1, none⟩ = some (.string fr) ∧ w'.cell? ⟨w.heap.size, 2, none⟩ = some (.slice A1 L.length c1) ∧ w'.cell? ⟨w.heap.size, 3, none⟩ = some (.slice A2 d.length c2) ∧ (convert 23 9 (.slice A2 d.length c2)).run Tryd.prog w' = .ok (.string ⟨d.toArray⟩) w')
          (first | exact HSS.out _ HBc.out | exact HSS.out _ (bdrew1 HBc.out) | exact HSS.out _ HB2.out | exact HSS.out _ HB3.out)
          (first
          | (go_at_call 21; refine (HH1.out _ (by first | exact HBc.out | exact bdrew1 HBc.out)).mono ?_; rintro e w2 ⟨hb2, v2, rfl, ho2⟩; have hb2' : Below w5.heap.size w5 w2 := ⟨hb2.os, hb2.tape, hb2.output, hb2.size, hb2.block⟩; have HB2 := Lib.hid (HBc.out.trans (hb2'.mono (Nat.le_trans hs1 hsc))); have HO2 := Lib.hid ho2; clear ho2 hb2)
          | (go_at_call 20; refine (HTX.out w5.heap.size v2 _ w2 HO2.out hb2'.size (by rw [HP1.out]; omega)).mono ?_; rintro e w3 ⟨hb3, v3, rfl, ho3⟩; have HB3 := Lib.hid (HB2.out.trans (hb3.mono (Nat.le_trans hs1 hsc)))))
        all_goals
          go_wp2_with fail
          go_meet
          refine ⟨hb2'.trans hb3, ?_⟩
          rw [HP1.out] at ho3
          rw [HEN.out]
          exact ho3
      case rest =>
        obtain ⟨hbd, hod⟩ := hcut
        rw [← HLB.out] at hod
        generalize layB ⟨t, fr, L, d⟩ = lb at *
        have hsd := hbd.size
        have HBd := Lib.hid (HBc.out.trans (hbd.mono (Nat.le_trans hs1 hsc)))
        have HOd := Lib.hid (HOc.out.below hbd)
        obtain ⟨A7, c7, rfl, hc7, hm7, hr7⟩ := hod.out
        have HSM := Lib.hid (rsum_any A7 lb c7 wc _ hr7 (by omega))
        have HXX := Lib.hid (HHX.out wc)
        have hXe : (XM ++ en).length ≤ 302000000 := by
          rw [HEN.out, List.length_append, List.length_append]; simp only [List.length_cons, List.length_nil]; omega
        have hw1d : w1.heap.size ≤ wc.heap.size := by omega
        clear hod hr7 HHX
        go_wp2_with (first
          | (go_at_call 23; refine HSM.out.mono ?_; rintro e w8 ⟨rfl, rfl⟩)
          | (go_at_call 22; refine HXX.out.mono ?_; rintro e w8 ⟨hb8, rfl⟩; have HO8 := Lib.hid (HOd.out.below hb8); have HB8 := Lib.hid (HBd.out.trans (hb8.mono (show w0.heap.size ≤ wc.heap.size by omega))); have hs8 := hb8.size; clear hb8)
          | (at_builtin; refine wpList_appB _ isU8 (.tmp 34) (.tmp 35) rfl rfl w1.heap.size rfl (HO8.out.alloc _) (k := [101]) _ _ rfl rfl (RB.one _ _ 101 _ rfl) (by simp at hXe ⊢; omega) (by simp; omega) ?_; intro v9 w9 ho9 hb9; have HO9 := Lib.hid ho9; clear ho9; have HB9 := Lib.hid hb9; have hs9 := hb9.size; simp only [World.size_alloc] at hs9; clear hb9)
          | (at_builtin; refine wpList_appS _ isU8 Tryd.underlying9 (.tmp 37) (.tmp 38) rfl rfl w1.heap.size rfl HO9.out ⟨(hex8 (crc lb)).toArray⟩ rfl (by rw [size_len]; simp at hXe ⊢; omega) (by omega) ?_; intro v10 w10 ho10 hb10; have HO10 := Lib.hid ho10; clear ho10; have HB10 := Lib.hid hb10; have hs10 := hb10.size; clear hb10)
          | (at_builtin; go_loud (refine wpList_appB _ isU8 (.tmp 40) (.tmp 41) rfl rfl w1.heap.size rfl (HO10.out.alloc _) (k := [10]) _ _ rfl rfl (RB.one _ _ 10 _ rfl) (by simp at hXe ⊢; omega) (by simp; omega) ?_; intro v11 w11 ho11 hb11)))
        go_ret2
        have b9 := HB8.out.trans ((((Below.refl w1.heap.size w8).alloc (by omega) (.cells #[.int .u8 101] 5)).trans HB9.out).mono hs1)
        have b10 := b9.trans (HB10.out.mono hs1)
        have b11 := b10.trans ((((Below.refl w1.heap.size w10).alloc (by omega) (.cells #[.int .u8 10] 5)).trans hb11).mono hs1)
        refine ⟨HB0.out.trans (b11.mono HB0.out.size), _, rfl, ?_⟩
        have h5 : XM ++ en ++ [101] ++ hex8 (crc lb) ++ [10] = F := by rw [HE.out]; simp
        rw [h5] at ho11
        exact ho11.mono (by have := HS0.out; omega)
  · have HV : Hid (encV m = []) := Lib.hid (if_neg hr)
    rw [HV.out]
    have hr1 : (rightE m == 0) = false := beq_eq_false_iff_ne.2 hr
    have hr2 : (rightE m != 0) = true := bne_iff_ne.2 hr
    generalize rightE m = E at *
    unfold mCells at *
    clear hblk hr h h0 hs0 hb0
    go_enter Tryd.func9, Tryd.ntmps9
    go_wp2_with fail
    refine HR.out.mono ?_
    rintro e w1 ⟨hb1, rfl⟩
    go_wp2
    go_ret2
    exact ⟨HB0.out.trans (hb1.mono HB0.out.size), _, rfl, OwnB.nil _ _ _⟩
end Go.Proofs.YtfnhaddgdfkmcaaDoor
