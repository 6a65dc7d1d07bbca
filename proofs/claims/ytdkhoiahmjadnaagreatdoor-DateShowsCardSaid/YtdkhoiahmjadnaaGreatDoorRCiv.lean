/-
  The walk of waybillref13's Civil. No condition but the number's bounds.
-/
import Derived.Test.YtdkhoiahmjadnaaGreatDoorCiv
namespace Go.Proofs.YtdkhoiahmjadnaaGreatDoor
open Go.RowKit Go.Sort
set_option linter.unusedVariables false

theorem dn_10000 : dn 10000 1 1 = 3652365 := by decide +kernel
theorem dn_1970 : dn 1970 1 1 = 719468 := by decide +kernel
set_option maxHeartbeats 4000000 in
theorem rciv_walk (t : Int) (w : World) (h0 : -9223372036854775808 ≤ t) (h1 : t ≤ 9223372036854775807) :
    Calls Tryz.prog 10 #[.int .i64 t] w fun e w' => Below w.heap.size w w' ∧ e = .returned (.tuple #[.agg (civA t), .int .i64 (dayE t)]) := by
  by_cases hb : t < 0 ∨ 253402300799 < t
  · have e1 : Hid (civA t = _) := Lib.hid (if_pos hb)
    have e2 : Hid (dayE t = 130) := Lib.hid (if_pos hb)
    rw [e1.out, e2.out]
    rcases hb with hb | hb
    · go_enter Tryz.func10, Tryz.ntmps10
      go_wp2
      exact bodyPost_ret (res_arr rfl (Blk.new w _ _) rfl rfl) rfl ⟨(Below.refl _ _).alloc (Nat.le_refl _) _, rfl⟩
    · have hb2 : 0 ≤ t := by omega
      go_enter Tryz.func10, Tryz.ntmps10
      go_wp2
      exact bodyPost_ret (res_arr rfl (Blk.new w _ _) rfl rfl) rfl ⟨(Below.refl _ _).alloc (Nat.le_refl _) _, rfl⟩
  · have e1 : Hid (civA t = _) := Lib.hid (if_neg hb)
    have e2 : Hid (dayE t = 0) := Lib.hid (if_neg hb)
    have hb2 : 0 ≤ t := by omega
    have hb3 : t ≤ 253402300799 := by omega
    rw [e2.out]
    generalize civA t = VA at *
    clear hb
    have n0 : 0 ≤ t / 86400 := by omega
    have n1 : t / 86400 ≤ 2932896 := by omega
    have r0 : 0 ≤ t % 86400 := by omega
    have r1 : t % 86400 < 86400 := by omega
    have bk := Blk.new w 23 #[.int .i64 0, .int .i64 0, .int .i64 0, .int .i64 0, .int .i64 0, .int .i64 0]
    have hbw : Below w.heap.size w (w.alloc (.cells #[.int .i64 0, .int .i64 0, .int .i64 0, .int .i64 0, .int .i64 0, .int .i64 0] 23)) := (Below.refl _ _).alloc (Nat.le_refl _) _
    have BK := Lib.hid bk
    have HB := Lib.hid hbw
    have HCV := Lib.hid (civ_ok (n := t / 86400) n0)
    clear bk hbw
    go_enter Tryz.func10, Tryz.ntmps10
    go_upto_region 5 with fail
    generalize hN : t / 86400 = N at *
    generalize hR : t % 86400 = R at *
    clear hN hR
    generalize hw0 : w.alloc (.cells #[.int .i64 0, .int .i64 0, .int .i64 0, .int .i64 0, .int .i64 0, .int .i64 0] 23) = w0 at *
    clear hw0
    go_wp2_with fail
    go_loopg [4, 6] 8030 (fun k days y wr => w0 = wr ∧ ∃ (dd yy : Int), days = .int .i64 dd ∧ y = .int .i64 yy ∧ yy + k = 10000 ∧ 1970 ≤ yy ∧ 0 ≤ dd ∧ dd ≤ 3000000 ∧ Hid (dn yy 1 1 + dd = N + 719468))
    case atStart => exact ⟨rfl, N, 1970, rfl, rfl, by omega, by omega, n0, by omega, Lib.hid (by rw [dn_1970]; omega)⟩
    case round =>
      obtain ⟨rfl, dd, yy, rfl, rfl, hk, hy0, hd0, hd1, HD⟩ := hrel
      have hy9 : yy ≤ 9999 := by
        rcases Int.lt_or_le yy 10000 with h | h
        · omega
        · have : yy = 10000 := by omega
          subst this
          have := HD.out
          rw [dn_10000] at this
          omega
      have HY := Lib.hid (yearDays_walk yy w0 (by omega) (by omega))
      have HYD := Lib.hid (yd_dn yy)
      have hyp := yd_pos yy
      obtain ⟨hyp1, hyp2⟩ := hyp
      generalize yd yy = Q at *
      by_cases hq : Q ≤ dd
      · go_wp2_with (go_at_call 17; refine HY.out.mono ?_; rintro e w2 ⟨rfl, rfl⟩)
        go_roundg (gk - 1)
        case rel => exact ⟨rfl, dd - Q, yy + 1, rfl, rfl, by omega, by omega, by omega, by omega, Lib.hid (by have := HD.out; have := HYD.out; omega)⟩
        case measure => omega
      · go_wp2_with (go_at_call 17; refine HY.out.mono ?_; rintro e w2 ⟨rfl, rfl⟩)
        have H1 : Hid (dn yy 1 1 + dd < dn (yy + 1) 1 1) := Lib.hid (by have := HYD.out; omega)
        have hd3 : dd ≤ 400 := by omega
        clear HY HYD hyp1 hyp2 hq hk
        go_loopg [4, 7] 11 (fun k days m wr => ∃ (da mm : Int), days = .int .i64 da ∧ m = .int .i64 mm ∧ mm + k = 12 ∧ 1 ≤ mm ∧ 0 ≤ da ∧ da ≤ 400 ∧ Hid (dn yy mm 1 + da = N + 719468) ∧ Hid (dn yy mm 1 + da < dn (yy + 1) 1 1) ∧ Hid (Below w.heap.size w wr) ∧ Hid (Blk wr w.heap.size 23 #[.int .i64 0, .int .i64 0, .int .i64 0, .int .i64 0, .int .i64 0, .int .i64 0]))
        case atStart => exact ⟨dd, 1, rfl, rfl, by omega, by omega, by omega, by omega, HD, H1, HB, BK⟩
        case round =>
          obtain ⟨da, mm, rfl, rfl, hk, hm0, ha0, ha1, HD2, H2, HB2, BK2⟩ := hrel
          have HM := Lib.hid (fun w' => monthDays_walk yy mm w' (by omega) (by omega) hm0 (by omega))
          have HMD := Lib.hid (fun h => md_dn yy mm hm0 h)
          have HM12 := Lib.hid (md12_dn yy)
          obtain ⟨hmp1, hmp2⟩ := md_pos yy mm
          have HOK := Lib.hid (fun (h : da < md yy mm) => (⟨hm0, by omega, by omega, by omega⟩ : Ok yy mm (da + 1)))
          have HB3 := HB2.out.size
          have hm12 : Hid (md yy mm ≤ da → mm ≤ 11) := Lib.hid fun h => by
            rcases Int.lt_or_le mm 12 with h2 | h2
            · omega
            · have : mm = 12 := by omega
              subst this
              have := HM12.out
              have := H2.out
              omega
          clear HB BK HD H1 HM12
          by_cases hq : md yy mm ≤ da
          · have hm11 := hm12.out hq
            have HMD2 := Lib.hid (HMD.out hm11)
            clear HMD HOK hm12
            generalize md yy mm = Q at *
            go_wp2_with (go_at_call 18; refine (HM.out _).mono ?_; rintro e w2 ⟨hbm, rfl⟩; have HBM := Lib.hid (HB2.out.trans (hbm.mono HB3)); have BKM := Lib.hid (BK2.out.keep hbm); clear hbm HB2 BK2; have HB2 := HBM; have BK2 := BKM; have HB3 := HBM.out.size; clear HBM BKM)
            go_roundg (gk - 1)
            case rel => exact ⟨da - Q, mm + 1, rfl, rfl, by omega, by omega, by omega, by omega, Lib.hid (by have := HD2.out; have := HMD2.out; omega), Lib.hid (by have := H2.out; have := HMD2.out; omega), HB2, BK2⟩
            case measure => omega
          · have HOK2 := Lib.hid (HOK.out (by omega))
            have hU : Hid (yy = civY N ∧ mm = civM N ∧ da + 1 = civD N) := Lib.hid (HOK2.out.uniq HCV.out.1 (by rw [HCV.out.2, ← HD2.out, dn_d]; omega))
            clear HMD HOK hm12 HOK2 HCV HD2 H2
            generalize md yy mm = Q at *
            generalize civY N = VY at *
            generalize civM N = VM at *
            generalize civD N = VD at *
            have hqq : da < Q := by omega
            have hr2 : R ≤ 86400 := by omega
            go_wp2_with (go_at_call 18; refine (HM.out _).mono ?_; rintro e w2 ⟨hbm, rfl⟩; have HBM := Lib.hid (HB2.out.trans (hbm.mono HB3)); have BKM := Lib.hid (BK2.out.keep hbm); have f0 := BKM.out.frozen 0; have f1 := BKM.out.frozen 1; have f2 := BKM.out.frozen 2; have f3 := BKM.out.frozen 3; have f4 := BKM.out.frozen 4; have f5 := BKM.out.frozen 5; have c0 := BKM.out.cell 0; have c1 := BKM.out.cell 1; have c2 := BKM.out.cell 2; have c3 := BKM.out.cell 3; have c4 := BKM.out.cell 4; have c5 := BKM.out.cell 5)
            have B0 := (((((BKM.out.set_ 0 (.int .i64 yy)).set_ 1 (.int .i64 mm)).set_ 2 (.int .i64 (da + 1))).set_ 3 (.int .i64 (R / 3600))).set_ 4 (.int .i64 (R / 60 % 60))).set_ 5 (.int .i64 (R % 60))
            refine bodyPost_ret (res_arr rfl B0 rfl rfl) rfl ⟨(((((HBM.out.setCell (Nat.le_refl _) _).setCell (Nat.le_refl _) _).setCell (Nat.le_refl _) _).setCell (Nat.le_refl _) _).setCell (Nat.le_refl _) _).setCell (Nat.le_refl _) _, ?_⟩
            obtain ⟨u1, u2, u3⟩ := hU.out
            rw [e1.out, ← u1, ← u2, ← u3]
            rfl
end Go.Proofs.YtdkhoiahmjadnaaGreatDoor
