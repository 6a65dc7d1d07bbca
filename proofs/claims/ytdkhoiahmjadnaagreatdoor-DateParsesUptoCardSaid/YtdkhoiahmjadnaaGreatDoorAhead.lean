/-
  The walk of waybillref13's ahead. No condition but the numbers' bounds.
-/
import Derived.Test.YtdkhoiahmjadnaaGreatDoorRCiv
namespace Go.Proofs.YtdkhoiahmjadnaaGreatDoor
open Go.RowKit Go.Sort
set_option linter.unusedVariables false

set_option maxHeartbeats 4000000 in
theorem ahead_walk (y m d : Int) (w : World) (hy0 : 0 ≤ y) (hy1 : y ≤ 9999) (hm0 : 1 ≤ m) (hm1 : m ≤ 12) (hd0 : 0 ≤ d) (hd1 : d ≤ 100) :
    Calls Tryz.prog 30 #[.int .i64 y, .int .i64 m, .int .i64 d] w fun e w' => Below w.heap.size w w' ∧ e = .returned (.int .i64 (dn y m d - 719468)) := by
  have HD := Lib.hid (dn_d y m d)
  generalize dn y m d = V at *
  have HR := Lib.hid (fun y m (h : 0 ≤ y ∧ y ≤ 10000 ∧ 1 ≤ m ∧ m ≤ 12) => dn_rng (y := y) (m := m) (d := 1) h.1 h.2.1 h.2.2.1 h.2.2.2 (by omega) (by omega))
  have HY := Lib.hid (fun y w (h : 0 ≤ y ∧ y ≤ 10000) => yearDays_walk y w h.1 (by omega))
  have HM := Lib.hid (fun m w (h : 1 ≤ m ∧ m ≤ 12) => monthDays_walk y m w hy0 (by omega) h.1 h.2)
  go_enter Tryz.func30, Tryz.ntmps30
  go_wp2_with fail
  go_loopg [7, 8] (m - 1).toNat (fun k n i wr => ∃ (nn ii : Int), n = .int .i64 nn ∧ i = .int .i64 ii ∧ ii + k = m ∧ 1 ≤ ii ∧ Hid (nn = d - 1 + dn y ii 1 - dn y 1 1) ∧ Hid (Below w.heap.size w wr))
  case atStart => exact ⟨d - 1, 1, rfl, rfl, by omega, by omega, Lib.hid (by omega), Lib.hid (Below.refl _ _)⟩
  case round =>
    obtain ⟨nn, ii, rfl, rfl, hk, hi0, HN, HB⟩ := hrel
    have hnr : -4100000 ≤ nn ∧ nn ≤ 4100000 := by
      have h1 := HR.out y ii ⟨hy0, by omega, hi0, by omega⟩
      have h2 := HR.out y 1 ⟨hy0, by omega, by omega, by omega⟩
      have h3 := HN.out
      omega
    obtain ⟨hn0, hn1⟩ := hnr
    by_cases hlt : ii < m
    · obtain ⟨q1, q2⟩ := md_pos y ii
      have HMD := Lib.hid (md_dn y ii hi0 (by omega))
      have HC := Lib.hid (HM.out ii wr ⟨hi0, by omega⟩)
      generalize md y ii = Q at *
      have hbs := HB.out.size
      go_wp2_with (go_at_call 18; refine HC.out.mono ?_; rintro e w2 ⟨hbm, rfl⟩)
      go_roundg (gk - 1)
      case rel => exact ⟨nn + Q, ii + 1, rfl, rfl, by omega, by omega, Lib.hid (by have := HN.out; have := HMD.out; omega), Lib.hid (HB.out.trans (hbm.mono hbs))⟩
      case measure => omega
    · have hii : ii = m := by omega
      subst hii
      clear HM
      have hb := HB
      clear HB
      generalize hwx : wr = wx at *
      clear hwx
      go_wp2_with fail
      go_loopg [7, 9] (y - 1970).toNat (fun k n i wr => wx = wr ∧ ∃ (n2 i2 : Int), n = .int .i64 n2 ∧ i = .int .i64 i2 ∧ 1970 ≤ i2 ∧ i2 ≤ 9999 ∧ (i2 + k = y ∨ (y < 1970 ∧ i2 = 1970)) ∧ Hid (n2 = nn + dn i2 1 1 - 719468))
      case atStart => exact ⟨rfl, nn, 1970, rfl, rfl, by omega, by omega, by omega, Lib.hid (by rw [dn_1970]; omega)⟩
      case round =>
        obtain ⟨rfl, n2, i2, rfl, rfl, hi2, hi3, hk2, HN2⟩ := hrel
        have hnr2 : -9000000 ≤ n2 ∧ n2 ≤ 9000000 := by
          have h1 := HR.out i2 1 ⟨by omega, by omega, by omega, by omega⟩
          have h3 := HN2.out
          omega
        obtain ⟨hn2, hn3⟩ := hnr2
        by_cases hlt2 : i2 < y
        · obtain ⟨q1, q2⟩ := yd_pos i2
          have HYD := Lib.hid (yd_dn i2)
          have HC := Lib.hid (HY.out i2 wx ⟨by omega, by omega⟩)
          generalize yd i2 = Q at *
          go_wp2_with (go_at_call 17; refine HC.out.mono ?_; rintro e w2 ⟨rfl, rfl⟩)
          go_roundg (gk - 1)
          case rel => exact ⟨rfl, n2 + Q, i2 + 1, rfl, rfl, by omega, by omega, by omega, Lib.hid (by have := HN2.out; have := HYD.out; omega)⟩
          case measure => omega
        · have HE : Hid ((y < 1970 ∧ i2 = 1970) ∨ (1970 ≤ y ∧ i2 = y)) := Lib.hid (by omega)
          go_wp2_with fail
          go_loopg [7, 10] (1970 - y).toNat (fun k n i wr => wx = wr ∧ ∃ (n3 i3 : Int), n = .int .i64 n3 ∧ i = .int .i64 i3 ∧ y ≤ i3 ∧ 0 ≤ i3 ∧ i3 ≤ 9999 ∧ (i3 + k = 1970 ∨ (1970 ≤ y ∧ i3 = y)) ∧ Hid (n3 = n2 - (dn i3 1 1 - dn y 1 1)))
          case atStart => exact ⟨rfl, n2, y, rfl, rfl, by omega, hy0, hy1, by omega, Lib.hid (by omega)⟩
          case round =>
            obtain ⟨rfl, n3, i3, rfl, rfl, hy3, hi4, hi5, hk3, HN3⟩ := hrel
            have hnr3 : -18000000 ≤ n3 ∧ n3 ≤ 18000000 := by
              have h1 := HR.out i3 1 ⟨by omega, by omega, by omega, by omega⟩
              have h2 := HR.out y 1 ⟨by omega, by omega, by omega, by omega⟩
              have h3 := HN3.out
              omega
            obtain ⟨hn4, hn5⟩ := hnr3
            by_cases hlt3 : i3 < 1970
            · obtain ⟨q1, q2⟩ := yd_pos i3
              have HYD := Lib.hid (yd_dn i3)
              have HC := Lib.hid (HY.out i3 wx ⟨by omega, by omega⟩)
              generalize yd i3 = Q at *
              go_wp2_with (go_at_call 17; refine HC.out.mono ?_; rintro e w2 ⟨rfl, rfl⟩)
              go_roundg (gk - 1)
              case rel => exact ⟨rfl, n3 - Q, i3 + 1, rfl, rfl, by omega, by omega, by omega, by omega, Lib.hid (by have := HN3.out; have := HYD.out; omega)⟩
              case measure => omega
            · have HFIN : Hid (n3 = V - 719468) := Lib.hid (by
                have h1 := HN.out
                have h2 := HN2.out
                have h3 := HN3.out
                have h4 := HD.out
                rcases HE.out with ⟨a, b⟩ | ⟨a, b⟩
                · have : i3 = 1970 := by omega
                  subst this
                  subst b
                  rw [dn_1970] at *
                  omega
                · have : i3 = y := by omega
                  subst this
                  subst b
                  omega)
              go_wp2
              go_ret
              exact ⟨hb.out, by rw [← HFIN.out]; rfl⟩
end Go.Proofs.YtdkhoiahmjadnaaGreatDoor
