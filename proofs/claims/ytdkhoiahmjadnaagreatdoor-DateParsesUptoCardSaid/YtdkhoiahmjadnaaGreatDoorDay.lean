/-
  The walks of date's floor, before, long and Day. No condition but the numbers' bounds.
-/
import Derived.Test.YtdkhoiahmjadnaaGreatDoorProg
import Derived.Test.YtdkhoiahmjadnaaGreatDoorLib
import Derived.Test.YtdkhoiahmjadnaaGreatDoorCal
namespace Go.Proofs.YtdkhoiahmjadnaaGreatDoor
open Go.RowKit Go.Sort
set_option linter.unusedVariables false

theorem tdiv_floor (a : Int) (b : Int) (hb : 0 < b) : a / b = if a.tmod b < 0 then a.tdiv b - 1 else a.tdiv b := by
  have h1 := Int.mul_tdiv_add_tmod a b
  have h2 := Int.mul_ediv_add_emod a b
  have h3 := Int.emod_nonneg a (show b ≠ 0 by omega)
  have h4 := Int.emod_lt_of_pos a hb
  split
  · rename_i h
    have h5 : -b < a.tmod b := by
      have := Int.lt_tmod_of_pos a hb
      omega
    have : b * (a / b) = b * (a.tdiv b - 1) := by
      rw [Int.mul_sub]
      have e1 : b * (a / b) - b * a.tdiv b = a.tmod b - a % b := by omega
      have e2 : b * (a / b - a.tdiv b) = a.tmod b - a % b := by rw [Int.mul_sub]; exact e1
      generalize a / b - a.tdiv b = q at *
      have : q = -1 := by
        rcases Int.lt_trichotomy q (-1) with hq | hq | hq
        · have := Int.mul_le_mul_of_nonneg_left (show q ≤ -2 by omega) (Int.le_of_lt hb); omega
        · exact hq
        · have := Int.mul_le_mul_of_nonneg_left (show 0 ≤ q by omega) (Int.le_of_lt hb); omega
      subst this
      omega
    exact Int.eq_of_mul_eq_mul_left (by omega) this
  · rename_i h
    have h5 := Int.tmod_lt_of_pos a hb
    have e2 : b * (a / b - a.tdiv b) = a.tmod b - a % b := by rw [Int.mul_sub]; omega
    generalize hq : a / b - a.tdiv b = q at *
    have : q = 0 := by
      rcases Int.lt_trichotomy q 0 with hq | hq | hq
      · have := Int.mul_le_mul_of_nonneg_left (show q ≤ -1 by omega) (Int.le_of_lt hb); omega
      · exact hq
      · have := Int.mul_le_mul_of_nonneg_left (show 1 ≤ q by omega) (Int.le_of_lt hb); omega
    omega
theorem floor_walk (a b : Int) (hb : 0 < b) (hb2 : b ≤ 1000) (h0 : -4000000000000000000 ≤ a) (h1 : a ≤ 4000000000000000000) (w : World) :
    Calls Tryz.prog 51 #[.int .i64 a, .int .i64 b] w fun e w' => w = w' ∧ e = .returned (.int .i64 (a / b)) := by
  have hq : -4000000000000000000 ≤ a.tdiv b ∧ a.tdiv b ≤ 4000000000000000000 := by
    have := Int.natAbs_tdiv_le_natAbs a b
    omega
  have HF := Lib.hid (tdiv_floor a b hb)
  obtain ⟨hq0, hq1⟩ := hq
  go_enter Tryz.func51, Tryz.ntmps51
  by_cases hr : a.tmod b < 0
  · have he : Hid (a / b = a.tdiv b - 1) := Lib.hid (by rw [HF.out, if_pos hr])
    go_wp2
    go_ret
    exact ⟨rfl, by rw [he.out]; rfl⟩
  · have he : Hid (a / b = a.tdiv b) := Lib.hid (by rw [HF.out, if_neg hr])
    go_wp2
    go_ret
    exact ⟨rfl, by rw [he.out]; rfl⟩
theorem before_walk (y m d : Int) (w : World) (hy0 : 0 ≤ y) (hy1 : y ≤ 10000) (hm0 : 1 ≤ m) (hm1 : m ≤ 12) (hd0 : 0 ≤ d) (hd1 : d ≤ 100) :
    Calls Tryz.prog 39 #[.int .i64 y, .int .i64 m, .int .i64 d] w fun e w' => w = w' ∧ e = .returned (.int .i64 (dn y m d)) := by
  have HF := Lib.hid (fun a b hb hb2 h0 h1 => floor_walk a b hb hb2 h0 h1 w)
  by_cases hm : m < 3
  · have HD : Hid (dn y m d = 365 * (y - 1) + ((y - 1) / 4 - (y - 1) / 100 + (y - 1) / 400) + (153 * (m - 3 + 12) + 2) / 5 + d - 1) := Lib.hid (by unfold dn yS mS; rw [if_pos hm, if_pos hm, show m + 9 = m - 3 + 12 by omega])
    go_enter Tryz.func39, Tryz.ntmps39
    go_wp2_with (go_at_call 51; refine (HF.out _ _ (by omega) (by omega) (by omega) (by omega)).mono ?_; rintro e w2 ⟨rfl, rfl⟩)
    go_ret
    exact ⟨rfl, by rw [HD.out]; rfl⟩
  · have HD : Hid (dn y m d = 365 * y + (y / 4 - y / 100 + y / 400) + (153 * (m - 3) + 2) / 5 + d - 1) := Lib.hid (by unfold dn yS mS; rw [if_neg hm, if_neg hm])
    go_enter Tryz.func39, Tryz.ntmps39
    go_wp2_with (go_at_call 51; refine (HF.out _ _ (by omega) (by omega) (by omega) (by omega)).mono ?_; rintro e w2 ⟨rfl, rfl⟩)
    go_ret
    exact ⟨rfl, by rw [HD.out]; rfl⟩
theorem dn_rng {y m d : Int} (hy0 : 0 ≤ y) (hy1 : y ≤ 10000) (hm0 : 1 ≤ m) (hm1 : m ≤ 12) (hd0 : 0 ≤ d) (hd1 : d ≤ 100) : -1000 ≤ dn y m d ∧ dn y m d ≤ 4000000 := by
  unfold dn yS mS
  split <;> omega
theorem long_walk (y m : Int) (w : World) (hy0 : 0 ≤ y) (hy1 : y ≤ 10000) (hm0 : 1 ≤ m) (hm1 : m ≤ 12) :
    Calls Tryz.prog 38 #[.int .i64 y, .int .i64 m] w fun e w' => w = w' ∧ e = .returned (.int .i64 (md y m)) := by
  by_cases hm : m = 12
  · subst hm
    have HD : Hid (md y 12 = 31) := Lib.hid (by unfold md mlen; simp)
    rw [HD.out]
    go_enter Tryz.func38, Tryz.ntmps38
    go_wp2
    go_ret
    exact ⟨rfl, rfl⟩
  · have HD := Lib.hid (md_dn y m hm0 (by omega))
    have h1 := before_walk y (m + 1) 1 w hy0 hy1 (by omega) (by omega) (by omega) (by omega)
    have h2 := before_walk y m 1 w hy0 hy1 (by omega) (by omega) (by omega) (by omega)
    have r1 := dn_rng (y := y) (m := m + 1) (d := 1) hy0 hy1 (by omega) (by omega) (by omega) (by omega)
    have r2 := dn_rng (y := y) (m := m) (d := 1) hy0 hy1 (by omega) (by omega) (by omega) (by omega)
    rw [← HD.out]
    have H1 := Lib.hid h1
    have H2 := Lib.hid h2
    have hm2 : (m == 12) = false := beq_eq_false_iff_ne.2 hm
    clear h1 h2 hm HD
    generalize dn y (m + 1) 1 = a at *
    generalize dn y m 1 = b at *
    obtain ⟨r3, r4⟩ := r1
    obtain ⟨r5, r6⟩ := r2
    go_enter Tryz.func38, Tryz.ntmps38
    go_wp2_with fail
    refine H1.out.mono ?_
    rintro e w2 ⟨rfl, rfl⟩
    go_wp2_with fail
    refine H2.out.mono ?_
    rintro e w2 ⟨rfl, rfl⟩
    go_wp2
    go_ret
    exact ⟨rfl, rfl⟩
def dayE (t : Int) : Int := if t < 0 ∨ 253402300799 < t then 130 else 0
def dayV (t : Int) : Int := if t < 0 ∨ 253402300799 < t then 0 else (t / 86400 + 4) % 7
theorem day_walk (t : Int) (w : World) (h0 : -9223372036854775808 ≤ t) (h1 : t ≤ 9223372036854775807) :
    Calls Tryz.prog 11 #[.int .i64 t] w fun e w' => w = w' ∧ e = .returned (.tuple #[.int .i64 (dayV t), .int .i64 (dayE t)]) := by
  by_cases hb : t < 0 ∨ 253402300799 < t
  · have e1 : Hid (dayV t = 0) := Lib.hid (if_pos hb)
    have e2 : Hid (dayE t = 130) := Lib.hid (if_pos hb)
    rw [e1.out, e2.out]
    rcases hb with hb | hb
    · go_enter Tryz.func11, Tryz.ntmps11
      go_wp2
      go_ret2
      exact ⟨rfl, rfl⟩
    · have hb2 : 0 ≤ t := by omega
      go_enter Tryz.func11, Tryz.ntmps11
      go_wp2
      go_ret2
      exact ⟨rfl, rfl⟩
  · have e1 : Hid (dayV t = (t / 86400 + 4) % 7) := Lib.hid (if_neg hb)
    have e2 : Hid (dayE t = 0) := Lib.hid (if_neg hb)
    rw [e1.out, e2.out]
    have hb2 : 0 ≤ t := by omega
    have hb3 : t ≤ 253402300799 := by omega
    go_enter Tryz.func11, Tryz.ntmps11
    go_wp2
    go_ret2
    exact ⟨rfl, rfl⟩
theorem rday_walk (t : Int) (w : World) (h0 : -9223372036854775808 ≤ t) (h1 : t ≤ 9223372036854775807) :
    Calls Tryz.prog 12 #[.int .i64 t] w fun e w' => w = w' ∧ e = .returned (.tuple #[.int .i64 (dayV t), .int .i64 (dayE t)]) := by
  by_cases hb : t < 0 ∨ 253402300799 < t
  · have e1 : Hid (dayV t = 0) := Lib.hid (if_pos hb)
    have e2 : Hid (dayE t = 130) := Lib.hid (if_pos hb)
    rw [e1.out, e2.out]
    rcases hb with hb | hb
    · go_enter Tryz.func12, Tryz.ntmps12
      go_wp2
      go_ret2
      exact ⟨rfl, rfl⟩
    · have hb2 : 0 ≤ t := by omega
      go_enter Tryz.func12, Tryz.ntmps12
      go_wp2
      go_ret2
      exact ⟨rfl, rfl⟩
  · have e1 : Hid (dayV t = (t / 86400 + 4) % 7) := Lib.hid (if_neg hb)
    have e2 : Hid (dayE t = 0) := Lib.hid (if_neg hb)
    rw [e1.out, e2.out]
    have hb2 : 0 ≤ t := by omega
    have hb3 : t ≤ 253402300799 := by omega
    go_enter Tryz.func12, Tryz.ntmps12
    go_wp2
    go_ret2
    exact ⟨rfl, rfl⟩
end Go.Proofs.YtdkhoiahmjadnaaGreatDoor
