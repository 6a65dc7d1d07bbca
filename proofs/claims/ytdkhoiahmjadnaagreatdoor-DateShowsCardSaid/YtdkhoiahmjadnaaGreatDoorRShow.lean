/-
  The walk of waybillref13's Show. Conditions: the number's bounds.
-/
import Derived.Test.YtdkhoiahmjadnaaGreatDoorShow
import Derived.Test.YtdkhoiahmjadnaaGreatDoorBelowQ
namespace Go.Proofs.YtdkhoiahmjadnaaGreatDoor
open Go.RowKit Go.Sort
set_option linter.unusedVariables false

/-- two digits of a number -/
def twoB (v : Int) : ByteArray := ⟨(dig2 v.toNat).toArray⟩
theorem twoB_sz (v : Int) : (twoB v).size = 2 := rfl
theorem twoI_walk (v : Int) (h : 0 ≤ v ∧ v < 100) (w : World) : Calls Tryz.prog 24 #[.int .i64 v] w fun e w' => Below w.heap.size w w' ∧ e = .returned (.string (twoB v)) := by
  obtain ⟨n, rfl⟩ := Int.eq_ofNat_of_zero_le h.1
  exact two_walk n (by omega) w
theorem day_cut {d : Nat} (h1 : 1 ≤ d) (h : d < 10) : (twoB (d : Int)).extract 1 2 = ⟨(Lib.decDigits d).toArray⟩ := by
  rw [Lib.decDigits_one h]
  apply str_eq
  show ((⟨#[dg (d / 10), dg (d % 10)]⟩ : ByteArray).extract 1 2).data.toList = _
  rw [ByteArray.data_extract, Nat.mod_eq_of_lt h]
  rfl
theorem day_two {d : Nat} (h : ¬ d < 10) (h2 : d < 100) : twoB (d : Int) = ⟨(Lib.decDigits d).toArray⟩ := by
  rw [Lib.decDigits_two (by omega) h2]; rfl
theorem day_cutN {di : Nat} (h : di ≤ 6) : (⟨#[83, 117, 110, 77, 111, 110, 84, 117, 101, 87, 101, 100, 84, 104, 117, 70, 114, 105, 83, 97, 116]⟩ : ByteArray).extract (3 * di) (3 * di + 3) = ⟨(capD.getD di []).toArray⟩ := by
  have : di = 0 ∨ di = 1 ∨ di = 2 ∨ di = 3 ∨ di = 4 ∨ di = 5 ∨ di = 6 := by omega
  rcases this with rfl | rfl | rfl | rfl | rfl | rfl | rfl <;> decide +kernel
theorem mon_cutN {mo : Nat} (h0 : 1 ≤ mo) (h1 : mo ≤ 12) : (⟨#[74, 97, 110, 70, 101, 98, 77, 97, 114, 65, 112, 114, 77, 97, 121, 74, 117, 110, 74, 117, 108, 65, 117, 103, 83, 101, 112, 79, 99, 116, 78, 111, 118, 68, 101, 99]⟩ : ByteArray).extract (3 * mo - 3) (3 * mo) = ⟨(capM.getD (mo - 1) []).toArray⟩ := by
  have : mo = 1 ∨ mo = 2 ∨ mo = 3 ∨ mo = 4 ∨ mo = 5 ∨ mo = 6 ∨ mo = 7 ∨ mo = 8 ∨ mo = 9 ∨ mo = 10 ∨ mo = 11 ∨ mo = 12 := by omega
  rcases this with rfl | rfl | rfl | rfl | rfl | rfl | rfl | rfl | rfl | rfl | rfl | rfl <;> decide +kernel
set_option maxRecDepth 100000 in
set_option maxHeartbeats 4000000 in
theorem rshow_walk (t : Int) (w : World) (h0 : -9223372036854775808 ≤ t) (h1 : t ≤ 9223372036854775807) :
    Calls Tryz.prog 14 #[.int .i64 t] w fun e w' => Below w.heap.size w w' ∧ e = .returned (.tuple #[.string ⟨(showL t).toArray⟩, .int .i64 (dayE t)]) := by
  have HC := Lib.hid (rciv_walk t w h0 h1)
  have HDY := Lib.hid (fun w => rday_walk t w h0 h1)
  by_cases hb : 0 ≤ t ∧ t ≤ 253402300799
  · obtain ⟨hb0, hb1⟩ := hb
    obtain ⟨di, d, mo, y, h, mi, s, P⟩ := parts_of hb0 hb1
    have HSH := Lib.hid (P.show_ hb0 hb1)
    have HP := Lib.hid P
    rw [P.civ, dayE_ok hb0 hb1] at HC
    rw [P.edi, dayE_ok hb0 hb1] at HDY
    rw [dayE_ok hb0 hb1, HSH.out]
    have bh : (0 : Int) ≤ (h : Int) ∧ (h : Int) < 100 := by have := P.hh; omega
    have bmi : (0 : Int) ≤ (mi : Int) ∧ (mi : Int) < 100 := by have := P.hmi; omega
    have bs : (0 : Int) ≤ (s : Int) ∧ (s : Int) < 100 := by have := P.hs; omega
    have by_ : (0 : Int) ≤ (y : Int) ∧ (y : Int) ≤ 9999 := by have := P.hy1; omega
    have bd : (0 : Int) ≤ (d : Int) ∧ (d : Int) < 100 := by have := P.hd1; omega
    have bdi : (0 : Int) ≤ (di : Int) ∧ (di : Int) ≤ 6 := by have := P.hdi; omega
    have bmo : (1 : Int) ≤ (mo : Int) ∧ (mo : Int) ≤ 12 := by have := P.hm0; have := P.hm1; omega
    clear P HSH
    generalize hF : shB di d mo y h mi s = F at *
    have HF := Lib.hid hF
    clear hF
    go_enter Tryz.func14, Tryz.ntmps14
    go_wp2_with fail
    refine HC.out.mono ?_
    rintro e w1 ⟨hb1', rfl⟩
    have bk := Blk.new w1 23 #[.int .i64 (y : Int), .int .i64 (mo : Int), .int .i64 (d : Int), .int .i64 (h : Int), .int .i64 (mi : Int), .int .i64 (s : Int)]
    have hb2 := hb1'.alloc hb1'.size (.cells #[.int .i64 (y : Int), .int .i64 (mo : Int), .int .i64 (d : Int), .int .i64 (h : Int), .int .i64 (mi : Int), .int .i64 (s : Int)] 23)
    clear hb1' HC
    go_upto_region 4 with fail
    generalize hw2 : w1.alloc (.cells #[.int .i64 (y : Int), .int .i64 (mo : Int), .int .i64 (d : Int), .int .i64 (h : Int), .int .i64 (mi : Int), .int .i64 (s : Int)] 23) = w2 at *
    clear hw2
    go_wp2_with fail
    refine (HDY.out w2).mono ?_
    rintro e w3 ⟨rfl, rfl⟩
    have K : Hid (∀ w', Below w2.heap.size w2 w' → (fun w' => w'.cell? ⟨w1.heap.size, 0, none⟩ = some (.int .i64 (y : Int)) ∧ w'.cell? ⟨w1.heap.size, 1, none⟩ = some (.int .i64 (mo : Int)) ∧ w'.cell? ⟨w1.heap.size, 2, none⟩ = some (.int .i64 (d : Int)) ∧ w'.cell? ⟨w1.heap.size, 3, none⟩ = some (.int .i64 (h : Int)) ∧ w'.cell? ⟨w1.heap.size, 4, none⟩ = some (.int .i64 (mi : Int)) ∧ w'.cell? ⟨w1.heap.size, 5, none⟩ = some (.int .i64 (s : Int))) w') :=
      Lib.hid fun w' hb => ⟨(bk.keep hb).cell 0, (bk.keep hb).cell 1, (bk.keep hb).cell 2, (bk.keep hb).cell 3, (bk.keep hb).cell 4, (bk.keep hb).cell 5⟩
    have k2 : w2.cell? ⟨w1.heap.size, 2, none⟩ = some (.int .i64 (d : Int)) := bk.cell 2
    have HTW := Lib.hid (fun v hv w' => twoI_walk v hv w')
    have HB2 := Lib.hid hb2
    clear hb2 HDY bk
    go_wp2_with fail
    refine (HTW.out _ bd _).mono ?_
    rintro e w4 ⟨hb4, rfl⟩
    have k4 := (K.out w4 hb4).2.2.1
    have htsz := twoB_sz (d : Int)
    have B := Lib.hid hb4
    clear hb4 k2
    have hSTR : ∃ DD : ByteArray, DD = ⟨(Lib.decDigits d).toArray⟩ := ⟨_, rfl⟩
    obtain ⟨DD, hDD'⟩ := hSTR
    have HDD := Lib.hid hDD'
    clear hDD'
    go_upto_if 27 with (fail)
    go_cut [8] from 28 to 29 (fun x wr => Below w2.heap.size w2 wr ∧ x = .string DD)
    case first =>
      by_cases h10 : d < 10
      · have h10' : (d : Int) < 10 := by omega
        have hx := day_cut (by have := HP.out.hd0; omega) h10
        rw [← HDD.out] at hx
        go_wp2
        go_meet
        exact ⟨B.out, rfl⟩
      · have h10' : ¬ (d : Int) < 10 := by omega
        have hx := day_two h10 (by omega)
        rw [← HDD.out] at hx
        have HX := Lib.hid hx
        clear hx
        go_wp2
        go_meet
        exact ⟨B.out, by rw [HX.out]⟩
    case rest =>
      obtain ⟨hbc, rfl⟩ := hcut
      have RC := Lib.hid hbc
      clear hbc B htsz k4
      generalize hwc : wc = w6 at *
      clear hwc
      obtain ⟨ND, hND⟩ : ∃ ND : ByteArray, ND = ⟨(capD.getD di []).toArray⟩ := ⟨_, rfl⟩
      obtain ⟨NM, hNM⟩ : ∃ NM : ByteArray, NM = ⟨(capM.getD (mo - 1) []).toArray⟩ := ⟨_, rfl⟩
      have hx1 := day_cutN HP.out.hdi
      have hx2 := mon_cutN HP.out.hm0 HP.out.hm1
      have ln : ND.size = 3 := by rw [hND]; exact (cap_len HP.out.hdi HP.out.hm0 HP.out.hm1).1
      have lm : NM.size = 3 := by rw [hNM]; exact (cap_len HP.out.hdi HP.out.hm0 HP.out.hm1).2
      have hDD := HDD.out
      have ldd : DD.size ≤ 2 := by rw [hDD]; rcases dec_sz2 (d := d) (by omega) with h | h <;> omega
      rw [← hND] at hx1
      rw [← hNM] at hx2
      have l2 : ∀ v, (twoB v).size = 2 := twoB_sz
      have m1 : IntKind.i64.wrap (3 * (di : Int)) = 3 * (di : Int) := IntWalk.i64_in _ (by omega)
      have m2 : IntKind.i64.wrap (3 * (di : Int) + 3) = 3 * (di : Int) + 3 := IntWalk.i64_in _ (by omega)
      have m3 : IntKind.i64.wrap (3 * (mo : Int)) = 3 * (mo : Int) := IntWalk.i64_in _ (by omega)
      have m4 : IntKind.i64.wrap (3 * (mo : Int) - 3) = 3 * (mo : Int) - 3 := IntWalk.i64_in _ (by omega)
      have n1 : (3 * (di : Int)).toNat = 3 * di := by omega
      have n2 : (3 * (di : Int) + 3).toNat = 3 * di + 3 := by omega
      have n3 : (3 * (mo : Int)).toNat = 3 * mo := by omega
      have n4 : (3 * (mo : Int) - 3).toNat = 3 * mo - 3 := by omega
      have q1 : (0 : Int) ≤ 3 * (di : Int) := by omega
      have q2 : 3 * (di : Int) ≤ 3 * (di : Int) + 3 := by omega
      have q3 : 3 * (di : Int) + 3 ≤ 21 := by omega
      have q4 : (0 : Int) ≤ 3 * (mo : Int) - 3 := by omega
      have q5 : 3 * (mo : Int) - 3 ≤ 3 * (mo : Int) := by omega
      have q6 : 3 * (mo : Int) ≤ 36 := by omega
      have HEQ : Hid (ND ++ ⟨#[44, 32]⟩ ++ DD ++ ⟨#[32]⟩ ++ NM ++ ⟨#[32]⟩ ++ twoB ((y : Int) / 100) ++ twoB ((y : Int) % 100) ++ ⟨#[32]⟩ ++ twoB (h : Int) ++ ⟨#[58]⟩ ++ twoB (mi : Int) ++ ⟨#[58]⟩ ++ twoB (s : Int) ++ ⟨#[32, 43, 48, 48, 48, 48]⟩ = (⟨F.toArray⟩ : ByteArray)) := Lib.hid (by
        show ND ++ ⟨[44, 32].toArray⟩ ++ DD ++ ⟨[32].toArray⟩ ++ NM ++ ⟨[32].toArray⟩ ++ ⟨(dig2 ((y : Int) / 100).toNat).toArray⟩ ++ ⟨(dig2 ((y : Int) % 100).toNat).toArray⟩ ++ ⟨[32].toArray⟩ ++ ⟨(dig2 h).toArray⟩ ++ ⟨[58].toArray⟩ ++ ⟨(dig2 mi).toArray⟩ ++ ⟨[58].toArray⟩ ++ ⟨(dig2 s).toArray⟩ ++ ⟨[32, 43, 48, 48, 48, 48].toArray⟩ = _
        rw [hND, hNM, hDD]
        simp only [app_str]
        rw [← HF.out, show ((y : Int) / 100).toNat = y / 100 by omega, show ((y : Int) % 100).toNat = y % 100 by omega]
        have e4 : dig4 y = dig2 (y / 100) ++ dig2 (y % 100) := by
          unfold dig4 dig2
          rw [show y / 100 / 10 = y / 1000 by omega, show y % 100 / 10 = y / 10 % 10 by omega, show y % 100 % 10 = y % 10 by omega]
          rfl
        unfold shB timB
        rw [e4]
        simp)
      clear hND hNM hDD HF HDD
      go_upto_region 8 with fail
      have KK : ∀ n : Over w6.heap.size w6, (n.v.cell? ⟨w1.heap.size, 0, none⟩ = some (.int .i64 (y : Int)) ∧ n.v.cell? ⟨w1.heap.size, 1, none⟩ = some (.int .i64 (mo : Int)) ∧ n.v.cell? ⟨w1.heap.size, 2, none⟩ = some (.int .i64 (d : Int)) ∧ n.v.cell? ⟨w1.heap.size, 3, none⟩ = some (.int .i64 (h : Int)) ∧ n.v.cell? ⟨w1.heap.size, 4, none⟩ = some (.int .i64 (mi : Int)) ∧ n.v.cell? ⟨w1.heap.size, 5, none⟩ = some (.int .i64 (s : Int))) := fun n => K.out _ (RC.out.trans (n.ok.mono RC.out.size))
      have kk0 := fun n => (KK n).1
      have kk1 := fun n => (KK n).2.1
      have kk3 := fun n => (KK n).2.2.2.1
      have kk4 := fun n => (KK n).2.2.2.2.1
      have kk5 := fun n => (KK n).2.2.2.2.2
      clear KK
      refine wp_region_below w6.heap.size (by kernel_rfl) (by kernel_rfl) ?_
      repeat (go_big_quiet_step ((go_at_call 24; exact calls_over _ (HTW.out _ (by omega) _) (Nat.le_refl _))))
      refine wpQuiet_nil ?_
      rintro _ ⟨⟨w7, hb7⟩, rfl⟩
      clear kk0 kk1 kk3 kk4 kk5
      go_wp2
      go_ret2
      refine ⟨HB2.out.trans ((RC.out.trans (hb7.mono RC.out.size)).mono HB2.out.size), ?_⟩
      show Ending.returned (.tuple #[.string (ND ++ ⟨#[44, 32]⟩ ++ DD ++ ⟨#[32]⟩ ++ NM ++ ⟨#[32]⟩ ++ twoB ((y : Int) / 100) ++ twoB ((y : Int) % 100) ++ ⟨#[32]⟩ ++ twoB (h : Int) ++ ⟨#[58]⟩ ++ twoB (mi : Int) ++ ⟨#[58]⟩ ++ twoB (s : Int) ++ ⟨#[32, 43, 48, 48, 48, 48]⟩), .int .i64 0]) = _
      rw [HEQ.out]
  · have hsl : showL t = [] := if_neg hb
    rw [dayE_bad hb, civA_bad hb] at HC
    rw [dayE_bad hb, hsl]
    clear HDY hsl
    go_enter Tryz.func14, Tryz.ntmps14
    go_wp2_with fail
    refine HC.out.mono ?_
    rintro e w1 ⟨hb1', rfl⟩
    have hb2 := hb1'.alloc hb1'.size (.cells #[.int .i64 0, .int .i64 0, .int .i64 0, .int .i64 0, .int .i64 0, .int .i64 0] 23)
    go_wp2
    go_ret2
    exact ⟨hb2, rfl⟩
end Go.Proofs.YtdkhoiahmjadnaaGreatDoor
