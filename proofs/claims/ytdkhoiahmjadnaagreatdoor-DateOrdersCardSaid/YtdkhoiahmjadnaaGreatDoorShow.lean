/-
  The walk of date's Show. Conditions: the number's bounds, and what the library's tables hold.
-/
import Derived.Test.YtdkhoiahmjadnaaGreatDoorShow0
import Derived.Deep.RegionHeld3
namespace Go.Proofs.YtdkhoiahmjadnaaGreatDoor
open Go.RowKit Go.Sort
set_option linter.unusedVariables false

theorem bdrew {B : Nat} {a w : World} (h : Below B a w) : Below B a w.drew := ⟨h.os, h.tape, h.output, h.size, h.block⟩
/-- an operation that a drawn region's walk does not take first -/
def opq (o : Op) : Op := o
attribute [go_sem] opq
theorem opq_load (a : Operand) : Op.load 9 a = opq (Op.load 9 a) := rfl
/-- a name of three letters of ASCII, and with its first letter upper -/
def TitleOk (s : ByteArray) : Prop := ∃ a b c : UInt8, s = ⟨#[a, b, c]⟩ ∧ a.toNat < 128
def titleB (s : ByteArray) : ByteArray := match s.data.toList with
  | [a, b, c] => ⟨#[Lib.upperB a, b, c]⟩
  | _ => s
theorem title_any (s : ByteArray) (h : TitleOk s) (w : World) : Calls Tryz.prog 20 #[.string s] w fun e w' => Below w.heap.size w w' ∧ e = .returned (.string (titleB s)) := by
  obtain ⟨a, b, c, rfl, ha⟩ := h
  exact title_walk a b c ha w
theorem day_name {di : Nat} (h : di ≤ 6) : ∃ nd, dayC[di]? = some (.string nd) ∧ TitleOk nd ∧ titleB nd = ⟨(capD.getD di []).toArray⟩ := by
  have : di = 0 ∨ di = 1 ∨ di = 2 ∨ di = 3 ∨ di = 4 ∨ di = 5 ∨ di = 6 := by omega
  rcases this with rfl | rfl | rfl | rfl | rfl | rfl | rfl <;> exact ⟨_, rfl, ⟨_, _, _, rfl, by decide⟩, rfl⟩
theorem mon_name {mo : Nat} (h0 : 1 ≤ mo) (h1 : mo ≤ 12) : ∃ nm, monC[mo - 1]? = some (.string nm) ∧ TitleOk nm ∧ titleB nm = ⟨(capM.getD (mo - 1) []).toArray⟩ := by
  have : mo = 1 ∨ mo = 2 ∨ mo = 3 ∨ mo = 4 ∨ mo = 5 ∨ mo = 6 ∨ mo = 7 ∨ mo = 8 ∨ mo = 9 ∨ mo = 10 ∨ mo = 11 ∨ mo = 12 := by omega
  rcases this with rfl | rfl | rfl | rfl | rfl | rfl | rfl | rfl | rfl | rfl | rfl | rfl <;> exact ⟨_, rfl, ⟨_, _, _, rfl, by decide⟩, rfl⟩
theorem cap_len {di mo : Nat} (h : di ≤ 6) (h0 : 1 ≤ mo) (h1 : mo ≤ 12) : (⟨(capD.getD di []).toArray⟩ : ByteArray).size = 3 ∧ (⟨(capM.getD (mo - 1) []).toArray⟩ : ByteArray).size = 3 := by
  have : di = 0 ∨ di = 1 ∨ di = 2 ∨ di = 3 ∨ di = 4 ∨ di = 5 ∨ di = 6 := by omega
  have hm : mo = 1 ∨ mo = 2 ∨ mo = 3 ∨ mo = 4 ∨ mo = 5 ∨ mo = 6 ∨ mo = 7 ∨ mo = 8 ∨ mo = 9 ∨ mo = 10 ∨ mo = 11 ∨ mo = 12 := by omega
  constructor
  · rcases this with rfl | rfl | rfl | rfl | rfl | rfl | rfl <;> rfl
  · rcases hm with rfl | rfl | rfl | rfl | rfl | rfl | rfl | rfl | rfl | rfl | rfl | rfl <;> rfl
theorem civA_bad {t : Int} (h : ¬ (0 ≤ t ∧ t ≤ 253402300799)) : civA t = #[.int .i64 0, .int .i64 0, .int .i64 0, .int .i64 0, .int .i64 0, .int .i64 0] := if_pos (by omega)
theorem dec_sz2 {d : Nat} (h : d < 100) : (⟨(Lib.decDigits d).toArray⟩ : ByteArray).size = 1 ∨ (⟨(Lib.decDigits d).toArray⟩ : ByteArray).size = 2 := by
  by_cases h10 : d < 10
  · rw [Lib.decDigits_one h10]; exact Or.inl rfl
  · rw [Lib.decDigits_two h10 h]; exact Or.inr rfl
theorem dec_sz {d : Nat} (h : d < 100) : (⟨(Lib.decDigits d).toArray⟩ : ByteArray).size ≤ 2 := by
  by_cases h10 : d < 10
  · rw [Lib.decDigits_one h10]; exact (by decide : 1 ≤ 2)
  · rw [Lib.decDigits_two h10 h]; exact Nat.le_refl 2
set_option maxRecDepth 100000 in
set_option maxHeartbeats 4000000 in
theorem show_walk (t : Int) (w : World) (h0 : -9223372036854775808 ≤ t) (h1 : t ≤ 9223372036854775807) (T : TabsD w) :
    Calls Tryz.prog 13 #[.int .i64 t] w fun e w' => Below w.heap.size w w' ∧ e = .returned (.tuple #[.string ⟨(showL t).toArray⟩, .int .i64 (dayE t)]) := by
  have HC := Lib.hid (civ_walk t w h0 h1)
  have HDY := Lib.hid (fun w => day_walk t w h0 h1)
  by_cases hb : 0 ≤ t ∧ t ≤ 253402300799
  · obtain ⟨hb0, hb1⟩ := hb
    obtain ⟨di, d, mo, y, h, mi, s, P⟩ := parts_of hb0 hb1
    have HSH := Lib.hid (P.show_ hb0 hb1)
    have HP := Lib.hid P
    rw [P.civ, dayE_ok hb0 hb1] at HC
    rw [P.edi, dayE_ok hb0 hb1] at HDY
    rw [dayE_ok hb0 hb1, HSH.out]
    have hh : h < 100 := by have := P.hh; omega
    have hmi : mi < 100 := by have := P.hmi; omega
    have hs : s < 100 := by have := P.hs; omega
    clear P HSH
    generalize hF : shB di d mo y h mi s = F at *
    have HF := Lib.hid hF
    clear hF
    go_enter Tryz.func13, Tryz.ntmps13
    go_wp2_with fail
    refine HC.out.mono ?_
    rintro e w1 ⟨hb1', rfl⟩
    have bk := Blk.new w1 23 #[.int .i64 (y : Int), .int .i64 (mo : Int), .int .i64 (d : Int), .int .i64 (h : Int), .int .i64 (mi : Int), .int .i64 (s : Int)]
    have hb2 := hb1'.alloc hb1'.size (.cells #[.int .i64 (y : Int), .int .i64 (mo : Int), .int .i64 (d : Int), .int .i64 (h : Int), .int .i64 (mi : Int), .int .i64 (s : Int)] 23)
    clear hb1' HC
    go_upto_region 4 with fail
    generalize hw2 : w1.alloc (.cells #[.int .i64 (y : Int), .int .i64 (mo : Int), .int .i64 (d : Int), .int .i64 (h : Int), .int .i64 (mi : Int), .int .i64 (s : Int)] 23) = w2 at *
    clear hw2
    go_wp2_with fail
    refine (HDY.out w2).mono ?_
    rintro e w3 ⟨rfl, rfl⟩
    have T2 := T.keep hb2
    have K : Hid (∀ w', Below w2.heap.size w2 w' → (fun w' => w'.cell? ⟨w1.heap.size, 0, none⟩ = some (.int .i64 (y : Int)) ∧ w'.cell? ⟨w1.heap.size, 1, none⟩ = some (.int .i64 (mo : Int)) ∧ w'.cell? ⟨w1.heap.size, 2, none⟩ = some (.int .i64 (d : Int)) ∧ w'.cell? ⟨w1.heap.size, 3, none⟩ = some (.int .i64 (h : Int)) ∧ w'.cell? ⟨w1.heap.size, 4, none⟩ = some (.int .i64 (mi : Int)) ∧ w'.cell? ⟨w1.heap.size, 5, none⟩ = some (.int .i64 (s : Int))) w') :=
      Lib.hid fun w' hb => ⟨(bk.keep hb).cell 0, (bk.keep hb).cell 1, (bk.keep hb).cell 2, (bk.keep hb).cell 3, (bk.keep hb).cell 4, (bk.keep hb).cell 5⟩
    have TT : Hid (∀ w', Below w2.heap.size w2 w' → TabsD w') := Lib.hid fun w' hb => T2.keep hb
    have R2 := Lib.hid (Below.refl w2.heap.size w2)
    have HB2 := Lib.hid hb2
    clear bk T2 HDY hb2
    have HTM : Hid (⟨(timB h mi s).toArray⟩ = (((⟨(dig2 h).toArray⟩ : ByteArray) ++ ⟨#[58]⟩ ++ ⟨(dig2 mi).toArray⟩ ++ ⟨#[58]⟩ ++ ⟨(dig2 s).toArray⟩) : ByteArray)) := Lib.hid (by
      show _ = (((⟨(dig2 h).toArray⟩ : ByteArray) ++ ⟨[58].toArray⟩ ++ ⟨(dig2 mi).toArray⟩ ++ ⟨[58].toArray⟩ ++ ⟨(dig2 s).toArray⟩) : ByteArray)
      rw [app_str, app_str, app_str, app_str]; rfl)
    have lh : (⟨(dig2 h).toArray⟩ : ByteArray).size = 2 := rfl
    have lmi : (⟨(dig2 mi).toArray⟩ : ByteArray).size = 2 := rfl
    have ls : (⟨(dig2 s).toArray⟩ : ByteArray).size = 2 := rfl
    have ltm : Hid ((⟨(timB h mi s).toArray⟩ : ByteArray).size = 8) := Lib.hid rfl
    have HPA := Lib.hid (fun n (hn : n < 100) w' T' => padded2_walk n hn w' T')
    have HEH : Hid (∀ n, n < 100 → (⟨(dig2 n).toArray⟩ : ByteArray).size = 2) := Lib.hid fun _ _ => rfl
    clear HEH
    go_upto_region 5 with fail
    generalize htb : (⟨(timB h mi s).toArray⟩ : ByteArray) = tb at *
    go_cut [8] from 22 to 34 (fun x wr => Below w2.heap.size w2 wr ∧ x = .string tb)
    case first =>
      go_region_held3 (fun w' => w'.cell? ⟨w1.heap.size, 0, none⟩ = some (.int .i64 (y : Int)) ∧ w'.cell? ⟨w1.heap.size, 1, none⟩ = some (.int .i64 (mo : Int)) ∧ w'.cell? ⟨w1.heap.size, 2, none⟩ = some (.int .i64 (d : Int)) ∧ w'.cell? ⟨w1.heap.size, 3, none⟩ = some (.int .i64 (h : Int)) ∧ w'.cell? ⟨w1.heap.size, 4, none⟩ = some (.int .i64 (mi : Int)) ∧ w'.cell? ⟨w1.heap.size, 5, none⟩ = some (.int .i64 (s : Int)))
        (first | exact K.out _ R2.out | exact K.out _ (bdrew R2.out))
        (first | (go_at_call 19; refine (HPA.out _ (by assumption) _ (by first | exact TT.out _ R2.out | exact TT.out _ (bdrew R2.out))).mono ?_; rintro e wn ⟨hbn, rfl⟩; have R2 : Hid (Below w2.heap.size w2 wn) := Lib.hid (by first | exact R2.out.trans (hbn.mono R2.out.size) | exact (bdrew R2.out).trans (hbn.mono (bdrew R2.out).size)); clear hbn))
      all_goals
        go_wp2_with fail
        go_meet
        exact ⟨R2.out, by rw [HTM.out]⟩
    case rest =>
      obtain ⟨hbc, rfl⟩ := hcut
      have RC := Lib.hid hbc
      clear hbc R2
      generalize hwc : wc = w6 at *
      clear hwc
      obtain ⟨nd, hnd1, hnd2, hnd3⟩ := day_name HP.out.hdi
      obtain ⟨nm, hnm1, hnm2, hnm3⟩ := mon_name HP.out.hm0 HP.out.hm1
      have HNDC := Lib.hid hnd1
      have HNMC := Lib.hid hnm1
      have HND := Lib.hid hnd3
      have HNM := Lib.hid hnm3
      have ln : (titleB nd).size = 3 := by rw [hnd3]; exact (cap_len HP.out.hdi HP.out.hm0 HP.out.hm1).1
      have lm : (titleB nm).size = 3 := by rw [hnm3]; exact (cap_len HP.out.hdi HP.out.hm0 HP.out.hm1).2
      have hld : (⟨(Lib.decDigits d).toArray⟩ : ByteArray).size = 1 ∨ (⟨(Lib.decDigits d).toArray⟩ : ByteArray).size = 2 := dec_sz2 (by have := HP.out.hd1; omega)
      have ltb : tb.size = 8 := ltm.out
      have HTI := Lib.hid (fun s (h : TitleOk s) w' => title_any s h w')
      have HDA := Lib.hid (fun w' T' => days_walk w' T')
      have HMO := Lib.hid (fun w' T' => months_walk w' T')
      have HIT := Lib.hid (fun w' T' => itoa_walk d (by have := HP.out.hd1; omega) w' T')
      have HP4 := Lib.hid (fun w' T' => padded4_walk y (by have := HP.out.hy0; omega) HP.out.hy1 w' T')
      have l4 : (⟨(dig4 y).toArray⟩ : ByteArray).size = 4 := rfl
      have idi : (di : Int) < 7 := by have := HP.out.hdi; omega
      have idi0 : (0 : Int) ≤ (di : Int) := by omega
      have imo : (mo : Int) - 1 < 12 := by have := HP.out.hm1; omega
      have imo0 : (0 : Int) ≤ (mo : Int) - 1 := by have := HP.out.hm0; omega
      have imo1 : (1 : Int) ≤ (mo : Int) := by omega
      have imow : IntKind.i64.wrap ((mo : Int) - 1) = (mo : Int) - 1 := IntWalk.i64_in _ (by omega)
      have imot : ((mo : Int) - 1).toNat = mo - 1 := by omega
      have HTB := Lib.hid htb
      clear hnd1 hnm1 hnd3 hnm3 lh lmi ls ltm HTM htb hh hmi hs HPA
      generalize hdd : (⟨(Lib.decDigits d).toArray⟩ : ByteArray) = dd at *
      generalize hd4 : (⟨(dig4 y).toArray⟩ : ByteArray) = d4 at *
      have HEQ : Hid (titleB nd ++ ⟨#[44, 32]⟩ ++ dd ++ ⟨#[32]⟩ ++ titleB nm ++ ⟨#[32]⟩ ++ d4 ++ ⟨#[32]⟩ ++ tb ++ ⟨#[32, 43, 48, 48, 48, 48]⟩ = (⟨F.toArray⟩ : ByteArray)) := Lib.hid (by
        show titleB nd ++ ⟨[44, 32].toArray⟩ ++ dd ++ ⟨[32].toArray⟩ ++ titleB nm ++ ⟨[32].toArray⟩ ++ d4 ++ ⟨[32].toArray⟩ ++ tb ++ ⟨[32, 43, 48, 48, 48, 48].toArray⟩ = _
        rw [HND.out, HNM.out, ← hdd, ← hd4, ← HTB.out, app_str, app_str, app_str, app_str, app_str, app_str, app_str, app_str, app_str, ← HF.out]; rfl)
      clear hdd hd4
      go_upto_region 6 with fail
      rw [opq_load (.tmp 37), opq_load (.tmp 50)]
      rcases hld with ldd | ldd
      all_goals go_region_held3 (fun w' => w'.cell? ⟨w1.heap.size, 0, none⟩ = some (.int .i64 (y : Int)) ∧ w'.cell? ⟨w1.heap.size, 1, none⟩ = some (.int .i64 (mo : Int)) ∧ w'.cell? ⟨w1.heap.size, 2, none⟩ = some (.int .i64 (d : Int)) ∧ w'.cell? ⟨w1.heap.size, 3, none⟩ = some (.int .i64 (h : Int)) ∧ w'.cell? ⟨w1.heap.size, 4, none⟩ = some (.int .i64 (mi : Int)) ∧ w'.cell? ⟨w1.heap.size, 5, none⟩ = some (.int .i64 (s : Int)))
        (first | exact K.out _ RC.out | exact K.out _ (bdrew RC.out))
        (first
          | (go_at_call 21; refine (HDA.out _ (by first | exact TT.out _ RC.out | exact TT.out _ (bdrew RC.out))).mono ?_; rintro e wn ⟨hbn, rfl, hbk⟩; have kd1 : wn.cell? ⟨w6.heap.size, di, none⟩ = some (.string nd) := (hbk.cell di).trans HNDC.out; have RC : Hid (Below w2.heap.size w2 wn) := Lib.hid (by first | exact RC.out.trans (hbn.mono RC.out.size) | exact (bdrew RC.out).trans (hbn.mono (bdrew RC.out).size)); clear hbn hbk)
          | (go_at_call 23; refine (HMO.out _ (by first | exact TT.out _ RC.out | exact TT.out _ (bdrew RC.out))).mono ?_; rintro e wm ⟨hbn, rfl, hbk⟩; have km1 : wm.cell? ⟨wn.heap.size, mo - 1, none⟩ = some (.string nm) := (hbk.cell (mo - 1)).trans HNMC.out; have RC : Hid (Below w2.heap.size w2 wm) := Lib.hid (by first | exact RC.out.trans (hbn.mono RC.out.size) | exact (bdrew RC.out).trans (hbn.mono (bdrew RC.out).size)); clear hbn hbk)
          | (go_at_call 20; refine (HTI.out _ (by assumption) _).mono ?_; rintro e wn ⟨hbn, rfl⟩; have RC : Hid (Below w2.heap.size w2 wn) := Lib.hid (by first | exact RC.out.trans (hbn.mono RC.out.size) | exact (bdrew RC.out).trans (hbn.mono (bdrew RC.out).size)); clear hbn)
          | (go_at_call 22; refine (HIT.out _ (by first | exact TT.out _ RC.out | exact TT.out _ (bdrew RC.out))).mono ?_; rintro e wn ⟨hbn, rfl⟩; have RC : Hid (Below w2.heap.size w2 wn) := Lib.hid (by first | exact RC.out.trans (hbn.mono RC.out.size) | exact (bdrew RC.out).trans (hbn.mono (bdrew RC.out).size)); clear hbn)
          | (go_at_call 19; refine (HP4.out _ (by first | exact TT.out _ RC.out | exact TT.out _ (bdrew RC.out))).mono ?_; rintro e wn ⟨hbn, rfl⟩; have RC : Hid (Below w2.heap.size w2 wn) := Lib.hid (by first | exact RC.out.trans (hbn.mono RC.out.size) | exact (bdrew RC.out).trans (hbn.mono (bdrew RC.out).size)); clear hbn))
      all_goals
        go_wp2
        go_ret2
        refine ⟨HB2.out.trans (RC.out.mono HB2.out.size), ?_⟩
        show Ending.returned (.tuple #[.string (titleB nd ++ ⟨#[44, 32]⟩ ++ dd ++ ⟨#[32]⟩ ++ titleB nm ++ ⟨#[32]⟩ ++ d4 ++ ⟨#[32]⟩ ++ tb ++ ⟨#[32, 43, 48, 48, 48, 48]⟩), .int .i64 0]) = _
        rw [HEQ.out]
  · have hsl : showL t = [] := if_neg hb
    rw [dayE_bad hb, civA_bad hb] at HC
    rw [dayE_bad hb, hsl]
    clear HDY hsl
    go_enter Tryz.func13, Tryz.ntmps13
    go_wp2_with fail
    refine HC.out.mono ?_
    rintro e w1 ⟨hb1', rfl⟩
    have hb2 := hb1'.alloc hb1'.size (.cells #[.int .i64 0, .int .i64 0, .int .i64 0, .int .i64 0, .int .i64 0, .int .i64 0] 23)
    go_wp2
    go_ret2
    exact ⟨hb2, rfl⟩
end Go.Proofs.YtdkhoiahmjadnaaGreatDoor
