/-
  The walks of codec.take and waybillref02.take: both answer 'tk'. No condition but the sizes that the form gives.
-/
import Derived.Test.YtfnhaddgdfkmcaaDoorProg
import Derived.Test.YtfnhaddgdfkmcaaDoorLib
namespace Go.Proofs.YtfnhaddgdfkmcaaDoor
open Go.RowKit
set_option linter.unusedVariables false

/-- what 'take' answers -/
def tk (en dg mo z : Int) : List UInt8 → Nat → Int → Int × Int × Int
  | [], _, _ => (0, 0, 20)
  | c :: r, i, n =>
    if (c.toNat : Int) = en ∧ 0 < i then (if mo < n then (0, 0, 22) else (n, (i : Int) + 1, 0))
    else if (c.toNat : Int) < 48 ∨ 57 < (c.toNat : Int) ∨ (i : Int) = dg ∨ (i = 1 ∧ z = 48) then (0, 0, 21)
    else tk en dg mo z r (i + 1) (n * 10 + ((c.toNat : Int) - 48))

set_option maxRecDepth 100000 in
set_option maxHeartbeats 1000000 in
theorem take_any (A : Option Addr) (l : List UInt8) (cp : Nat) (en dg mo : Int) (w : World) (B : Nat) (h : RB w B A l) (hl : l.length ≤ maxLen)
   (he : 0 ≤ en ∧ en ≤ 255) (hd : 0 ≤ dg ∧ dg ≤ 16) (hm : 0 ≤ mo ∧ mo ≤ 100000000000000000) :
    Calls Tryd.prog 66 #[.slice A l.length cp, .int .u8 en, .int .i64 dg, .int .i64 mo] w fun e w' => w = w' ∧
      e = .returned (.tuple #[.int .i64 (tk en dg mo (bt l 0) l 0 0).1, .int .i64 (tk en dg mo (bt l 0) l 0 0).2.1, .int .i64 (tk en dg mo (bt l 0) l 0 0).2.2]) := by
  unfold maxLen at hl
  obtain ⟨z, hz⟩ : ∃ z, bt l 0 = z := ⟨_, rfl⟩
  have Hz := Lib.hid hz
  rw [hz]; clear hz
  obtain ⟨T, hT⟩ : ∃ T, tk en dg mo z l 0 0 = T := ⟨_, rfl⟩
  have HT := Lib.hid hT
  rw [hT]; clear hT
  go_enter Tryd.func66, Tryd.ntmps66
  go_wp2
  go_loopg [11, 16] l.length (fun k n i wr => w = wr ∧ ∃ (j : Nat) (m : Int), j + k = l.length ∧ n = .int .i64 m ∧ i = .int .i64 j ∧ 0 ≤ m ∧ (j : Int) ≤ dg ∧ m < 10 ^ j ∧ Hid (tk en dg mo z (l.drop j) j m = T))
  case atStart => exact ⟨rfl, 0, 0, by omega, rfl, rfl, by omega, by omega, by simp, HT⟩
  case round =>
    obtain ⟨rfl, j, m, hj, rfl, rfl, hm0, hj16, hm1, H⟩ := hrel
    have hm2 := pow10_le (j := j) (by omega)
    have hm3 : m ≤ 10000000000000000 := by omega
    have HM := Lib.hid hm1
    clear hm1 hm2
    by_cases hlt : j < l.length
    · obtain ⟨c, hc1, hc2⟩ := drop_bt hlt
      have hb0 := bt_lo l j
      have hb1 := bt_hi l j
      have hj63 : (j : Int) < (l.length : Int) := by omega
      obtain ⟨b, off, rfl, hB, hcell⟩ := h.at_ hlt
      have cj := hcell j hlt
      have c0 := hcell 0 (by omega)
      rw [Nat.add_zero, Hz.out] at c0
      clear hcell h
      generalize bt l j = x at *
      rw [hc1, tk, hc2] at H
      clear hc1 hc2
      refine on_eq x en (fun X1 X2 => ?_) (fun X1 X2 => ?_) <;> have X3 := X2.out <;> clear X2
      all_goals go_wp2
      all_goals first
        | (go_ret3
           refine ⟨rfl, ?_⟩
           go_light
           simp only [beq_iff_eq, beq_eq_false_iff_ne, ne_eq] at *
           have X4 := X1.out
           refine ret3 ?_
           first
            | (rw [← H.out, if_neg (by omega), if_pos (by omega)])
            | (rw [← H.out, if_pos (by omega), if_pos (by omega)])
            | (rw [← H.out, if_pos (by omega), if_neg (by omega)]))
        | (go_roundg (gk - 1)
           case rel =>
             go_light
             simp only [beq_iff_eq, beq_eq_false_iff_ne, ne_eq] at *
             have X4 := X1.out
             rw [if_neg (by omega), if_neg (by omega)] at H
             exact ⟨by trivial, j + 1, _, by omega, by first | rfl | fail, by go_num, by omega, by omega, by have := HM.out; rw [Int.pow_succ]; omega, H⟩
           case measure => omega)
    · go_wp2
      go_ret3
      refine ⟨rfl, ?_⟩
      refine ret3 ?_
      rw [← H.out, List.drop_eq_nil_of_le (by omega)]; rfl

set_option maxRecDepth 100000 in
set_option maxHeartbeats 1000000 in
theorem rtake_any (A : Option Addr) (l : List UInt8) (cp : Nat) (en dg mo : Int) (w : World) (B : Nat) (h : RB w B A l) (hl : l.length ≤ maxLen)
   (he : 0 ≤ en ∧ en ≤ 255) (hd : 0 ≤ dg ∧ dg ≤ 16) (hm : 0 ≤ mo ∧ mo ≤ 100000000000000000) :
    Calls Tryd.prog 65 #[.slice A l.length cp, .int .u8 en, .int .i64 dg, .int .i64 mo] w fun e w' => w = w' ∧
      e = .returned (.tuple #[.int .i64 (tk en dg mo (bt l 0) l 0 0).1, .int .i64 (tk en dg mo (bt l 0) l 0 0).2.1, .int .i64 (tk en dg mo (bt l 0) l 0 0).2.2]) := by
  unfold maxLen at hl
  obtain ⟨z, hz⟩ : ∃ z, bt l 0 = z := ⟨_, rfl⟩
  have Hz := Lib.hid hz
  rw [hz]; clear hz
  obtain ⟨T, hT⟩ : ∃ T, tk en dg mo z l 0 0 = T := ⟨_, rfl⟩
  have HT := Lib.hid hT
  rw [hT]; clear hT
  go_enter Tryd.func65, Tryd.ntmps65
  go_wp2
  go_loopg [11, 12] l.length (fun k n i wr => w = wr ∧ ∃ (j : Nat) (m : Int), j + k = l.length ∧ n = .int .i64 m ∧ i = .int .i64 j ∧ 0 ≤ m ∧ (j : Int) ≤ dg ∧ m < 10 ^ j ∧ Hid (tk en dg mo z (l.drop j) j m = T))
  case atStart => exact ⟨rfl, 0, 0, by omega, rfl, rfl, by omega, by omega, by simp, HT⟩
  case round =>
    obtain ⟨rfl, j, m, hj, rfl, rfl, hm0, hj16, hm1, H⟩ := hrel
    have hm2 := pow10_le (j := j) (by omega)
    have hm3 : m ≤ 10000000000000000 := by omega
    have HM := Lib.hid hm1
    clear hm1 hm2
    by_cases hlt : j < l.length
    · obtain ⟨c, hc1, hc2⟩ := drop_bt hlt
      have hb0 := bt_lo l j
      have hb1 := bt_hi l j
      have hj63 : (j : Int) < (l.length : Int) := by omega
      obtain ⟨b, off, rfl, hB, hcell⟩ := h.at_ hlt
      have cj := hcell j hlt
      have c0 := hcell 0 (by omega)
      rw [Nat.add_zero, Hz.out] at c0
      clear hcell h
      generalize bt l j = x at *
      rw [hc1, tk, hc2] at H
      clear hc1 hc2
      refine on_eq x en (fun X1 X2 => ?_) (fun X1 X2 => ?_) <;> have X3 := X2.out <;> clear X2
      all_goals go_wp2
      all_goals first
        | (go_ret3
           refine ⟨rfl, ?_⟩
           go_light
           simp only [beq_iff_eq, beq_eq_false_iff_ne, ne_eq] at *
           have X4 := X1.out
           refine ret3 ?_
           first
            | (rw [← H.out, if_neg (by omega), if_pos (by omega)])
            | (rw [← H.out, if_pos (by omega), if_pos (by omega)])
            | (rw [← H.out, if_pos (by omega), if_neg (by omega)]))
        | (go_roundg (gk - 1)
           case rel =>
             go_light
             simp only [beq_iff_eq, beq_eq_false_iff_ne, ne_eq] at *
             have X4 := X1.out
             rw [if_neg (by omega), if_neg (by omega)] at H
             exact ⟨by trivial, j + 1, _, by omega, by first | rfl | (congr 1; omega), by go_num, by omega, by omega, by have := HM.out; rw [Int.pow_succ]; omega, H⟩
           case measure => omega)
    · go_wp2
      go_ret3
      refine ⟨rfl, ?_⟩
      refine ret3 ?_
      rw [← H.out, List.drop_eq_nil_of_le (by omega)]; rfl

theorem takeNumber_any (A : Option Addr) (l : List UInt8) (cp : Nat) (w : World) (B : Nat) (h : RB w B A l) (hl : l.length ≤ maxLen) :
    Calls Tryd.prog 55 #[.slice A l.length cp] w fun e w' => w = w' ∧
      e = .returned (.tuple #[.int .i64 (tk 59 16 9007199254740992 (bt l 0) l 0 0).1, .int .i64 (tk 59 16 9007199254740992 (bt l 0) l 0 0).2.1, .int .i64 (tk 59 16 9007199254740992 (bt l 0) l 0 0).2.2]) := by
  generalize hT : tk 59 16 9007199254740992 (bt l 0) l 0 0 = T
  have c := take_any A l cp 59 16 9007199254740992 w B h hl (by omega) (by omega) (by omega)
  rw [hT] at c
  have C := Lib.hid c; clear c hT
  go_enter Tryd.func55, Tryd.ntmps55
  go_wp2_with (go_at_call 66; refine C.out.mono ?_; rintro e w' ⟨rfl, rfl⟩)
  go_ret3
  exact ⟨rfl, rfl⟩

theorem rtakeNumber_any (A : Option Addr) (l : List UInt8) (cp : Nat) (w : World) (B : Nat) (h : RB w B A l) (hl : l.length ≤ maxLen) :
    Calls Tryd.prog 53 #[.slice A l.length cp] w fun e w' => w = w' ∧
      e = .returned (.tuple #[.int .i64 (tk 59 16 9007199254740992 (bt l 0) l 0 0).1, .int .i64 (tk 59 16 9007199254740992 (bt l 0) l 0 0).2.1, .int .i64 (tk 59 16 9007199254740992 (bt l 0) l 0 0).2.2]) := by
  generalize hT : tk 59 16 9007199254740992 (bt l 0) l 0 0 = T
  have c := rtake_any A l cp 59 16 9007199254740992 w B h hl (by omega) (by omega) (by omega)
  rw [hT] at c
  have C := Lib.hid c; clear c hT
  go_enter Tryd.func53, Tryd.ntmps53
  go_wp2_with (go_at_call 65; refine C.out.mono ?_; rintro e w' ⟨rfl, rfl⟩)
  go_ret3
  exact ⟨rfl, rfl⟩
end Go.Proofs.YtfnhaddgdfkmcaaDoor
