/-
  The walks of reply.text, waybillref14.Text, reply.code, waybillref14.Code. No condition but the sizes that the form gives.
-/
import Derived.Test.YteicojighhhgjaaDoorProg
import Derived.Test.YteicojighhhgjaaDoorLib
import Derived.Test.YteicojighhhgjaaDoorBlk
import Derived.Laws.RangeAny
import Derived.Lib.Strings
import Derived.PlainAid
namespace Go.Proofs.YteicojighhhgjaaDoor
open Go.RowKit
set_option linter.unusedVariables false

/-- may a text have this byte? -/
def okC (x : Int) : Bool := decide (x = 9 ∨ (32 ≤ x ∧ x ≤ 126))
def okB (c : UInt8) : Bool := okC (c.toNat : Int)
def textOk (l : List UInt8) : Bool := l.all okB && decide (l.length ≤ 506)
/-- may a code be? -/
def codeOk (n : Int) : Bool := decide (200 ≤ n ∧ n ≤ 599 ∧ n / 10 % 10 ≤ 5)

theorem get_list (s : ByteArray) (j : Nat) (h : j < s.size) : ((s[j]'h).toNat : Int) = bt s.data.toList j := by
  rw [bt_getElem (by rw [← size_len]; exact h)]; rfl

set_option maxHeartbeats 1000000 in
theorem text_walk (s : ByteArray) (w : World) (hs : s.size ≤ maxLen) :
    Calls Tryd.prog 21 #[.string s] w fun e w' => Below w.heap.size w w' ∧ e = .returned (.bool (textOk s.data.toList)) := by
  unfold maxLen at hs
  obtain ⟨T, hT⟩ : ∃ T, textOk s.data.toList = T := ⟨_, rfl⟩
  have HT := Lib.hid hT
  rw [hT]; clear hT
  go_enter Tryd.func21, Tryd.ntmps21
  go_wp2
  go_loopg [7] s.size (fun k _ wr => ∃ (j : Nat), j + k = s.size ∧ w.iter s j = wr ∧ Hid (((s.data.toList.drop j).all okB && decide (s.data.toList.length ≤ 506)) = T))
  case atStart => exact ⟨0, by omega, rfl, Lib.hid HT.out⟩
  case round =>
    obtain ⟨j, hj, rfl, H⟩ := hrel
    have hbl : Below w.heap.size w (w.iter s j) := (Below.refl _ _).alloc (Nat.le_refl _) _
    by_cases hlt : j < s.size
    · obtain ⟨c, hc1, hc2⟩ := drop_bt (l := s.data.toList) (j := j) (by rw [← size_len]; exact hlt)
      have hg := get_list s j hlt
      have hb0 := bt_lo s.data.toList j
      have hb1 := bt_hi s.data.toList j
      rw [hc1, List.all_cons] at H
      by_cases ha : (s[j]'hlt).toNat < 128
      · have hn := run_next_ascii (P := Tryd.prog) w s j 0 hlt ha
        rw [hg] at hn
        have hxb : Hid (okB c = okC (bt s.data.toList j)) := Lib.hid (by unfold okB; rw [hc2])
        have hx7 : bt s.data.toList j < 128 := by omega
        clear hc1 hc2 ha hg
        generalize bt s.data.toList j = x at *
        refine on_ne x 9 (fun X1 X2 => ?_) (fun X1 X2 => ?_) <;> obtain ⟨X3, X5⟩ := X2.out <;> clear X2
        all_goals go_wp2
        all_goals first
          | (go_ret
             refine ⟨(Below.refl _ _).alloc (Nat.le_refl _) _, ?_⟩
             go_light
             have X4 := X1.out
             try simp only [Bool.or_eq_false_iff, decide_eq_false_iff_not, Bool.or_eq_true, decide_eq_true_eq] at *
             have e1 : okC x = false := by unfold okC; rw [decide_eq_false_iff_not]; omega
             rw [← H.out, hxb.out, e1]
             rfl)
          | (go_roundg (gk - 1)
             case rel =>
               go_light
               have X4 := X1.out
               try simp only [Bool.or_eq_false_iff, decide_eq_false_iff_not, Bool.or_eq_true, decide_eq_true_eq] at *
               have e1 : okC x = true := by unfold okC; rw [decide_eq_true_eq]; omega
               rw [hxb.out, e1, Bool.true_and] at H
               exact ⟨j + 1, by omega, rfl, H⟩
             case measure => omega)
      · have hn := run_next_any (P := Tryd.prog) w s j 0 hlt
        have hh := decode_high s j hlt (Nat.le_of_not_lt ha)
        have hh2 := decode_le s j
        have h128 := Nat.le_of_not_lt ha
        have hxb : Hid (okB c = false) := Lib.hid (by unfold okB okC; rw [decide_eq_false_iff_not, hc2, ← hg]; omega)
        obtain ⟨r, hr⟩ : ∃ r : Int, ((Utf8.decode s j).1 : Int) = r := ⟨_, rfl⟩
        have hr1 : 128 ≤ r := by have := hh.1; omega
        have hr3 : r ≤ 2147483647 := by omega
        rw [hr] at hn
        generalize (Utf8.decode s j).2 = n at *
        clear hc1 hc2 ha hg hb0 hb1 h128 hh hh2 hr
        have hr2 : (r == 9) = false := beq_eq_false_iff_ne.2 (by omega)
        have hr4 : (r != 9) = true := bne_iff_ne.2 (by omega)
        go_wp2
        go_ret
        refine ⟨(Below.refl _ _).alloc (Nat.le_refl _) _, ?_⟩
        go_light
        rw [← H.out, hxb.out]
        rfl
    · have hn := run_next_end (P := Tryd.prog) w s j 0 hlt
      rw [List.drop_eq_nil_of_le (by rw [← size_len]; omega)] at H
      have hd : Hid (decide (s.data.toList.length ≤ 506) = decide ((s.size : Int) ≤ 506)) := Lib.hid (by rw [← size_len, decide_eq_decide]; omega)
      clear hlt
      go_wp2
      go_ret
      refine ⟨(Below.refl _ _).alloc (Nat.le_refl _) _, ?_⟩
      go_light
      have e := H.out
      rw [List.all_nil, Bool.true_and, hd.out] at e
      rw [← e]
      rfl

theorem rtext_walk (s : ByteArray) (w : World) (hs : s.size ≤ maxLen) :
    Calls Tryd.prog 24 #[.string s] w fun e w' => w = w' ∧ e = .returned (.bool (textOk s.data.toList)) := by
  unfold maxLen at hs
  have hE : textOk s.data.toList = if 506 < s.size then false else s.data.toList.all okB := by
    unfold textOk
    rw [← size_len]
    split
    · rw [decide_eq_false (by omega), Bool.and_false]
    · rw [decide_eq_true (by omega), Bool.and_true]
  by_cases h5 : 506 < s.size
  · rw [hE, if_pos h5]
    have h5' : (506 : Int) < (s.size : Int) := by omega
    clear hE
    go_enter Tryd.func24, Tryd.ntmps24
    go_wp2
    go_ret
    exact ⟨rfl, rfl⟩
  · rw [hE, if_neg h5]
    have h5' : (s.size : Int) ≤ 506 := by omega
    clear hE h5
    obtain ⟨T, hT⟩ : ∃ T, s.data.toList.all okB = T := ⟨_, rfl⟩
    have HT := Lib.hid hT
    rw [hT]; clear hT
    go_enter Tryd.func24, Tryd.ntmps24
    go_wp2
    go_loopg [3] s.size (fun k i wr => w = wr ∧ ∃ (j : Nat), j + k = s.size ∧ i = .int .i64 j ∧ Hid ((s.data.toList.drop j).all okB = T))
    case atStart => exact ⟨rfl, 0, by omega, rfl, HT⟩
    case round =>
      obtain ⟨rfl, j, hj, rfl, H⟩ := hrel
      by_cases hlt : j < s.size
      · obtain ⟨c, hc1, hc2⟩ := drop_bt (l := s.data.toList) (j := j) (by rw [← size_len]; exact hlt)
        have hg := get_list s j hlt
        have hb0 := bt_lo s.data.toList j
        have hb1 := bt_hi s.data.toList j
        rw [hc1, List.all_cons] at H
        have hxb : Hid (okB c = okC (bt s.data.toList j)) := Lib.hid (by unfold okB; rw [hc2])
        have hj2 : (j : Int) < (s.size : Int) := by omega
        clear hc1 hc2
        generalize bt s.data.toList j = x at *
        refine on_ne x 9 (fun X1 X2 => ?_) (fun X1 X2 => ?_) <;> obtain ⟨X3, X5⟩ := X2.out <;> clear X2
        all_goals go_wp2
        all_goals first
          | (go_ret
             refine ⟨rfl, ?_⟩
             go_light
             have X4 := X1.out
             try simp only [Bool.or_eq_false_iff, decide_eq_false_iff_not, Bool.or_eq_true, decide_eq_true_eq] at *
             have e1 : okC x = false := by unfold okC; rw [decide_eq_false_iff_not]; omega
             rw [← H.out, hxb.out, e1]
             rfl)
          | (go_roundg (gk - 1)
             case rel =>
               go_light
               have X4 := X1.out
               try simp only [Bool.or_eq_false_iff, decide_eq_false_iff_not, Bool.or_eq_true, decide_eq_true_eq] at *
               have e1 : okC x = true := by unfold okC; rw [decide_eq_true_eq]; omega
               rw [hxb.out, e1, Bool.true_and] at H
               exact ⟨by trivial, j + 1, by omega, by go_num, H⟩
             case measure => omega)
      · have hj2 : (s.size : Int) ≤ (j : Int) := by omega
        rw [List.drop_eq_nil_of_le (by rw [← size_len]; omega)] at H
        go_wp2
        go_ret
        refine ⟨rfl, ?_⟩
        rw [← H.out]
        rfl

theorem code_walk (n : Int) (w : World) : 
    Calls Tryd.prog 22 #[.int .i64 n] w fun e w' => w = w' ∧ e = .returned (.bool (codeOk n)) := by
  obtain ⟨T, hT⟩ : ∃ T, codeOk n = T := ⟨_, rfl⟩
  have HT := Lib.hid hT
  rw [hT]; clear hT
  go_enter Tryd.func22, Tryd.ntmps22
  go_wp2
  all_goals
    go_ret
    refine ⟨rfl, ?_⟩
    rw [← HT.out]
    unfold codeOk
    refine congrArg (fun b => Ending.returned (.bool b)) (?_ : _ = _)
    first
    | (rw [decide_eq_decide]; omega)
    | (symm; rw [decide_eq_false_iff_not]; omega)
theorem rcode_walk (n : Int) (w : World) : 
    Calls Tryd.prog 23 #[.int .i64 n] w fun e w' => w = w' ∧ e = .returned (.bool (codeOk n)) := by
  obtain ⟨T, hT⟩ : ∃ T, codeOk n = T := ⟨_, rfl⟩
  have HT := Lib.hid hT
  rw [hT]; clear hT
  go_enter Tryd.func23, Tryd.ntmps23
  go_wp2
  all_goals
    go_ret
    refine ⟨rfl, ?_⟩
    rw [← HT.out]
    unfold codeOk
    refine congrArg (fun b => Ending.returned (.bool b)) (?_ : _ = _)
    first
    | (rw [decide_eq_decide]; omega)
    | (symm; rw [decide_eq_false_iff_not]; omega)
end Go.Proofs.YteicojighhhgjaaDoor
