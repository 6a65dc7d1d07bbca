/-
  The walks of marked, addressed, isMark, isAddr. No condition but the sizes that the form gives.
-/
import Derived.Test.YtfnhaddgdfkmcaaDoorProg
import Derived.Test.YtfnhaddgdfkmcaaDoorLib
import Derived.Test.YtfnhaddgdfkmcaaDoorShelf
import Derived.Test.YtfnhaddgdfkmcaaDoorStrs
import Derived.Laws.RangeAny
import Derived.Lib.Strings
import Derived.Lib.IndexLaws
import Derived.PlainAid
namespace Go.Proofs.YtfnhaddgdfkmcaaDoor
open Go.RowKit Go.Sort
set_option linter.unusedVariables false

/-- is a byte a mark? -/
def markOk (z : Int) : Bool := decide (z = 80 ∨ z = 68 ∨ z = 66 ∨ z = 88)
def chOk (c : UInt8) : Bool := decide (32 ≤ (c.toNat : Int) ∧ (c.toNat : Int) ≤ 126)
/-- is a text an address? -/
def addrOk (l : List UInt8) : Bool := decide (1 ≤ l.length ∧ l.length ≤ 320) && l.all chOk

theorem idx_mark {z : Int} (h0 : 0 ≤ z) (h1 : z ≤ 255) : decide (0 ≤ Lib.indexByte [80, 68, 66, 88] z.toNat.toUInt8) = markOk z := by
  obtain ⟨n, rfl⟩ := Int.eq_ofNat_of_zero_le h0
  have hn : n < 256 := by omega
  have := (show ∀ k : Fin 256, decide (0 ≤ Lib.indexByte [80, 68, 66, 88] ((k.val : Int).toNat.toUInt8)) = markOk (k.val : Int) by decide +kernel) ⟨n, hn⟩
  exact this
theorem marked_walk (z : Int) (w : World) (h0 : 0 ≤ z) (h1 : z ≤ 255) :
    Calls Tryd.prog 28 #[.int .u8 z] w fun e w' => w = w' ∧ e = .returned (.bool (markOk z)) := by
  have hix := Tryd.strings_IndexByte ⟨#[80, 68, 66, 88]⟩ z w
  rw [show (⟨#[80, 68, 66, 88]⟩ : ByteArray).data.toList = [80, 68, 66, 88] from rfl] at hix
  have HM := Lib.hid (idx_mark h0 h1)
  have HIX := Lib.hid hix
  clear hix
  refine on_ne z 0 (fun X1 X2 => ?_) (fun X1 X2 => ?_) <;> obtain ⟨X3, X5⟩ := X2.out <;> clear X2
  · have h : markOk z = false := by rw [X1.out]; decide
    rw [h]
    clear h HM
    go_enter Tryd.func28, Tryd.ntmps28
    go_wp2
    all_goals
      go_ret
      exact ⟨rfl, rfl⟩
  · rw [← HM.out]
    clear HM
    go_enter Tryd.func28, Tryd.ntmps28
    go_wp2_with fail
    refine HIX.out.mono ?_
    rintro e w' ⟨rfl, rfl⟩
    go_wp2
    all_goals
      go_ret
      exact ⟨rfl, rfl⟩
theorem isMark_walk (z : Int) (w : World) :
    Calls Tryd.prog 30 #[.int .u8 z] w fun e w' => w = w' ∧ e = .returned (.bool (markOk z)) := by
  have fin : ∀ b, ((z = 80 ∨ z = 68 ∨ z = 66 ∨ z = 88) ↔ b = true) → Ending.returned (.bool b) = .returned (.bool (markOk z)) := fun b h => by
    unfold markOk
    cases b
    · rw [decide_eq_false (fun e => by have := h.1 e; cases this)]
    · rw [decide_eq_true (h.2 rfl)]
  have FIN := Lib.hid fin
  clear fin
  refine on_ne z 80 (fun X1 X2 => ?_) (fun X1 X2 => ?_) <;> obtain ⟨X3, X5⟩ := X2.out <;> clear X2
  · go_enter Tryd.func30, Tryd.ntmps30
    go_wp2
    go_ret
    exact ⟨rfl, FIN.out _ (by simp [X1.out])⟩
  · refine on_ne z 68 (fun Y1 Y2 => ?_) (fun Y1 Y2 => ?_) <;> obtain ⟨Y3, Y5⟩ := Y2.out <;> clear Y2
    · go_enter Tryd.func30, Tryd.ntmps30
      go_wp2
      go_ret
      exact ⟨rfl, FIN.out _ (by simp [Y1.out])⟩
    · refine on_ne z 66 (fun Z1 Z2 => ?_) (fun Z1 Z2 => ?_) <;> obtain ⟨Z3, Z5⟩ := Z2.out <;> clear Z2
      · go_enter Tryd.func30, Tryd.ntmps30
        go_wp2
        go_ret
        exact ⟨rfl, FIN.out _ (by simp [Z1.out])⟩
      · refine on_ne z 88 (fun V1 V2 => ?_) (fun V1 V2 => ?_) <;> obtain ⟨V3, V5⟩ := V2.out <;> clear V2
        · go_enter Tryd.func30, Tryd.ntmps30
          go_wp2
          go_ret
          exact ⟨rfl, FIN.out _ (by simp [V1.out])⟩
        · go_enter Tryd.func30, Tryd.ntmps30
          go_wp2
          go_ret
          exact ⟨rfl, FIN.out _ (by have := X1.out; have := Y1.out; have := Z1.out; have := V1.out; simp; omega)⟩
theorem get_list (s : ByteArray) (j : Nat) (h : j < s.size) : ((s[j]'h).toNat : Int) = bt s.data.toList j := by
  rw [bt_getElem (by rw [← size_len]; exact h)]; rfl

set_option maxHeartbeats 1000000 in
theorem isAddr_walk (s : ByteArray) (w : World) (hs : s.size ≤ maxLen) :
    Calls Tryd.prog 29 #[.string s] w fun e w' => w = w' ∧ e = .returned (.bool (addrOk s.data.toList)) := by
  unfold maxLen at hs
  have hE : addrOk s.data.toList = if s.size < 1 ∨ 320 < s.size then false else s.data.toList.all chOk := by
    unfold addrOk
    rw [← size_len]
    split
    · rw [decide_eq_false (by omega), Bool.false_and]
    · rw [decide_eq_true (by omega), Bool.true_and]
  by_cases h1 : s.size < 1
  · rw [hE, if_pos (.inl h1)]
    have h5' : (s.size : Int) < 1 := by omega
    clear hE
    go_enter Tryd.func29, Tryd.ntmps29
    go_wp2
    all_goals
      go_ret
      exact ⟨rfl, rfl⟩
  by_cases h3 : 320 < s.size
  · rw [hE, if_pos (.inr h3)]
    have h5' : (320 : Int) < (s.size : Int) := by omega
    clear hE
    go_enter Tryd.func29, Tryd.ntmps29
    go_wp2
    all_goals
      go_ret
      exact ⟨rfl, rfl⟩
  · rw [hE, if_neg (by omega)]
    have h5' : (s.size : Int) ≤ 320 := by omega
    have h6' : (1 : Int) ≤ (s.size : Int) := by omega
    clear hE h1 h3
    obtain ⟨T, hT⟩ : ∃ T, s.data.toList.all chOk = T := ⟨_, rfl⟩
    have HT := Lib.hid hT
    rw [hT]; clear hT
    go_enter Tryd.func29, Tryd.ntmps29
    go_wp2
    go_loopg [3] s.size (fun k i wr => w = wr ∧ ∃ (j : Nat), j + k = s.size ∧ i = .int .i64 j ∧ Hid ((s.data.toList.drop j).all chOk = T))
    case atStart => exact ⟨rfl, 0, by omega, rfl, HT⟩
    case round =>
      obtain ⟨rfl, j, hj, rfl, H⟩ := hrel
      by_cases hlt : j < s.size
      · obtain ⟨c, hc1, hc2⟩ := drop_bt (l := s.data.toList) (j := j) (by rw [← size_len]; exact hlt)
        have hg := get_list s j hlt
        have hb0 := bt_lo s.data.toList j
        have hb1 := bt_hi s.data.toList j
        rw [hc1, List.all_cons] at H
        have hxb : Hid (chOk c = decide (32 ≤ bt s.data.toList j ∧ bt s.data.toList j ≤ 126)) := Lib.hid (by unfold chOk; rw [hc2])
        have hj2 : (j : Int) < (s.size : Int) := by omega
        clear hc1 hc2
        generalize bt s.data.toList j = x at *
        go_wp2
        all_goals first
          | (go_ret
             refine ⟨rfl, ?_⟩
             go_light
             have e1 : chOk c = false := by rw [hxb.out, decide_eq_false_iff_not]; (try simp only [decide_eq_true_eq, decide_eq_false_iff_not] at *); omega
             rw [← H.out, e1]
             rfl)
          | (go_roundg (gk - 1)
             case rel =>
               go_light
               have e1 : chOk c = true := by rw [hxb.out, decide_eq_true_eq]; (try simp only [decide_eq_true_eq, decide_eq_false_iff_not] at *); omega
               rw [e1, Bool.true_and] at H
               exact ⟨by trivial, j + 1, by omega, by go_num, H⟩
             case measure => omega)
      · have hj2 : (s.size : Int) ≤ (j : Int) := by omega
        rw [List.drop_eq_nil_of_le (by rw [← size_len]; omega)] at H
        go_wp2
        go_ret
        refine ⟨rfl, ?_⟩
        rw [← H.out]
        rfl
end Go.Proofs.YtfnhaddgdfkmcaaDoor
