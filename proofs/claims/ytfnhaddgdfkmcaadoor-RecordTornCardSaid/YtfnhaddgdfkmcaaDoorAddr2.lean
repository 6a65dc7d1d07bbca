/-
  The walk of addressed. No condition but the sizes that the form gives.
-/
import Derived.Test.YtfnhaddgdfkmcaaDoorAddr
import Derived.Test.YtfnhaddgdfkmcaaDoorBlk
import Derived.Outline
namespace Go.Proofs.YtfnhaddgdfkmcaaDoor
open Go.RowKit Go.Sort
set_option linter.unusedVariables false

theorem odd_yes (r : Int) (h : r < 32 ∨ 126 < r) (w : World) : Calls Tryd.prog 50 #[.int .i32 r] w fun e w' => w = w' ∧ e = .returned (.bool true) := by
  by_cases h1 : r < 32
  · go_enter Tryd.func50, Tryd.ntmps50
    go_wp2
    all_goals
      go_ret
      exact ⟨rfl, rfl⟩
  · have h2 : 126 < r := by omega
    have h3 : 32 ≤ r := by omega
    clear h
    go_enter Tryd.func50, Tryd.ntmps50
    go_wp2
    all_goals
      go_ret
      exact ⟨rfl, by simp [h1, h2]⟩
theorem odd_no (r : Int) (h1 : 32 ≤ r) (h2 : r ≤ 126) (w : World) : Calls Tryd.prog 50 #[.int .i32 r] w fun e w' => w = w' ∧ e = .returned (.bool false) := by
  have h3 : ¬ r < 32 := by omega
  have h4 : ¬ 126 < r := by omega
  go_enter Tryd.func50, Tryd.ntmps50
  go_wp2
  all_goals
    go_ret
    exact ⟨rfl, by simp [h3, h4]⟩
/-- what the search answers -/
def IdxAns (b : Bool) (e : Ending) : Prop := ∃ z : Int, e = .returned (.int .i64 z) ∧ (b = true → z = -1) ∧ (b = false → 0 ≤ z)
theorem idx_no {b : Bool} (h : b = false) {z : Int} (hz : 0 ≤ z) : IdxAns b (.returned (.int .i64 z)) := ⟨z, rfl, (fun e => by rw [h] at e; cases e), fun _ => hz⟩
theorem idx_yes {b : Bool} (h : b = true) : IdxAns b (.returned (.int .i64 (-1))) := ⟨-1, rfl, (fun _ => rfl), (fun e => by rw [h] at e; cases e)⟩
set_option maxHeartbeats 1000000 in
theorem indexFunc_walk (s : ByteArray) (w : World) (hs : s.size ≤ maxLen) :
    Calls Tryd.prog 63 #[.string s, .func (.func 50) #[] #[], .bool true] w fun e w' => Below w.heap.size w w' ∧ IdxAns (s.data.toList.all chOk) e := by
  unfold maxLen at hs
  obtain ⟨T, hT⟩ : ∃ T, s.data.toList.all chOk = T := ⟨_, rfl⟩
  have HT := Lib.hid hT
  rw [hT]; clear hT
  go_enter Tryd.func63, Tryd.ntmps63
  go_wp2
  go_loopg [7] s.size (fun k _ wr => ∃ (j : Nat), j + k = s.size ∧ w.iter s j = wr ∧ Hid ((s.data.toList.drop j).all chOk = T))
  case atStart => exact ⟨0, by omega, rfl, HT⟩
  case round =>
    obtain ⟨j, hj, rfl, H⟩ := hrel
    have hbl : Below w.heap.size w (w.iter s j) := (Below.refl _ _).alloc (Nat.le_refl _) _
    by_cases hlt : j < s.size
    · obtain ⟨c, hc1, hc2⟩ := drop_bt (l := s.data.toList) (j := j) (by rw [← size_len]; exact hlt)
      have hg := get_list s j hlt
      have hb0 := bt_lo s.data.toList j
      have hb1 := bt_hi s.data.toList j
      rw [hc1, List.all_cons] at H
      by_cases ha : (s[j]'hlt).toNat < 128
      · have hn := run_next_ascii (P := Tryd.prog) w s j 0 hlt ha
        rw [hg] at hn
        have hxb : Hid (chOk c = decide (32 ≤ bt s.data.toList j ∧ bt s.data.toList j ≤ 126)) := Lib.hid (by unfold chOk; rw [hc2])
        have hx7 : bt s.data.toList j < 128 := by omega
        clear hc1 hc2 ha hg
        generalize bt s.data.toList j = x at *
        by_cases hx : 32 ≤ x ∧ x ≤ 126
        · have e1 : Hid ((s.data.toList.drop (j + 1)).all chOk = T) := Lib.hid (by rw [← H.out, hxb.out, decide_eq_true hx, Bool.true_and])
          obtain ⟨hx1, hx2⟩ := hx
          clear H hxb
          go_wp2_with (go_at_call 50; refine (odd_no x hx1 hx2 _).mono ?_; rintro e w' ⟨rfl, rfl⟩)
          go_roundg (gk - 1)
          case rel => exact ⟨j + 1, by omega, rfl, e1⟩
          case measure => omega
        · have e1 : Hid (T = false) := Lib.hid (by rw [← H.out, hxb.out, decide_eq_false hx, Bool.false_and])
          have hx' : x < 32 ∨ 126 < x := by omega
          have HX := Lib.hid hx'
          clear H hxb hx hx'
          go_wp2_with (go_at_call 50; refine (odd_yes x HX.out _).mono ?_; rintro e w' ⟨rfl, rfl⟩)
          go_ret
          exact ⟨(Below.refl _ _).alloc (Nat.le_refl _) _, idx_no e1.out (by omega)⟩
      · have hn := run_next_any (P := Tryd.prog) w s j 0 hlt
        have hh := decode_high s j hlt (Nat.le_of_not_lt ha)
        have hh2 := decode_le s j
        have h128 := Nat.le_of_not_lt ha
        have e1 : Hid (T = false) := Lib.hid (by
          have : chOk c = false := by unfold chOk; rw [decide_eq_false_iff_not, hc2, ← hg]; omega
          rw [← H.out, this, Bool.false_and])
        obtain ⟨r, hr⟩ : ∃ r : Int, ((Utf8.decode s j).1 : Int) = r := ⟨_, rfl⟩
        have hr1 : 128 ≤ r := by have := hh.1; omega
        have hr3 : r ≤ 2147483647 := by omega
        rw [hr] at hn
        generalize (Utf8.decode s j).2 = n at *
        clear hc1 hc2 ha hg hb0 hb1 h128 hh hh2 hr H
        go_wp2_with (go_at_call 50; refine (odd_yes r (by omega) _).mono ?_; rintro e w' ⟨rfl, rfl⟩)
        go_ret
        exact ⟨(Below.refl _ _).alloc (Nat.le_refl _) _, idx_no e1.out (by omega)⟩
    · have hn := run_next_end (P := Tryd.prog) w s j 0 hlt
      rw [List.drop_eq_nil_of_le (by rw [← size_len]; omega)] at H
      clear hlt
      go_wp2
      go_ret
      exact ⟨(Below.refl _ _).alloc (Nat.le_refl _) _, idx_yes (by rw [← H.out]; rfl)⟩
theorem indexFunc2_walk (s : ByteArray) (w : World) (hs : s.size ≤ maxLen) :
    Calls Tryd.prog 51 #[.string s, .func (.func 50) #[] #[]] w fun e w' => Below w.heap.size w w' ∧ IdxAns (s.data.toList.all chOk) e := by
  have H := Lib.hid (indexFunc_walk s w hs)
  go_enter Tryd.func51, Tryd.ntmps51
  go_wp2_with fail
  refine H.out.mono ?_
  rintro e w' ⟨hb, z, rfl, h1, h2⟩
  have HZ : Hid (IdxAns (s.data.toList.all chOk) (.returned (.int .i64 z))) := Lib.hid ⟨z, rfl, h1, h2⟩
  clear h1 h2
  go_wp2
  go_ret
  exact ⟨hb, HZ.out⟩
set_option maxHeartbeats 1000000 in
theorem addressed_walk (s : ByteArray) (w : World) (hs : s.size ≤ maxLen) :
    Calls Tryd.prog 27 #[.string s] w fun e w' => Below w.heap.size w w' ∧ e = .returned (.bool (addrOk s.data.toList)) := by
  have HI := Lib.hid (indexFunc2_walk s w hs)
  unfold maxLen at hs
  have hE : addrOk s.data.toList = (decide (1 ≤ s.size ∧ s.size ≤ 320) && s.data.toList.all chOk) := by unfold addrOk; rw [size_len]
  rw [hE]
  clear hE
  by_cases h0 : s = ⟨#[]⟩
  · subst h0
    go_enter Tryd.func27, Tryd.ntmps27
    go_wp2
    all_goals
      go_ret
      exact ⟨Below.refl _ _, rfl⟩
  · have h1 : s.toList.isEmpty = false := by
      rw [ByteArray.toList_eq]
      cases hl : s.data.toList with
      | nil => exact absurd (str_eq hl) h0
      | cons _ _ => rfl
    have hz : 1 ≤ s.size := by
      rcases Nat.eq_zero_or_pos s.size with h | h
      · rw [size_len] at h
        exact absurd (str_eq (List.eq_nil_of_length_eq_zero h)) h0
      · exact h
    clear h0
    by_cases h3 : s.size ≤ 320
    · rw [decide_eq_true ⟨hz, h3⟩, Bool.true_and]
      have h3' : (s.size : Int) ≤ 320 := by omega
      generalize s.data.toList.all chOk = b at *
      go_enter Tryd.func27, Tryd.ntmps27
      go_wp2_with fail
      refine HI.out.mono ?_
      rintro e w' ⟨hb, z, rfl, h4, h5⟩
      cases b
      · have hz0 := h5 rfl
        clear h4 h5
        go_wp2
        all_goals
          go_ret
          exact ⟨hb, by simp; try omega⟩
      · obtain rfl := h4 rfl
        clear h4 h5
        go_wp2
        all_goals
          go_ret
          exact ⟨hb, rfl⟩
    · rw [decide_eq_false (by omega), Bool.false_and]
      have h3' : (320 : Int) < (s.size : Int) := by omega
      go_enter Tryd.func27, Tryd.ntmps27
      go_wp2
      all_goals
        go_ret
        exact ⟨Below.refl _ _, by first | rfl | (simp; omega)⟩
end Go.Proofs.YtfnhaddgdfkmcaaDoor
