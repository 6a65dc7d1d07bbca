/-
  The walks of waybillref13's leap, yearDays, monthDays, ahead. No condition but the numbers' bounds.
-/
import Derived.Test.YtdkhoiahmjadnaaGreatDoorDay
import Derived.Test.YtdkhoiahmjadnaaGreatDoorBlk
namespace Go.Proofs.YtdkhoiahmjadnaaGreatDoor
open Go.RowKit Go.Sort
set_option linter.unusedVariables false

theorem leap_walk (y : Int) (w : World) (hy0 : 0 ≤ y) (hy1 : y ≤ 100000) :
    Calls Tryz.prog 40 #[.int .i64 y] w fun e w' => w = w' ∧ e = .returned (.bool (leapB y)) := by
  by_cases h4 : y % 4 = 0
  · have b4 : (y % 4 == 0) = true := beq_iff_eq.2 h4
    by_cases h100 : y % 100 = 0
    · have b100 : (y % 100 != 0) = false := by simp [h100]
      by_cases h400 : y % 400 = 0
      · have b400 : (y % 400 == 0) = true := beq_iff_eq.2 h400
        have e : Hid (leapB y = true) := Lib.hid ((leap_iff y).2 ⟨h4, .inr h400⟩)
        rw [e.out]
        clear h4 h100 h400
        go_enter Tryz.func40, Tryz.ntmps40
        go_wp2
        go_ret
        exact ⟨rfl, rfl⟩
      · have b400 : (y % 400 == 0) = false := beq_eq_false_iff_ne.2 h400
        have e : Hid (leapB y = false) := Lib.hid (by rw [Bool.eq_false_iff]; intro h; have := (leap_iff y).1 h; omega)
        rw [e.out]
        clear h4 h100 h400
        go_enter Tryz.func40, Tryz.ntmps40
        go_wp2
        go_ret
        exact ⟨rfl, rfl⟩
    · have b100 : (y % 100 != 0) = true := bne_iff_ne.2 h100
      have e : Hid (leapB y = true) := Lib.hid ((leap_iff y).2 ⟨h4, .inl h100⟩)
      rw [e.out]
      clear h4 h100
      go_enter Tryz.func40, Tryz.ntmps40
      go_wp2
      go_ret
      exact ⟨rfl, rfl⟩
  · have b4 : (y % 4 == 0) = false := beq_eq_false_iff_ne.2 h4
    have e : Hid (leapB y = false) := Lib.hid (by rw [Bool.eq_false_iff]; intro h; have := (leap_iff y).1 h; omega)
    rw [e.out]
    clear h4
    go_enter Tryz.func40, Tryz.ntmps40
    go_wp2
    go_ret
    exact ⟨rfl, rfl⟩
theorem yearDays_walk (y : Int) (w : World) (hy0 : 0 ≤ y) (hy1 : y ≤ 100000) :
    Calls Tryz.prog 17 #[.int .i64 y] w fun e w' => w = w' ∧ e = .returned (.int .i64 (yd y)) := by
  have H := Lib.hid (leap_walk y w hy0 hy1)
  cases hl : leapB y
  · have e : Hid (yd y = 365) := Lib.hid (by unfold yd; rw [hl]; rfl)
    rw [e.out]
    rw [hl] at H
    clear hl
    go_enter Tryz.func17, Tryz.ntmps17
    go_wp2_with fail
    refine H.out.mono ?_
    rintro e w2 ⟨rfl, rfl⟩
    go_wp2
    go_ret
    exact ⟨rfl, rfl⟩
  · have e : Hid (yd y = 366) := Lib.hid (by unfold yd; rw [hl]; rfl)
    rw [e.out]
    rw [hl] at H
    clear hl
    go_enter Tryz.func17, Tryz.ntmps17
    go_wp2_with fail
    refine H.out.mono ?_
    rintro e w2 ⟨rfl, rfl⟩
    go_wp2
    go_ret
    exact ⟨rfl, rfl⟩
def mCellsD : Array Value := #[.int .i64 31, .int .i64 28, .int .i64 31, .int .i64 30, .int .i64 31, .int .i64 30, .int .i64 31, .int .i64 31, .int .i64 30, .int .i64 31, .int .i64 30, .int .i64 31]
theorem mCells_at {m : Int} (h1 : 1 ≤ m) (h2 : m ≤ 12) : mCellsD[(m - 1).toNat]? = some (.int .i64 (mlen m)) := by
  rcases months h1 h2 with rfl | rfl | rfl | rfl | rfl | rfl | rfl | rfl | rfl | rfl | rfl | rfl <;> rfl
theorem mCells_lst {m : Int} (h1 : 1 ≤ m) (h2 : m ≤ 12) : ([.int .i64 31, .int .i64 28, .int .i64 31, .int .i64 30, .int .i64 31, .int .i64 30, .int .i64 31, .int .i64 31, .int .i64 30, .int .i64 31, .int .i64 30, .int .i64 31] : List Value)[m.toNat - 1]? = some (.int .i64 (mlen m)) := by
  rcases months h1 h2 with rfl | rfl | rfl | rfl | rfl | rfl | rfl | rfl | rfl | rfl | rfl | rfl <;> rfl
theorem monthDays_walk (y m : Int) (w : World) (hy0 : 0 ≤ y) (hy1 : y ≤ 100000) (hm0 : 1 ≤ m) (hm1 : m ≤ 12) :
    Calls Tryz.prog 18 #[.int .i64 y, .int .i64 m] w fun e w' => Below w.heap.size w w' ∧ e = .returned (.int .i64 (md y m)) := by
  have hb : Below w.heap.size w (w.alloc (.cells #[.int .i64 31, .int .i64 28, .int .i64 31, .int .i64 30, .int .i64 31, .int .i64 30, .int .i64 31, .int .i64 31, .int .i64 30, .int .i64 31, .int .i64 30, .int .i64 31] 3)) := (Below.refl _ _).alloc (Nat.le_refl _) _
  have hc := mCells_lst hm0 hm1
  have HB := Lib.hid hb
  have H := Lib.hid (leap_walk y (w.alloc (.cells #[.int .i64 31, .int .i64 28, .int .i64 31, .int .i64 30, .int .i64 31, .int .i64 30, .int .i64 31, .int .i64 31, .int .i64 30, .int .i64 31, .int .i64 30, .int .i64 31] 3)) hy0 hy1)
  clear hb
  by_cases h2 : m = 2
  · subst h2
    cases hl : leapB y
    · have e : Hid (md y 2 = 28) := Lib.hid (by unfold md mlen; rw [hl]; rfl)
      rw [e.out]
      rw [hl] at H
      clear hl
      go_enter Tryz.func18, Tryz.ntmps18
      go_wp2_with (go_at_call 40; refine H.out.mono ?_; rintro e w2 ⟨rfl, rfl⟩)
      go_ret
      exact ⟨HB.out, rfl⟩
    · have e : Hid (md y 2 = 29) := Lib.hid (by unfold md; rw [hl]; rfl)
      rw [e.out]
      rw [hl] at H
      clear hl
      go_enter Tryz.func18, Tryz.ntmps18
      go_wp2_with (go_at_call 40; refine H.out.mono ?_; rintro e w2 ⟨rfl, rfl⟩)
      go_ret
      exact ⟨HB.out, rfl⟩
  · have e : Hid (md y m = mlen m) := Lib.hid (by unfold md; rw [if_neg (fun h => h2 h.1)])
    have b2 : (m == 2) = false := beq_eq_false_iff_ne.2 h2
    rw [e.out]
    clear h2
    go_enter Tryz.func18, Tryz.ntmps18
    go_wp2
    go_ret
    exact ⟨HB.out, rfl⟩
end Go.Proofs.YtdkhoiahmjadnaaGreatDoor
