/-
  The walk of date's named, and of clock. Conditions: a text's length, and what the library's tables hold.
-/
import Derived.Test.YtdkhoiahmjadnaaGreatDoorNum
import Derived.Test.YtdkhoiahmjadnaaGreatDoorOwn
namespace Go.Proofs.YtdkhoiahmjadnaaGreatDoor
open Go.RowKit Go.Sort
set_option linter.unusedVariables false

/-- which of some names a text is, counted from i on; -1: none -/
def namF (y : ByteArray) : List ByteArray → Int → Int
  | [], _ => -1
  | x :: t, i => if x = y then i else namF y t (i + 1)
def namP (L : List ByteArray) (s : ByteArray) : Int := namF (lowerP s) L 0
theorem named_walk (L : List ByteArray) (c : Nat) (A : Option Addr) (s : ByteArray) (w : World) (hL : L.length ≤ 1000) (h : RS w w.heap.size A L) (hs : s.size < 35184372088832) (T : TabsD w) :
    Calls Tryz.prog 34 #[.slice A L.length c, .string s] w fun e w' => Below w.heap.size w w' ∧ e = .returned (.int .i64 (namP L s)) := by
  have HL := Lib.hid (fun w' T' => lower_walk s hs w' T')
  have TT : Hid (∀ w', Below w.heap.size w w' → TabsD w') := Lib.hid fun w' hb => T.keep hb
  have hR : namP L s = namF (lowerP s) L 0 := rfl
  generalize hF : namP L s = F at *
  generalize lowerP s = y at *
  have HF := Lib.hid hR
  clear hR hF T
  go_enter Tryz.func34, Tryz.ntmps34
  go_wp2
  go_loopg [9] L.length (fun k i wr => Below w.heap.size w wr ∧ ∃ (j : Nat), j + k = L.length ∧ i = .int .i64 j ∧ Hid (F = namF y (L.drop j) j))
  case atStart => exact ⟨Below.refl _ _, 0, by omega, rfl, HF⟩
  case round =>
    obtain ⟨hb, j, hj, rfl, H⟩ := hrel
    by_cases hlt : j < L.length
    · obtain ⟨b, off, rfl, hB, hcell⟩ := (h.below hb).at_ hlt
      have cj := hcell j hlt
      rw [drop_st hlt] at H
      have hj2 : (j : Int) < (L.length : Int) := by omega
      clear hcell
      generalize st L j = x at *
      have HB := Lib.hid hb
      clear hb h
      by_cases hxy : x = y
      · subst hxy
        go_wp2_with fail
        refine (HL.out _ (TT.out _ HB.out)).mono ?_
        rintro e w2 ⟨hb2, rfl⟩
        go_wp2
        go_ret
        refine ⟨HB.out.trans (hb2.mono HB.out.size), ?_⟩
        have e : namF x (x :: L.drop (j + 1)) (j : Int) = (j : Int) := if_pos rfl
        rw [H.out, e]
        rfl
      · have hq := str_ne hxy
        have e : Hid (namF y (x :: L.drop (j + 1)) (j : Int) = namF y (L.drop (j + 1)) ((j : Int) + 1)) := Lib.hid (if_neg hxy)
        clear hxy
        go_wp2_with fail
        refine (HL.out _ (TT.out _ HB.out)).mono ?_
        rintro e w2 ⟨hb2, rfl⟩
        go_wp2
        go_roundg (gk - 1)
        case rel => exact ⟨HB.out.trans (hb2.mono HB.out.size), j + 1, by omega, by go_num, Lib.hid (by rw [H.out, e.out]; rfl)⟩
        case measure => omega
    · have hj2 : ¬ (j : Int) < (L.length : Int) := by omega
      have hjl : j = L.length := by omega
      have HB := Lib.hid hb
      clear hb h
      have e : F = -1 := by rw [H.out, hjl, List.drop_length]; rfl
      have he := Lib.hid e
      clear e hjl
      go_wp2
      go_ret
      exact ⟨HB.out, by rw [he.out]; rfl⟩
end Go.Proofs.YtdkhoiahmjadnaaGreatDoor
