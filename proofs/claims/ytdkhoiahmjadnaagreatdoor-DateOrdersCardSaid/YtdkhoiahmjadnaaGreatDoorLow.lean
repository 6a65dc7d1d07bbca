/-
  The walks of date's lower (whatever bytes, valid or not) and of its closure, and of the one that Parse hands to FieldsFunc. Conditions: a text's length, and what the library's tables hold.
-/
import Derived.Test.YtdkhoiahmjadnaaGreatDoorPad
namespace Go.Proofs.YtdkhoiahmjadnaaGreatDoor
open Go.RowKit Go.Sort
set_option linter.unusedVariables false

def lowF (x : Int) : Int := if 65 ≤ x ∧ x ≤ 90 then x + 32 else x
/-- a text with a to z in the place of A to Z -/
def lowerP (s : ByteArray) : ByteArray := ⟨(Lib.mapD lowF s.data.toList).toArray⟩
theorem low1_walk (x : Nat) (hx : x ≤ 1114111) (w : World) : Calls Tryz.prog 64 #[.int .i32 (x : Int)] w fun e w' => w = w' ∧ e = .returned (.int .i32 (lowF x)) := by
  by_cases h1 : 65 ≤ x
  · by_cases h2 : x ≤ 90
    · have he : Hid (lowF (x : Int) = (x : Int) + 32) := Lib.hid (if_pos (by omega))
      have i1 : (65 : Int) ≤ (x : Int) := by omega
      have i2 : (x : Int) ≤ 90 := by omega
      have i3 : IntKind.i32.wrap ((x : Int) + 32) = (x : Int) + 32 := by rw [IntKind.wrap_i32]; omega
      go_enter Tryz.func64, Tryz.ntmps64
      go_wp2
      go_ret
      exact ⟨rfl, by rw [he.out]; rfl⟩
    · have he : Hid (lowF (x : Int) = (x : Int)) := Lib.hid (if_neg (by omega))
      have i1 : (65 : Int) ≤ (x : Int) := by omega
      have i2 : ¬ (x : Int) ≤ 90 := by omega
      go_enter Tryz.func64, Tryz.ntmps64
      go_wp2
      go_ret
      exact ⟨rfl, by rw [he.out]; rfl⟩
  · have he : Hid (lowF (x : Int) = (x : Int)) := Lib.hid (if_neg (by omega))
    have i1 : ¬ (65 : Int) ≤ (x : Int) := by omega
    go_enter Tryz.func64, Tryz.ntmps64
    go_wp2
    go_ret
    exact ⟨rfl, by rw [he.out]; rfl⟩
theorem low_map (w : World) : MapAtRunes Tryz.prog 64 #[] lowF w := fun W x hx _ =>
  (low1_walk x hx W).mono fun _ _ ⟨h, he⟩ => ⟨he, 0, h ▸ rfl⟩
theorem low_nn (x : Nat) (hx : x ≤ 1114111) : 0 ≤ lowF x ∧ lowF x ≤ 2147483647 := by unfold lowF; split <;> omega
theorem lower_walk (s : ByteArray) (hs : s.size < 35184372088832) (w : World) (T : TabsD w) : Calls Tryz.prog 47 #[.string s] w fun e w' => Below w.heap.size w w' ∧ e = .returned (.string (lowerP s)) := by
  have HM := Lib.hid (Tryz.strings_Map_runes 64 #[] (enters_of Tryz.func64 (by kernel_rfl) rfl) lowF s w hs (low_map w) low_nn T.u8)
  go_enter Tryz.func47, Tryz.ntmps47
  go_wp2_with fail
  refine HM.out.mono ?_
  rintro e w2 ⟨rfl, hb⟩
  go_wp2
  go_ret
  exact ⟨hb, rfl⟩
def isSp (x : Nat) : Bool := x == 32
theorem sp1_walk (x : Nat) (w : World) : Calls Tryz.prog 32 #[.int .i32 (x : Int)] w fun e w' => w = w' ∧ e = .returned (.bool (isSp x)) := by
  have he : Hid (((x : Int) == 32) = isSp x) := Lib.hid (by unfold isSp; rw [Bool.eq_iff_iff]; simp; omega)
  go_enter Tryz.func32, Tryz.ntmps32
  go_wp2
  go_ret
  exact ⟨rfl, by rw [← he.out]; rfl⟩
theorem sp_pred (w : World) : PredAtRunes Tryz.prog 32 #[] isSp w := fun W x _ _ =>
  (sp1_walk x W).mono fun _ _ ⟨h, he⟩ => ⟨he, 0, h ▸ rfl⟩
end Go.Proofs.YtdkhoiahmjadnaaGreatDoor
