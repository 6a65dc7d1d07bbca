/-
  The walk of the document's examples. It asks what the library's tables hold.
-/
import Derived.Test.YtdkhoiahmjadnaaGreatDoorShow
import Derived.Test.YtdkhoiahmjadnaaGreatDoorParse
import Derived.Test.YtdkhoiahmjadnaaGreatDoorBack0
import Derived.Test.YtdkhoiahmjadnaaGreatDoorTabsD
namespace Go.Proofs.YtdkhoiahmjadnaaGreatDoor
open Go.RowKit Go.Sort
set_option linter.unusedVariables false

theorem ex_s0 : showL 0 = [84, 104, 117, 44, 32, 49, 32, 74, 97, 110, 32, 49, 57, 55, 48, 32, 48, 48, 58, 48, 48, 58, 48, 48, 32, 43, 48, 48, 48, 48] ∧ dayE 0 = 0 := by decide +kernel
theorem ex_s1 : showL 951782400 = [84, 117, 101, 44, 32, 50, 57, 32, 70, 101, 98, 32, 50, 48, 48, 48, 32, 48, 48, 58, 48, 48, 58, 48, 48, 32, 43, 48, 48, 48, 48] ∧ dayE 951782400 = 0 := by decide +kernel
theorem ex_s2 : showL (-1) = [] ∧ dayE (-1) = 130 := by decide +kernel
theorem ex_p0 : parseP ⟨#[49, 32, 74, 97, 110, 32, 49, 57, 55, 48, 32, 48, 49, 58, 48, 48, 32, 43, 48, 49, 48, 48]⟩ = (0, 0) := by decide +kernel
theorem ex_p1 : parseP ⟨#[116, 104, 117, 44, 32, 48, 49, 32, 106, 97, 110, 32, 49, 57, 55, 48, 32, 48, 48, 58, 48, 48, 58, 48, 53, 32, 103, 109, 116]⟩ = (5, 0) := by decide +kernel
theorem ex_p2 : parseP ⟨#[70, 114, 105, 44, 32, 49, 32, 74, 97, 110, 32, 49, 57, 55, 48, 32, 48, 48, 58, 48, 48, 58, 48, 48, 32, 43, 48, 48, 48, 48]⟩ = (0, 130) := by decide +kernel
theorem ex_p3 : parseP ⟨#[50, 57, 32, 70, 101, 98, 32, 50, 48, 48, 49, 32, 48, 48, 58, 48, 48, 32, 85, 84]⟩ = (0, 130) := by decide +kernel
set_option maxRecDepth 100000 in
set_option maxHeartbeats 2000000 in
theorem shown_walk (w : World) (T : TabsD w) : Calls Tryz.prog 8 #[] w fun e w' => Below w.heap.size w w' ∧ e = .returned (.bool true) := by
  have HS := Lib.hid (fun t w' h0 h1 T' => show_walk t w' h0 h1 T')
  have H0 : Hid (∀ w', TabsD w' → Calls Tryz.prog 13 #[.int .i64 0] w' fun e w2 => Below w'.heap.size w' w2 ∧ e = .returned (.tuple #[.string ⟨#[84, 104, 117, 44, 32, 49, 32, 74, 97, 110, 32, 49, 57, 55, 48, 32, 48, 48, 58, 48, 48, 58, 48, 48, 32, 43, 48, 48, 48, 48]⟩, .int .i64 0])) := Lib.hid fun w' T' => by
    have h := show_walk 0 w' (by omega) (by omega) T'
    rw [ex_s0.1, ex_s0.2] at h
    exact h
  have H1 : Hid (∀ w', TabsD w' → Calls Tryz.prog 13 #[.int .i64 951782400] w' fun e w2 => Below w'.heap.size w' w2 ∧ e = .returned (.tuple #[.string ⟨#[84, 117, 101, 44, 32, 50, 57, 32, 70, 101, 98, 32, 50, 48, 48, 48, 32, 48, 48, 58, 48, 48, 58, 48, 48, 32, 43, 48, 48, 48, 48]⟩, .int .i64 0])) := Lib.hid fun w' T' => by
    have h := show_walk 951782400 w' (by omega) (by omega) T'
    rw [ex_s1.1, ex_s1.2] at h
    exact h
  have H2 : Hid (∀ w', TabsD w' → Calls Tryz.prog 13 #[.int .i64 (-1)] w' fun e w2 => Below w'.heap.size w' w2 ∧ e = .returned (.tuple #[.string ⟨#[]⟩, .int .i64 130])) := Lib.hid fun w' T' => by
    have h := show_walk (-1) w' (by omega) (by omega) T'
    rw [ex_s2.1, ex_s2.2] at h
    exact h
  have K0 : Hid (∀ w', TabsD w' → Calls Tryz.prog 16 #[.string ⟨#[49, 32, 74, 97, 110, 32, 49, 57, 55, 48, 32, 48, 49, 58, 48, 48, 32, 43, 48, 49, 48, 48]⟩] w' fun e w2 => Below w'.heap.size w' w2 ∧ e = .returned (.tuple #[.int .i64 0, .int .i64 0])) := Lib.hid fun w' T' => by
    have h := parse_walk ⟨#[49, 32, 74, 97, 110, 32, 49, 57, 55, 48, 32, 48, 49, 58, 48, 48, 32, 43, 48, 49, 48, 48]⟩ w' T' (by decide)
    rw [ex_p0] at h
    exact h
  have K1 : Hid (∀ w', TabsD w' → Calls Tryz.prog 16 #[.string ⟨#[116, 104, 117, 44, 32, 48, 49, 32, 106, 97, 110, 32, 49, 57, 55, 48, 32, 48, 48, 58, 48, 48, 58, 48, 53, 32, 103, 109, 116]⟩] w' fun e w2 => Below w'.heap.size w' w2 ∧ e = .returned (.tuple #[.int .i64 5, .int .i64 0])) := Lib.hid fun w' T' => by
    have h := parse_walk ⟨#[116, 104, 117, 44, 32, 48, 49, 32, 106, 97, 110, 32, 49, 57, 55, 48, 32, 48, 48, 58, 48, 48, 58, 48, 53, 32, 103, 109, 116]⟩ w' T' (by decide)
    rw [ex_p1] at h
    exact h
  have K2 : Hid (∀ w', TabsD w' → Calls Tryz.prog 16 #[.string ⟨#[70, 114, 105, 44, 32, 49, 32, 74, 97, 110, 32, 49, 57, 55, 48, 32, 48, 48, 58, 48, 48, 58, 48, 48, 32, 43, 48, 48, 48, 48]⟩] w' fun e w2 => Below w'.heap.size w' w2 ∧ e = .returned (.tuple #[.int .i64 0, .int .i64 130])) := Lib.hid fun w' T' => by
    have h := parse_walk ⟨#[70, 114, 105, 44, 32, 49, 32, 74, 97, 110, 32, 49, 57, 55, 48, 32, 48, 48, 58, 48, 48, 58, 48, 48, 32, 43, 48, 48, 48, 48]⟩ w' T' (by decide)
    rw [ex_p2] at h
    exact h
  have K3 : Hid (∀ w', TabsD w' → Calls Tryz.prog 16 #[.string ⟨#[50, 57, 32, 70, 101, 98, 32, 50, 48, 48, 49, 32, 48, 48, 58, 48, 48, 32, 85, 84]⟩] w' fun e w2 => Below w'.heap.size w' w2 ∧ e = .returned (.tuple #[.int .i64 0, .int .i64 130])) := Lib.hid fun w' T' => by
    have h := parse_walk ⟨#[50, 57, 32, 70, 101, 98, 32, 50, 48, 48, 49, 32, 48, 48, 58, 48, 48, 32, 85, 84]⟩ w' T' (by decide)
    rw [ex_p3] at h
    exact h
  have TT : Hid (∀ w', Below w.heap.size w w' → TabsD w') := Lib.hid fun w' hb => T.keep hb
  clear T HS
  have B := Lib.hid (Below.refl w.heap.size w)
  go_enter Tryz.func8, Tryz.ntmps8
  go_wp2_with fail
  refine (H0.out _ (TT.out _ B.out)).mono ?_
  rintro e w2 ⟨hb, rfl⟩
  have B := Lib.hid (B.out.trans (hb.mono B.out.size))
  clear hb
  go_wp2_with fail
  refine (H1.out _ (TT.out _ B.out)).mono ?_
  rintro e w2 ⟨hb, rfl⟩
  have B := Lib.hid (B.out.trans (hb.mono B.out.size))
  clear hb
  go_wp2_with fail
  refine (H2.out _ (TT.out _ B.out)).mono ?_
  rintro e w2 ⟨hb, rfl⟩
  have B := Lib.hid (B.out.trans (hb.mono B.out.size))
  clear hb
  go_wp2_with fail
  refine (K0.out _ (TT.out _ B.out)).mono ?_
  rintro e w2 ⟨hb, rfl⟩
  have B := Lib.hid (B.out.trans (hb.mono B.out.size))
  clear hb
  go_wp2_with fail
  refine (K1.out _ (TT.out _ B.out)).mono ?_
  rintro e w2 ⟨hb, rfl⟩
  have B := Lib.hid (B.out.trans (hb.mono B.out.size))
  clear hb
  go_wp2_with fail
  refine (K2.out _ (TT.out _ B.out)).mono ?_
  rintro e w2 ⟨hb, rfl⟩
  have B := Lib.hid (B.out.trans (hb.mono B.out.size))
  clear hb
  go_wp2_with fail
  refine (K3.out _ (TT.out _ B.out)).mono ?_
  rintro e w2 ⟨hb, rfl⟩
  have B := Lib.hid (B.out.trans (hb.mono B.out.size))
  clear hb
  clear H0 H1 H2 K0 K1 K2 K3 TT
  go_wp2
  go_ret
  exact ⟨B.out, rfl⟩
end Go.Proofs.YtdkhoiahmjadnaaGreatDoor
