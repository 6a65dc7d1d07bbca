/-
  The walk of the statement DateParses. Conditions: the text's length, and what the library's tables hold.
-/
import Derived.Test.YtdkhoiahmjadnaaGreatDoorShown
import Derived.Test.YtdkhoiahmjadnaaGreatDoorRParse
namespace Go.Proofs.YtdkhoiahmjadnaaGreatDoor
open Go.RowKit Go.Sort
set_option linter.unusedVariables false

set_option maxRecDepth 100000 in
set_option maxHeartbeats 2000000 in
theorem parses_walk (s : ByteArray) (w : World) (hs : s.size < 4294967281) (T : TabsD w) :
    Calls Tryz.prog 4 #[.string s] w fun e w' => Below w.heap.size w w' ∧ e = .returned (.bool true) := by
  have HS := Lib.hid (fun w' T' => shown_walk w' T')
  have HR := Lib.hid (fun w' => rparse_walk s w' hs)
  have HP := Lib.hid (fun w' T' => parse_walk s w' T' hs)
  generalize parseP s = F at *
  obtain ⟨F1, F2⟩ := F
  have TT : Hid (∀ w', Below w.heap.size w w' → TabsD w') := Lib.hid fun w' hb => T.keep hb
  have B := Lib.hid (Below.refl w.heap.size w)
  clear T
  go_enter Tryz.func4, Tryz.ntmps4
  go_wp2_with fail
  refine (HS.out _ (TT.out _ B.out)).mono ?_
  rintro e w2 ⟨hb, rfl⟩
  have B := Lib.hid (B.out.trans (hb.mono B.out.size))
  clear hb
  go_wp2_with fail
  refine (HR.out _).mono ?_
  rintro e w3 ⟨hb, rfl⟩
  have B := Lib.hid (B.out.trans (hb.mono B.out.size))
  clear hb
  go_wp2_with fail
  refine (HP.out _ (TT.out _ B.out)).mono ?_
  rintro e w4 ⟨hb, rfl⟩
  have B := Lib.hid (B.out.trans (hb.mono B.out.size))
  clear hb
  go_wp2
  go_ret
  exact ⟨B.out, by simp⟩
end Go.Proofs.YtdkhoiahmjadnaaGreatDoor
