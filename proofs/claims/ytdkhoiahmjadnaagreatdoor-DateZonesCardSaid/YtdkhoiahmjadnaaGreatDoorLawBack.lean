/-
  The walk of the statement DateBack. It asks what the library's tables hold.
-/
import Derived.Test.YtdkhoiahmjadnaaGreatDoorShown
namespace Go.Proofs.YtdkhoiahmjadnaaGreatDoor
open Go.RowKit Go.Sort
set_option linter.unusedVariables false

theorem sh_len {t : Int} {di d mo y h mi s : Nat} (P : Parts t di d mo y h mi s) (zh zm : Nat) : (joinW (shW di d mo y h mi s zh zm)).length ≤ 60 := by
  have c1 : (capD.getD di []).length ≤ 3 := (cap_len P.hdi P.hm0 P.hm1).1 ▸ Nat.le_of_eq (by rw [Lib.size_eq])
  have c2 : (capM.getD (mo - 1) []).length ≤ 3 := (cap_len P.hdi P.hm0 P.hm1).2 ▸ Nat.le_of_eq (by rw [Lib.size_eq])
  have c3 : (Lib.decDigits d).length ≤ 2 := by
    have := dec_sz (d := d) (by have := P.hd1; omega)
    rw [Lib.size_eq] at this
    exact this
  simp only [joinW, shW, zoneW, dig2, dig4, timB, List.length_append, List.length_cons, List.length_nil]
  omega
theorem back_shown {t : Int} (h0 : 0 ≤ t) (h1 : t ≤ 253402300799) : parseP ⟨(showL t).toArray⟩ = (t, 0) ∧ (⟨(showL t).toArray⟩ : ByteArray).size < 4294967281 := by
  obtain ⟨di, d, mo, y, h, mi, s, P⟩ := parts_of h0 h1
  rw [P.show_ h0 h1, shB_words]
  refine ⟨?_, ?_⟩
  · have := parse_shown P h0 h1 (zh := 0) (zm := 0) (by omega) (by omega) (by omega)
    rw [this]
    congr 1
    omega
  · have := sh_len P 0 0
    rw [Lib.size_eq]
    simp only [List.toList_toArray]
    omega
set_option maxRecDepth 100000 in
set_option maxHeartbeats 2000000 in
theorem back_walk (t : Int) (w : World) (hb : -9223372036854775808 ≤ t ∧ t ≤ 9223372036854775807) (T : TabsD w) :
    Calls Tryz.prog 5 #[.int .i64 t] w fun e w' => Below w.heap.size w w' ∧ e = .returned (.bool true) := by
  have HS := Lib.hid (fun w' T' => shown_walk w' T')
  have HW := Lib.hid (fun w' T' => show_walk t w' hb.1 hb.2 T')
  have TT : Hid (∀ w', Below w.heap.size w w' → TabsD w') := Lib.hid fun w' hb => T.keep hb
  have B := Lib.hid (Below.refl w.heap.size w)
  clear T
  by_cases hr : 0 ≤ t ∧ t ≤ 253402300799
  · obtain ⟨h0, h1⟩ := hr
    obtain ⟨hp, hsz⟩ := back_shown h0 h1
    rw [dayE_ok h0 h1] at HW
    generalize (⟨(showL t).toArray⟩ : ByteArray) = S at *
    have HP : Hid (∀ w', TabsD w' → Calls Tryz.prog 16 #[.string S] w' fun e w2 => Below w'.heap.size w' w2 ∧ e = .returned (.tuple #[.int .i64 t, .int .i64 0])) := Lib.hid fun w' T' => by
      have h := parse_walk S w' T' hsz
      rw [hp] at h
      exact h
    clear hp
    go_enter Tryz.func5, Tryz.ntmps5
    go_wp2_with fail
    refine (HS.out _ (TT.out _ B.out)).mono ?_
    rintro e w2 ⟨hb, rfl⟩
    have B := Lib.hid (B.out.trans (hb.mono B.out.size))
    clear hb
    go_wp2_with fail
    refine (HW.out _ (TT.out _ B.out)).mono ?_
    rintro e w3 ⟨hb, rfl⟩
    have B := Lib.hid (B.out.trans (hb.mono B.out.size))
    clear hb
    go_wp2_with fail
    refine (HP.out _ (TT.out _ B.out)).mono ?_
    rintro e w4 ⟨hb, rfl⟩
    have B := Lib.hid (B.out.trans (hb.mono B.out.size))
    clear hb
    go_wp2
    go_ret
    exact ⟨B.out, by simp⟩
  · have hs : showL t = [] := if_neg hr
    rw [dayE_bad hr, hs] at HW
    clear hr
    go_enter Tryz.func5, Tryz.ntmps5
    go_wp2_with fail
    refine (HS.out _ (TT.out _ B.out)).mono ?_
    rintro e w2 ⟨hb, rfl⟩
    have B := Lib.hid (B.out.trans (hb.mono B.out.size))
    clear hb
    go_wp2_with fail
    refine (HW.out _ (TT.out _ B.out)).mono ?_
    rintro e w3 ⟨hb, rfl⟩
    have B := Lib.hid (B.out.trans (hb.mono B.out.size))
    clear hb
    go_wp2
    go_ret
    exact ⟨B.out, rfl⟩
end Go.Proofs.YtdkhoiahmjadnaaGreatDoor
