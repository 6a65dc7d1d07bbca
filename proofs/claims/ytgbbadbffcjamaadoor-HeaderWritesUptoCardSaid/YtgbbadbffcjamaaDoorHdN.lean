/-
  The walks of both Name, blank, Same, and of the program's lower. Conditions: a text's length.
-/
import Derived.Test.YtgbbadbffcjamaaDoorHdPl
import Derived.Test.YtgbbadbffcjamaaDoorRLow
namespace Go.Proofs.YtgbbadbffcjamaaDoor
open Go.RowKit Go.Sort
set_option linter.unusedVariables false
theorem name_drop {s : ByteArray} {j : Nat} (h : j < s.size) : (s.data.toList.drop j).all nmC = (nmC s[j] && (s.data.toList.drop (j + 1)).all nmC) := by
  have hl : j < s.data.toList.length := by rw [← Lib.size_eq]; exact h
  rw [List.drop_eq_getElem_cons hl]
  rfl
theorem nm_yes {c : UInt8} (h : nmC c = true) : ¬ (c.toNat : Int) ≤ 32 ∧ ¬ (c.toNat : Int) < 33 ∧ ¬ (126 : Int) < (c.toNat : Int) ∧ ((c.toNat : Int) == 58) = false ∧ (c.toNat : Int) ≤ 126 ∧ (32 : Int) < (c.toNat : Int) ∧ (33 : Int) ≤ (c.toNat : Int) := by
  have := of_decide_eq_true h
  exact ⟨by omega, by omega, by omega, by rw [beq_eq_false_iff_ne]; omega, by omega, by omega, by omega⟩
theorem nm_no {c : UInt8} (h : nmC c = false) : ((c.toNat : Int) ≤ 32 ∧ (c.toNat : Int) < 33) ∨ ((32 : Int) < (c.toNat : Int) ∧ (33 : Int) ≤ (c.toNat : Int) ∧ (126 : Int) < (c.toNat : Int)) ∨ (((c.toNat : Int) == 58) = true ∧ (c.toNat : Int) = 58 ∧ c = 58) := by
  have := of_decide_eq_false h
  by_cases h1 : (c.toNat : Int) ≤ 32
  · exact .inl ⟨h1, by omega⟩
  · by_cases h2 : (126 : Int) < (c.toNat : Int)
    · exact .inr (.inl ⟨by omega, by omega, h2⟩)
    · have h3 : (c.toNat : Int) = 58 := by omega
      exact .inr (.inr ⟨by rw [beq_iff_eq]; exact h3, h3, UInt8.toNat_inj.1 (by rw [show (58 : UInt8).toNat = 58 from rfl]; omega)⟩)
theorem str_empty (s : ByteArray) : (s.data.toList.isEmpty = false → s.toList.isEmpty = false) ∧ (s.data.toList.isEmpty = false → (0 : Int) < (s.size : Int)) ∧ (s.data.toList.isEmpty = true → s = ⟨#[]⟩) := by
  refine ⟨fun h => ?_, fun h => ?_, fun h => ?_⟩
  · rw [ByteArray.toList_eq]; exact h
  · rw [Lib.size_eq]
    have : s.data.toList ≠ [] := by simpa using h
    have := List.length_pos_iff.2 this
    omega
  · have : s.data.toList = [] := by simpa using h
    exact str_eq this
set_option maxHeartbeats 1000000 in
theorem name_walk (s : ByteArray) (w : World) (hs : s.size ≤ 9223372036854775807) :
    Calls Tryd.prog 23 #[.string s] w fun e w' => w = w' ∧ e = .returned (.bool (nameB s.data.toList)) := by
  have hsz : s.size = s.data.toList.length := Lib.size_eq s
  obtain ⟨F, hF⟩ : ∃ F, nameB s.data.toList = F := ⟨_, rfl⟩
  rw [hF]
  have HF : Hid (F = (!s.data.toList.isEmpty && (s.data.toList.drop 0).all nmC)) := Lib.hid (by rw [← hF]; rfl)
  have HSZ := Lib.hid hsz
  clear hF hsz
  go_enter Tryd.func23, Tryd.ntmps23
  go_wp2_with fail
  go_loopg [6] s.size (fun k i wr => w = wr ∧ ∃ (j : Nat), j + k = s.size ∧ i = .int .i64 j ∧ Hid (F = (!s.data.toList.isEmpty && (s.data.toList.drop j).all nmC)))
  case atStart => exact ⟨rfl, 0, by omega, rfl, HF⟩
  case round =>
    obtain ⟨rfl, j, hj, rfl, H⟩ := hrel
    clear HF
    by_cases hlt : j < s.size
    · have hj1 : (j : Int) < (s.size : Int) := by omega
      have H2 : Hid (F = (!s.data.toList.isEmpty && (nmC s[j] && (s.data.toList.drop (j + 1)).all nmC))) := Lib.hid (by rw [H.out, name_drop hlt])
      clear H
      by_cases hn : nmC s[j] = true
      · have H3 : Hid (F = (!s.data.toList.isEmpty && (s.data.toList.drop (j + 1)).all nmC)) := Lib.hid (by rw [H2.out, hn, Bool.true_and])
        obtain ⟨a1, a2, a3, a4, a5, a6, a7⟩ := nm_yes hn
        clear H2 hn
        go_wp2
        go_roundg (gk - 1)
        case rel => exact ⟨rfl, j + 1, by omega, by go_num, H3⟩
        case measure => omega
      · have hn : nmC s[j] = false := by simpa using hn
        have H3 : Hid (F = false) := Lib.hid (by rw [H2.out, hn, Bool.false_and, Bool.and_false])
        clear H2
        rcases nm_no hn with ⟨a1, a2⟩ | ⟨a1, a2, a3⟩ | ⟨a1, a2, a3⟩
        all_goals
          clear hn
          go_wp2
          go_ret
          exact ⟨rfl, by rw [H3.out]; rfl⟩
    · have hj1 : ¬ (j : Int) < (s.size : Int) := by omega
      obtain rfl : j = s.size := by omega
      have he := str_empty s
      have H3 : Hid (F = !s.data.toList.isEmpty) := Lib.hid (by rw [H.out, List.drop_of_length_le (by rw [← HSZ.out]; exact Nat.le_refl _)]; simp)
      clear H hlt hj
      cases hb : s.data.toList.isEmpty
      · have q := he.1 hb
        have q2 := he.2.1 hb
        have HB : Hid (s.data.toList.isEmpty = false) := Lib.hid hb
        have HD : Hid (¬ s.data = #[] ∧ 0 < s.size) := Lib.hid ⟨fun e => by rw [e] at hb; simp at hb, by omega⟩
        clear he hb
        go_wp2
        go_ret
        exact ⟨rfl, by rw [H3.out, HB.out]; first | rfl | (simp [HD.out.1, HD.out.2]; done) | (simp [HD.out.2]; done)⟩
      · obtain rfl := he.2.2 hb
        clear he hb
        go_wp2
        go_ret
        exact ⟨rfl, by rw [H3.out]; rfl⟩
set_option maxHeartbeats 1000000 in
theorem rname_walk (s : ByteArray) (w : World) (hs : s.size ≤ 9223372036854775807) :
    Calls Tryd.prog 33 #[.string s] w fun e w' => w = w' ∧ e = .returned (.bool (nameB s.data.toList)) := by
  have hsz : s.size = s.data.toList.length := Lib.size_eq s
  obtain ⟨F, hF⟩ : ∃ F, nameB s.data.toList = F := ⟨_, rfl⟩
  rw [hF]
  have HF : Hid (F = (!s.data.toList.isEmpty && (s.data.toList.drop 0).all nmC)) := Lib.hid (by rw [← hF]; rfl)
  have HSZ := Lib.hid hsz
  clear hF hsz
  go_enter Tryd.func33, Tryd.ntmps33
  go_wp2_with fail
  go_loopg [3] s.size (fun k i wr => w = wr ∧ ∃ (j : Nat), j + k = s.size ∧ i = .int .i64 j ∧ Hid (F = (!s.data.toList.isEmpty && (s.data.toList.drop j).all nmC)))
  case atStart => exact ⟨rfl, 0, by omega, rfl, HF⟩
  case round =>
    obtain ⟨rfl, j, hj, rfl, H⟩ := hrel
    clear HF
    by_cases hlt : j < s.size
    · have hj1 : (j : Int) < (s.size : Int) := by omega
      have H2 : Hid (F = (!s.data.toList.isEmpty && (nmC s[j] && (s.data.toList.drop (j + 1)).all nmC))) := Lib.hid (by rw [H.out, name_drop hlt])
      clear H
      by_cases hn : nmC s[j] = true
      · have H3 : Hid (F = (!s.data.toList.isEmpty && (s.data.toList.drop (j + 1)).all nmC)) := Lib.hid (by rw [H2.out, hn, Bool.true_and])
        obtain ⟨a1, a2, a3, a4, a5, a6, a7⟩ := nm_yes hn
        clear H2 hn
        go_wp2
        go_roundg (gk - 1)
        case rel => exact ⟨rfl, j + 1, by omega, by go_num, H3⟩
        case measure => omega
      · have hn : nmC s[j] = false := by simpa using hn
        have H3 : Hid (F = false) := Lib.hid (by rw [H2.out, hn, Bool.false_and, Bool.and_false])
        clear H2
        rcases nm_no hn with ⟨a1, a2⟩ | ⟨a1, a2, a3⟩ | ⟨a1, a2, a3⟩
        all_goals
          clear hn
          go_wp2
          go_ret
          exact ⟨rfl, by rw [H3.out]; rfl⟩
    · have hj1 : ¬ (j : Int) < (s.size : Int) := by omega
      obtain rfl : j = s.size := by omega
      have he := str_empty s
      have H3 : Hid (F = !s.data.toList.isEmpty) := Lib.hid (by rw [H.out, List.drop_of_length_le (by rw [← HSZ.out]; exact Nat.le_refl _)]; simp)
      clear H hlt hj
      cases hb : s.data.toList.isEmpty
      · have q := he.1 hb
        have q2 := he.2.1 hb
        have HB : Hid (s.data.toList.isEmpty = false) := Lib.hid hb
        have HD : Hid (¬ s.data = #[] ∧ 0 < s.size) := Lib.hid ⟨fun e => by rw [e] at hb; simp at hb, by omega⟩
        clear he hb
        go_wp2
        go_ret
        exact ⟨rfl, by rw [H3.out, HB.out]; first | rfl | (simp [HD.out.1, HD.out.2]; done) | (simp [HD.out.2]; done)⟩
      · obtain rfl := he.2.2 hb
        clear he hb
        go_wp2
        go_ret
        exact ⟨rfl, by rw [H3.out]; rfl⟩
end Go.Proofs.YtgbbadbffcjamaaDoor
