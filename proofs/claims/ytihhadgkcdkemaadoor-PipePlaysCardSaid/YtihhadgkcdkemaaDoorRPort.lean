/-
  The walk of the document's isPort. Condition: the length.
-/
import Derived.Test.YtihhadgkcdkemaaDoorPPort
namespace Go.Proofs.YtihhadgkcdkemaaDoor
open Go.RowKit Go.Maps
set_option linter.unusedVariables false
theorem pc_fin : ∀ n : Fin 256, cs37.contains (UInt8.ofNat n.val) = decide ((97 ≤ n.val ∧ n.val ≤ 122) ∨ (48 ≤ n.val ∧ n.val ≤ 57) ∨ n.val = 45) := by decide +kernel
theorem pc_iff (c : UInt8) : cs37.contains c = decide ((97 ≤ c.toNat ∧ c.toNat ≤ 122) ∨ (48 ≤ c.toNat ∧ c.toNat ≤ 57) ∨ c.toNat = 45) := by
  have h := pc_fin ⟨c.toNat, c.toNat_lt⟩
  simp only [UInt8.ofNat_toNat] at h
  exact h
theorem all_drop37 {s : ByteArray} {j : Nat} (h : j < s.size) : (s.data.toList.drop j).all (cs37.contains ·) = (cs37.contains s[j] && (s.data.toList.drop (j + 1)).all (cs37.contains ·)) := by
  have hl : j < s.data.toList.length := by rw [← size_len]; exact h
  rw [List.drop_eq_getElem_cons hl]
  rfl
theorem pc_cases (c : UInt8) : (cs37.contains c = true ∧ ((97 ≤ (c.toNat : Int) ∧ (c.toNat : Int) ≤ 122) ∨ (¬ 97 ≤ (c.toNat : Int) ∧ 48 ≤ (c.toNat : Int) ∧ (c.toNat : Int) ≤ 57) ∨ (¬ 97 ≤ (c.toNat : Int) ∧ ¬ 48 ≤ (c.toNat : Int) ∧ ((c.toNat : Int) == 45) = true))) ∨
    (cs37.contains c = false ∧ ((97 ≤ (c.toNat : Int) ∧ ¬ (c.toNat : Int) ≤ 122 ∧ 48 ≤ (c.toNat : Int) ∧ ¬ (c.toNat : Int) ≤ 57 ∧ ((c.toNat : Int) == 45) = false) ∨ (¬ 97 ≤ (c.toNat : Int) ∧ 48 ≤ (c.toNat : Int) ∧ ¬ (c.toNat : Int) ≤ 57 ∧ ((c.toNat : Int) == 45) = false) ∨ (¬ 97 ≤ (c.toNat : Int) ∧ ¬ 48 ≤ (c.toNat : Int) ∧ ((c.toNat : Int) == 45) = false))) := by
  rw [pc_iff]
  have e : ∀ b : Bool, (((c.toNat : Int) == 45) = b) = ((decide (c.toNat = 45)) = b) := fun b => by
    congr 1
    rw [Bool.eq_iff_iff]
    simp
    omega
  simp only [e, decide_eq_true_eq, decide_eq_false_iff_not]
  omega
set_option maxRecDepth 100000 in
set_option maxHeartbeats 1000000 in
theorem rport_walk (s : ByteArray) (w : World) (hs : s.size ≤ maxLen) :
    Calls Tryd.prog 29 #[.string s] w fun e w' => e = .returned (.bool (portB s)) ∧ w' = w := by
  unfold maxLen at hs
  obtain ⟨F, hF⟩ : ∃ F, portB s = F := ⟨_, rfl⟩
  rw [hF]
  have HF : Hid (F = (decide (1 ≤ s.size) && decide (s.size ≤ 32) && (s.data.toList.drop 0).all (cs37.contains ·))) := Lib.hid (by rw [← hF]; rfl)
  clear hF
  go_enter Tryd.func29, Tryd.ntmps29
  go_wp2
  go_loopg [3, 4] s.size (fun k s3 s4 wr => w = wr ∧ ∃ j : Nat, j + k = s.size ∧ s3 = .int .i64 (j : Int) ∧ Hid (F = (decide (1 ≤ s.size) && decide (s.size ≤ 32) && (s.data.toList.drop j).all (cs37.contains ·))))
  case atStart => exact ⟨rfl, 0, by omega, rfl, HF⟩
  case round =>
    obtain ⟨rfl, j, hj, rfl, H⟩ := hrel
    clear HF
    by_cases hlt : j < s.size
    · have hj1 : (j : Int) < (s.size : Int) := by omega
      have H2 := Lib.hid (H.out.trans (by rw [all_drop37 hlt]) : F = (decide (1 ≤ s.size) && decide (s.size ≤ 32) && (cs37.contains s[j] && (s.data.toList.drop (j + 1)).all (cs37.contains ·))))
      clear H
      rcases pc_cases s[j] with ⟨h1, h2⟩ | ⟨h1, h2⟩
      · have H3 : Hid (F = (decide (1 ≤ s.size) && decide (s.size ≤ 32) && (s.data.toList.drop (j + 1)).all (cs37.contains ·))) := Lib.hid (by rw [H2.out, h1, Bool.true_and])
        clear H2 h1
        rcases h2 with ⟨a1, a2⟩ | ⟨a1, a2, a3⟩ | ⟨a1, a2, a3⟩
        all_goals
          go_wp2
          go_roundg (gk - 1)
          case rel => exact ⟨rfl, j + 1, by omega, by go_num, H3⟩
          case measure => omega
      · have H3 : Hid (F = false) := Lib.hid (by rw [H2.out, h1, Bool.false_and, Bool.and_false])
        clear H2 h1
        rcases h2 with ⟨a1, a2, a3, a4, a5⟩ | ⟨a1, a2, a3, a4⟩ | ⟨a1, a2, a3⟩
        all_goals
          go_wp2
          go_ret
          exact ⟨by rw [H3.out]; rfl, rfl⟩
    · have hj1 : ¬ (j : Int) < (s.size : Int) := by omega
      have H2 : Hid (F = (decide (1 ≤ s.size) && decide (s.size ≤ 32))) := Lib.hid (by rw [H.out, List.drop_of_length_le (by rw [← size_len]; omega)]; simp)
      clear H
      by_cases h1 : 1 ≤ s.size
      · have h1a : 1 ≤ (s.size : Int) := by omega
        by_cases h2 : s.size ≤ 32
        · have h2a : (s.size : Int) ≤ 32 := by omega
          have H3 : Hid (F = true) := Lib.hid (by rw [H2.out, decide_eq_true h1, decide_eq_true h2]; rfl)
          clear H2 h1 h2
          go_wp2
          go_ret
          exact ⟨by rw [H3.out]; rfl, rfl⟩
        · have h2a : ¬ (s.size : Int) ≤ 32 := by omega
          have H3 : Hid (F = false) := Lib.hid (by rw [H2.out, decide_eq_false h2, Bool.and_false])
          clear H2 h1 h2
          go_wp2
          go_ret
          exact ⟨by rw [H3.out]; rfl, rfl⟩
      · have h1a : ¬ 1 ≤ (s.size : Int) := by omega
        have H3 : Hid (F = false) := Lib.hid (by rw [H2.out, decide_eq_false h1, Bool.false_and])
        clear H2 h1
        go_wp2
        go_ret
        exact ⟨by rw [H3.out]; rfl, rfl⟩
end Go.Proofs.YtihhadgkcdkemaaDoor
