/-
  The walk of the program's named. Condition: the text's length.
-/
import Derived.Test.YtbpooaicmjkemaaDoorSfStep
import Derived.Shelf.Strings.SlTrimAscii
namespace Go.Proofs.YtbpooaicmjkemaaDoor
open Go.RowKit Go.Maps
set_option linter.unusedVariables false
def nameS (s : ByteArray) : Bool := decide (1 ≤ s.size) && decide (s.size ≤ 32) && s.data.toList.all (cs65.contains ·)
theorem dropWhile_nil {α : Type} (p : α → Bool) : ∀ l : List α, l.dropWhile p = [] ↔ l.all p = true
  | [] => by simp
  | x :: l => by
    rw [List.dropWhile_cons, List.all_cons]
    cases h : p x
    · simp
    · simpa using dropWhile_nil p l
theorem trim_nil (l cs : List UInt8) : Lib.trimS l cs = [] ↔ l.all (cs.contains ·) = true := by
  unfold Lib.trimS Lib.trimLeftS
  rw [dropWhile_nil]
  unfold Lib.trimRightS
  rw [List.all_reverse]
  constructor
  · intro h
    have h2 : (l.reverse.dropWhile (cs.contains ·)) = [] := by
      cases e : l.reverse.dropWhile (cs.contains ·) with
      | nil => rfl
      | cons x r =>
        exfalso
        have h1 : (l.reverse.dropWhile (cs.contains ·)).head? = some x := by rw [e]; rfl
        have h3 := List.head?_dropWhile_not (cs.contains ·) l.reverse
        rw [h1] at h3
        rw [e, List.all_cons, Bool.and_eq_true] at h
        simp only [h.1] at h3
        cases h3
    rw [dropWhile_nil, List.all_reverse] at h2
    exact h2
  · intro h
    have h2 : (l.reverse.dropWhile (cs.contains ·)) = [] := by rw [dropWhile_nil, List.all_reverse]; exact h
    rw [h2]; rfl
theorem str_nil {s : ByteArray} (h : s.size = 0) : s.toList = [] := by
  rw [ByteArray.toList_eq]; exact List.eq_nil_of_length_eq_zero (by rw [← size_len]; exact h)
theorem str_some {s : ByteArray} (h : s.size ≠ 0) : s.toList.isEmpty = false ∧ ¬ s.toList = [] := by
  rw [ByteArray.toList_eq]
  have h2 : ¬ s.data.toList = [] := fun e => h (by rw [size_len, e]; rfl)
  exact ⟨by cases e : s.data.toList with
    | nil => exact absurd e h2
    | cons a b => rfl, h2⟩
set_option maxHeartbeats 400000 in
theorem named_walk0 (s : ByteArray) (w : World) (hs : s.size ≤ maxLen) :
    Calls Tryd.prog 19 #[.string s] w fun e w' => e = .returned (.bool (nameS s)) ∧ Below w.heap.size w w' := by
  unfold maxLen at hs
  obtain ⟨F, hF⟩ : ∃ F, nameS s = F := ⟨_, rfl⟩
  rw [hF]
  unfold nameS at hF
  by_cases h0 : s.size = 0
  · rw [h0] at hF
    obtain rfl : false = F := by simpa using hF
    have h1 := str_nil h0
    clear hF h0
    go_enter Tryd.func19, Tryd.ntmps19
    go_wp2
    go_ret
    exact ⟨rfl, Below.refl _ _⟩
  · obtain ⟨h1, h2⟩ := str_some h0
    by_cases h3 : s.size ≤ 32
    · have h4 : (s.size : Int) ≤ 32 := by omega
      have K : Hid (Calls Tryd.prog 46 #[.string s, .string ⟨cs65.toArray⟩] w fun e w' => e = .returned (.string ⟨(Lib.trimS s.data.toList (⟨cs65.toArray⟩ : ByteArray).data.toList).toArray⟩) ∧ Below w.heap.size w w') := Lib.hid (Any.strings_Trim_laid Tryd.lays160 (by kernel_rfl) s ⟨cs65.toArray⟩ w hs (by decide) (ascii_of_all (by decide)))
      have e1 : decide (1 ≤ s.size) = true := decide_eq_true (by omega)
      have e2 : decide (s.size ≤ 32) = true := decide_eq_true h3
      rw [e1, e2, Bool.true_and, Bool.true_and] at hF
      have hT := trim_nil s.data.toList cs65
      obtain ⟨T, hTe⟩ : ∃ T : ByteArray, T = ⟨(Lib.trimS s.data.toList cs65).toArray⟩ := ⟨_, rfl⟩
      have hTl : T.data.toList = Lib.trimS s.data.toList cs65 := by rw [hTe]
      have e3 : (⟨cs65.toArray⟩ : ByteArray).data.toList = cs65 := rfl
      rw [e3, ← hTe] at K
      rw [← hTl] at hT
      cases F
      · have h5 : T.size ≠ 0 := fun e => by
          have : T.data.toList = [] := List.eq_nil_of_length_eq_zero (by rw [← size_len]; exact e)
          rw [hT.1 this] at hF
          cases hF
        obtain ⟨h6, h7⟩ := str_some h5
        unfold cs65 at K
        clear hF h0 hTe hTl hT e1 e2 e3 h5 h3
        go_enter Tryd.func19, Tryd.ntmps19
        go_wp2_with fail
        with_reducible refine K.out.mono ?_
        rintro e w1 ⟨rfl, hb⟩
        have HB := Lib.hid hb
        clear hb K
        go_wp2
        go_ret
        exact ⟨rfl, HB.out⟩
      · have h5 := hT.2 hF
        have h6 : T.toList = [] := str_nil (by rw [size_len, h5]; rfl)
        unfold cs65 at K
        clear hF h0 hTe hTl hT e1 e2 e3 h5 h3
        go_enter Tryd.func19, Tryd.ntmps19
        go_wp2_with fail
        with_reducible refine K.out.mono ?_
        rintro e w1 ⟨rfl, hb⟩
        have HB := Lib.hid hb
        clear hb K
        go_wp2
        go_ret
        exact ⟨rfl, HB.out⟩
    · have h4 : ¬ (s.size : Int) ≤ 32 := by omega
      have e2 : decide (s.size ≤ 32) = false := decide_eq_false h3
      rw [e2, Bool.and_false, Bool.false_and] at hF
      obtain rfl : false = F := hF
      clear h0 h3 e2
      go_enter Tryd.func19, Tryd.ntmps19
      go_wp2
      go_ret
      exact ⟨rfl, Below.refl _ _⟩
theorem named_walk (s : Tx) (w : World) (hs : s.length ≤ maxLen) :
    Calls Tryd.prog 19 #[.string (bs s)] w fun e w' => e = .returned (.bool (nameB s)) ∧ Below w.heap.size w w' := by
  have h := named_walk0 (bs s) w (by rw [bs_size]; exact hs)
  have e : nameS (bs s) = nameB s := by unfold nameS nameB; rw [bs_size, bs_list]
  rw [e] at h
  exact h
end Go.Proofs.YtbpooaicmjkemaaDoor
