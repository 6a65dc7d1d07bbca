/-
  The walks of both Dotted. Conditions: the sizes.
-/
import Derived.Test.YtkemmgfmmfcdlaaDoorRNext
import Derived.Test.YtkemmgfmmfcdlaaDoorLnB
import Derived.Test.YtkemmgfmmfcdlaaDoorMore
namespace Go.Proofs.YtkemmgfmmfcdlaaDoor
open Go.RowKit
set_option linter.unusedVariables false
/-- what Dotted answers -/
def DotPost (w : World) (l : List UInt8) (e : Ending) (w' : World) : Prop :=
  Below w.heap.size w w' ∧ ∃ v, e = .returned (.tuple #[v, .bool (dotP l).2]) ∧ OwnV w' w.heap.size v (dotP l).1
theorem dot_pre (l : List UInt8) : (Lib.hasPrefix l [46] = true ∧ Lib.trimPrefix l [46] = [] ∧ dotP l = ([], true)) ∨ ((Lib.hasPrefix l [46] = false ∨ (Lib.hasPrefix l [46] = true ∧ 0 < (Lib.trimPrefix l [46]).length)) ∧ dotP l = (Lib.trimPrefix l [46], false)) := by
  cases l with
  | nil => exact .inr ⟨.inl (by simp [Lib.hasPrefix]), by simp [dotP, Lib.trimPrefix, Lib.hasPrefix]⟩
  | cons c r =>
    by_cases hc : c = 46
    · subst hc
      have hp : Lib.hasPrefix (46 :: r) [46] = true := by simp [Lib.hasPrefix, List.isPrefixOf]
      have ht : Lib.trimPrefix (46 :: r) [46] = r := by unfold Lib.trimPrefix; rw [if_pos hp]; rfl
      cases r with
      | nil => exact .inl ⟨hp, ht, rfl⟩
      | cons a r => exact .inr ⟨.inr ⟨hp, by rw [ht]; simp⟩, by rw [ht]; simp [dotP]⟩
    · have hp : Lib.hasPrefix (c :: r) [46] = false := by simp [Lib.hasPrefix, List.isPrefixOf, Ne.symm hc]
      exact .inr ⟨.inl hp, by unfold Lib.trimPrefix; rw [hp]; simp [dotP, hc]⟩
set_option maxHeartbeats 2000000 in
theorem dot_walk (w : World) (A : Option Addr) (l : List UInt8) (n c : Nat) (hn : n = l.length) (hr : RB w w.heap.size A l) (hc : n ≤ c) (hm : c ≤ maxLen) (hl : n ≤ 140737488355328) :
    Calls Tryd.prog 19 #[.slice A n c] w (DotPost w l) := by
  have HR := Lib.hid hr
  have hb1 := (Below.refl w.heap.size w).alloc (Nat.le_refl _) (.cells #[.int .u8 46] 5)
  have K := Lib.hid (cutpre_walk (w.alloc (.cells #[.int .u8 46] 5)) ((hr.below hb1).mono hb1.size) (RB.one w 5 46 46 rfl) n c 1 hn hc (by omega))
  have HN := Lib.hid hn
  clear hr hn
  go_enter Tryd.func19, Tryd.ntmps19
  go_wp2_with fail
  refine K.out.mono ?_
  rintro e1 w1 ⟨rfl, A3, c3, rfl, hr3, hc3, hcc⟩
  have HB1 := Lib.hid hb1
  have HR3 := Lib.hid hr3
  have htl : (Lib.trimPrefix l [46]).length ≤ n := by rw [HN.out]; unfold Lib.trimPrefix; split <;> simp
  have HW : Hid (w.heap.size ≤ (w.alloc (.cells #[.int .u8 46] 5)).heap.size) := Lib.hid hb1.size
  clear hb1 hr3 K
  generalize w.alloc (.cells #[.int .u8 46] 5) = w1 at *
  have hd := dot_pre l
  rcases hd with ⟨h1, h2, h3⟩ | ⟨h1, h3⟩
  · rw [h2] at htl hc3 ⊢
    rw [h1]
    have H3 := Lib.hid h3
    clear h1 h2 h3 HR3
    go_wp2
    go_ret2
    unfold DotPost
    rw [H3.out]
    exact ⟨HB1.out, _, rfl, _, 0, rfl, Nat.le_refl _, by simp [maxLen], .inl rfl⟩
  · have H3 := Lib.hid h3
    generalize Lib.trimPrefix l [46] = t at *
    obtain ⟨m, hm2⟩ : ∃ m, m = t.length := ⟨_, rfl⟩
    rw [← hm2] at htl hc3 h1 ⊢
    have KC := Lib.hid (clone_walk w1 HR3.out m c3 hm2 (by omega))
    clear h3 hm2
    rcases h1 with h1 | ⟨h1, h1'⟩
    all_goals
      rw [h1]
      go_wp2_with fail
      refine KC.out.mono ?_
      rintro e5 w5 ⟨hb5, A5, c5, rfl, hV5⟩
      have HS := hV5.sl
      have HV := Lib.hid hV5
      have HB5 := Lib.hid hb5
      clear hb5 hV5
      have KL := Lib.hid (clip_walk w5 A5 m c5 HS.2.1 (by have := HS.2.2.1; unfold maxLen at this; omega))
      clear HS
      go_wp2_with (refine KL.out.mono ?_; rintro e6 w6 ⟨rfl, rfl⟩)
      go_ret2
      unfold DotPost
      rw [H3.out]
      exact ⟨HB1.out.trans (HB5.out.mono HW.out), _, rfl, HV.out.clip.mono HW.out⟩
theorem rdot_pre (l : List UInt8) : l = [] ∨ l = [46] ∨ (∃ a r, l = 46 :: a :: r) ∨ ∃ a r, l = a :: r ∧ a ≠ 46 := by
  cases l with
  | nil => exact .inl rfl
  | cons c r =>
    by_cases hc : c = 46
    · subst hc
      cases r with
      | nil => exact .inr (.inl rfl)
      | cons a r => exact .inr (.inr (.inl ⟨a, r, rfl⟩))
    · exact .inr (.inr (.inr ⟨c, r, rfl, hc⟩))
end Go.Proofs.YtkemmgfmmfcdlaaDoor
