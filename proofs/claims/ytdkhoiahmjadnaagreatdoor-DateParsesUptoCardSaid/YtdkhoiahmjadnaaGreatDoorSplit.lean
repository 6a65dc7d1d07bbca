/-
  A text cut at one byte: what strings.Split makes of it, as a plain recursion. No program in sight. No condition.
-/
import Derived.Test.YtdkhoiahmjadnaaGreatDoorLib
import Derived.Lib.SplitLaws
namespace Go.Proofs.YtdkhoiahmjadnaaGreatDoor
set_option linter.unusedVariables false

/-- the parts between the bytes c -/
def cutC (c : UInt8) : List UInt8 → List (List UInt8)
  | [] => [[]]
  | x :: r => if x = c then [] :: cutC c r else match cutC c r with
    | [] => [[x]]
    | h :: t => (x :: h) :: t
theorem cutC_eq (c : UInt8) (r : List UInt8) : cutC c (c :: r) = [] :: cutC c r := if_pos rfl
theorem cutC_some (c : UInt8) : ∀ l, ∃ h t, cutC c l = h :: t
  | [] => ⟨[], [], rfl⟩
  | x :: r => by
    obtain ⟨h, t, e⟩ := cutC_some c r
    by_cases hx : x = c
    · exact ⟨[], _, if_pos hx⟩
    · exact ⟨x :: h, t, by rw [cutC, if_neg hx, e]⟩
theorem cutC_ne {c x : UInt8} (hx : ¬ x = c) {r h : List UInt8} {t : List (List UInt8)} (e : cutC c r = h :: t) : cutC c (x :: r) = (x :: h) :: t := by
  rw [cutC, if_neg hx, e]
theorem idx_eq (c : UInt8) (r : List UInt8) : Lib.index (c :: r) [c] = 0 := by rw [Lib.index]; simp [List.isPrefixOf]
theorem idx_ne {c x : UInt8} (hx : ¬ x = c) (r : List UInt8) : Lib.index (x :: r) [c] = if Lib.index r [c] = -1 then -1 else Lib.index r [c] + 1 := by
  have hp : ([c] : List UInt8).isPrefixOf (x :: r) = false := by simp [List.isPrefixOf, Ne.symm hx]
  rw [Lib.index, hp]; simp
theorem idx_no {c : UInt8} : ∀ {r : List UInt8}, Lib.index r [c] = -1 → cutC c r = [r]
  | [], _ => rfl
  | x :: r, h => by
    by_cases hx : x = c
    · subst hx; rw [idx_eq] at h; exact absurd h (by decide)
    · rw [idx_ne hx] at h
      have hg := Lib.index_ge r [c]
      have h1 : Lib.index r [c] = -1 := by
        split at h
        · assumption
        · omega
      exact cutC_ne hx (idx_no h1)
theorem count_no {c : UInt8} {r : List UInt8} (h : Lib.index r [c] = -1) : Lib.count r [c] = 0 := Lib.count_miss h
theorem split_cutC (c : UInt8) : ∀ l : List UInt8, Lib.split l [c] = cutC c l
  | [] => rfl
  | x :: r => by
    have ih := split_cutC c r
    unfold Lib.split at ih ⊢
    by_cases hx : x = c
    · subst hx
      rw [Lib.count_cons_eq, Nat.add_comm, Lib.splitK, idx_eq, cutC_eq, ← ih]
      rfl
    · rw [Lib.count_cons_ne x c r hx]
      by_cases h1 : Lib.index r [c] = -1
      · rw [count_no h1, cutC_ne hx (idx_no h1)]
        rfl
      · have hg := Lib.index_ge r [c]
        obtain ⟨j, hj⟩ : ∃ j : Nat, Lib.index r [c] = j := ⟨(Lib.index r [c]).toNat, by omega⟩
        have hc := Lib.count_hit (sub := [c]) (s := r) (i := j) (by simp) hj
        rw [hc, Nat.add_comm] at ih ⊢
        rw [Lib.splitK] at ih ⊢
        rw [hj] at ih
        rw [idx_ne hx, if_neg h1, hj]
        have b1 : ((j : Int) == -1) = false := beq_eq_false_iff_ne.2 (by omega)
        have b2 : ((j : Int) + 1 == -1) = false := beq_eq_false_iff_ne.2 (by omega)
        rw [b1] at ih
        rw [b2]
        simp only [Bool.false_eq_true, if_false] at ih ⊢
        rw [cutC_ne hx ih.symm]
        have e1 : ((j : Int) + 1).toNat = j + 1 := by omega
        have e2 : (j : Int).toNat = j := by omega
        rw [e1, e2]
        simp [Nat.add_right_comm j 1 1]
theorem splitB_cutC (c : UInt8) (s : ByteArray) : (Lib.splitB ⟨#[c]⟩ 0 (Lib.countB s ⟨#[c]⟩) s).map (·.data.toList) = cutC c s.data.toList := by
  rw [Lib.splitB_data, ← split_cutC]
  rfl
/-- they join to the text, and hold no c -/
def joinC (c : UInt8) : List (List UInt8) → List UInt8
  | [] => []
  | h :: t => h ++ (match t with
    | [] => []
    | x :: y => c :: joinC c (x :: y))
theorem joinC_one (c : UInt8) (h : List UInt8) : joinC c [h] = h := by simp [joinC]
theorem joinC_two (c : UInt8) (h x : List UInt8) (y : List (List UInt8)) : joinC c (h :: x :: y) = h ++ c :: joinC c (x :: y) := by rw [joinC]
theorem joinC_cons (c x : UInt8) (h : List UInt8) (t : List (List UInt8)) : joinC c ((x :: h) :: t) = x :: joinC c (h :: t) := by
  cases t with
  | nil => rw [joinC_one, joinC_one]
  | cons a b => rw [joinC_two, joinC_two]; rfl
theorem join_cutC (c : UInt8) : ∀ l, joinC c (cutC c l) = l ∧ ∀ p ∈ cutC c l, c ∉ p
  | [] => ⟨rfl, by simp [cutC]⟩
  | x :: r => by
    obtain ⟨h1, h2⟩ := join_cutC c r
    obtain ⟨h, t, e⟩ := cutC_some c r
    rw [e] at h1 h2
    by_cases hx : x = c
    · subst hx
      rw [cutC_eq, e, joinC_two, h1]
      refine ⟨rfl, fun p hp => ?_⟩
      rcases List.mem_cons.1 hp with rfl | hp
      · simp
      · exact h2 p hp
    · rw [cutC_ne hx e, joinC_cons, h1]
      refine ⟨rfl, fun p hp => ?_⟩
      rcases List.mem_cons.1 hp with rfl | hp
      · intro hm
        rcases List.mem_cons.1 hm with rfl | hm
        · exact hx rfl
        · exact h2 h (by simp) hm
      · exact h2 p (by simp [hp])
end Go.Proofs.YtdkhoiahmjadnaaGreatDoor
