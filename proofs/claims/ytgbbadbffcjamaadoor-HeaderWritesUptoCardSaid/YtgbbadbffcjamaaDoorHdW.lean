/-
  A text's words, and a body in several lines, in plain words. No program in sight. No condition.
-/
import Derived.Test.YtgbbadbffcjamaaDoorHdPl
import Derived.Test.YtgbbadbffcjamaaDoorUtf
import Derived.Test.YtgbbadbffcjamaaDoorStrs
namespace Go.Proofs.YtgbbadbffcjamaaDoor
set_option linter.unusedVariables false
def mkS (l : List UInt8) : ByteArray := ⟨l.toArray⟩
def wordsA (cur : List UInt8) : List UInt8 → List (List UInt8)
  | [] => if cur = [] then [] else [cur]
  | c :: r => if blC c = true then (if cur = [] then wordsA [] r else cur :: wordsA [] r) else wordsA (cur ++ [c]) r
/-- what stands between blanks -/
def wordsL (s : List UInt8) : List (List UInt8) := wordsA [] s
def isBl (x : Nat) : Bool := decide (x = 32 ∨ x = 9)
def cutSp (s : ByteArray) (acc : List (Nat × Nat)) : List ByteArray := acc.map fun x => s.extract x.1 x.2
theorem extract_of {s : ByteArray} {pre cur post : List UInt8} (h : s.data.toList = pre ++ cur ++ post) : s.extract pre.length (pre.length + cur.length) = mkS cur := by
  apply str_eq
  rw [ByteArray.data_extract, Array.toList_extract, h]
  simp [List.extract]
theorem cutSp_words {s : ByteArray} : ∀ (l pre cur : List UInt8) (st : Option Nat) (acc : List (Nat × Nat)), s.data.toList = pre ++ cur ++ l → (st = none ∧ cur = [] ∨ st = some pre.length ∧ cur ≠ []) →
    cutSp s (Lib.closeSpans s (spB (fun c => isBl c.toNat) l (pre.length + cur.length) st acc)) = cutSp s acc ++ (wordsA cur l).map mkS
  | [], pre, cur, st, acc, h, hst => by
    rw [List.append_nil] at h
    rcases hst with ⟨rfl, rfl⟩ | ⟨rfl, hc⟩
    · simp [spB, wordsA, Lib.closeSpans]
    · have hs : s.size = pre.length + cur.length := by rw [Lib.size_eq, h, List.length_append]
      show cutSp s (acc ++ [(pre.length, s.size)]) = _
      rw [wordsA, if_neg hc]
      simp only [cutSp, List.map_append, List.map_cons, List.map_nil]
      rw [hs, extract_of (post := []) (by rw [h]; simp)]
  | c :: r, pre, cur, st, acc, h, hst => by
    rw [wordsA]
    by_cases hb : blC c = true
    · rw [if_pos hb]
      have hq : (fun c : UInt8 => isBl c.toNat) c = true := hb
      rcases hst with ⟨rfl, rfl⟩ | ⟨rfl, hc⟩
      · rw [spB_sep hq, if_pos rfl]
        have ih := cutSp_words (s := s) r (pre ++ [c]) [] none acc (by rw [h]; simp) (.inl ⟨rfl, rfl⟩)
        rw [← ih]
        congr 3
        simp
      · rw [spB_end hq, if_neg hc]
        have ih := cutSp_words (s := s) r (pre ++ cur ++ [c]) [] none (acc ++ [(pre.length, pre.length + cur.length)]) (by rw [h]; simp) (.inl ⟨rfl, rfl⟩)
        rw [show (pre ++ cur ++ [c]).length + ([] : List UInt8).length = pre.length + cur.length + 1 by simp; omega] at ih
        rw [ih]
        simp only [cutSp, List.map_append, List.map_cons, List.map_nil]
        rw [extract_of (post := c :: r) h]
        simp
    · have hb' : blC c = false := by simpa using hb
      have hq : (fun c : UInt8 => isBl c.toNat) c = false := hb'
      rw [if_neg hb, spB_no hq]
      have ih := cutSp_words (s := s) r pre (cur ++ [c]) (some pre.length) acc (by rw [h]; simp) (.inr ⟨rfl, by simp⟩)
      rw [← ih]
      rcases hst with ⟨rfl, rfl⟩ | ⟨rfl, hc⟩
      · simp
      · congr 3
        simp; omega
theorem fields_wordsL (s : ByteArray) : Lib.goFieldsP isBl s = (wordsL s.data.toList).map mkS := by
  unfold Lib.goFieldsP Lib.spansOfP
  rw [spans_bytes isBl (fun x hx => by have := of_decide_eq_true hx; omega) s s.size 0 none [] (by omega), List.drop_zero]
  have := cutSp_words (s := s) s.data.toList [] [] none [] (by simp) (.inl ⟨rfl, rfl⟩)
  simpa [cutSp, wordsL] using this
def lenW (L : List (List UInt8)) : Nat := (L.map List.length).sum
theorem wordsA_len : ∀ (l cur : List UInt8), lenW (wordsA cur l) ≤ cur.length + l.length ∧ (wordsA cur l).length ≤ cur.length + l.length
  | [], cur => by
    rw [wordsA]
    split
    · exact ⟨by simp [lenW], by simp⟩
    · rename_i h
      have := List.length_pos_iff.2 h
      exact ⟨by simp [lenW], by simp; omega⟩
  | c :: r, cur => by
    rw [wordsA]
    split
    · split
      · rename_i h
        obtain ⟨h1, h2⟩ := wordsA_len r []
        subst h
        simp at h1 h2 ⊢
        omega
      · rename_i h
        obtain ⟨h1, h2⟩ := wordsA_len r []
        have := List.length_pos_iff.2 h
        simp [lenW] at h1 h2 ⊢
        omega
    · obtain ⟨h1, h2⟩ := wordsA_len r (cur ++ [c])
      simp at h1 h2 ⊢
      omega
/-- words behind the first one, from a column on -/
def foldW (col : Nat) : List (List UInt8) → List UInt8
  | [] => []
  | x :: r => if 78 < col + 1 + x.length then 13 :: 10 :: 32 :: (x ++ foldW (1 + x.length) r) else 32 :: (x ++ foldW (col + 1 + x.length) r)
/-- a body in several lines -/
def foldF (col : Nat) : List (List UInt8) → List UInt8
  | [] => []
  | x :: r => x ++ foldW (col + x.length) r
def col0 (c : Int) : Nat := (min (max c 0) 78).toNat
def fold11 (s : List UInt8) (c : Int) : List UInt8 := foldF (col0 c) (wordsL s)
theorem foldW_len : ∀ (L : List (List UInt8)) (col : Nat), (foldW col L).length ≤ 3 * L.length + lenW L
  | [], _ => by simp [foldW]
  | x :: r, col => by
    rw [foldW]
    have h1 := foldW_len r (1 + x.length)
    have h2 := foldW_len r (col + 1 + x.length)
    have e : lenW (x :: r) = x.length + lenW r := rfl
    split <;> simp <;> omega
theorem fold11_len (s : List UInt8) (c : Int) : (fold11 s c).length ≤ 4 * s.length := by
  unfold fold11 wordsL
  obtain ⟨h1, h2⟩ := wordsA_len s []
  cases h : wordsA [] s with
  | nil => simp [foldF]
  | cons x r =>
    rw [h] at h1 h2
    rw [foldF, List.length_append]
    have := foldW_len r (col0 c + x.length)
    have e : lenW (x :: r) = x.length + lenW r := rfl
    simp at h2 h1
    omega
end Go.Proofs.YtgbbadbffcjamaaDoor
