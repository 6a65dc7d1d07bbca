/-
  What a line of a reply is, and what reading a reply's bytes answers, in plain words. No condition.
-/
import Derived.Test.YteicojighhhgjaaDoorText
import Derived.Test.YteicojighhhgjaaDoorMore
import Derived.Lib.Strings
import Derived.Lib.Bytealg
import Derived.Lib.IndexLaws
import Derived.WideShapes
namespace Go.Proofs.YteicojighhhgjaaDoor
open Go.RowKit
set_option linter.unusedVariables false

def isDig (x : Int) : Bool := decide (48 ≤ x ∧ x ≤ 57)
def code3 (m : List UInt8) : Int := (bt m 0 - 48) * 100 + (bt m 1 - 48) * 10 + (bt m 2 - 48)
def digs3 (m : List UInt8) : Bool := isDig (bt m 0) && (isDig (bt m 1) && isDig (bt m 2))
/-- may a line's body be? -/
def bodyOk (m : List UInt8) : Bool := decide (3 ≤ m.length) && (digs3 m && (codeOk (code3 m) && (decide (m.length = 3) || (decide (bt m 3 = 45 ∨ bt m 3 = 32) && textOk (m.drop 4)))))
def bodyL (l : List UInt8) : List UInt8 := l.take (l.length - 2)
def crlf (l : List UInt8) : Bool := Lib.hasSuffix l [13, 10]
/-- is it a line? its code, its text, does another one follow? -/
def lOk (l : List UInt8) : Bool := crlf l && bodyOk (bodyL l)
def lN (l : List UInt8) : Int := code3 (bodyL l)
def lT (l : List UInt8) : List UInt8 := (bodyL l).drop 4
def lM (l : List UInt8) : Bool := decide (bt (bodyL l) 3 = 45)

theorem code3_rng {m : List UInt8} (h : digs3 m = true) : 0 ≤ code3 m ∧ code3 m ≤ 999 := by
  unfold digs3 isDig at h
  simp only [Bool.and_eq_true, decide_eq_true_eq] at h
  unfold code3
  omega
theorem bodyL_len {l : List UInt8} (h : crlf l = true) : (bodyL l).length + 2 = l.length := by
  unfold crlf Lib.hasSuffix at h
  have h2 := (List.isSuffixOf_iff_suffix.1 h).length_le
  unfold bodyL
  rw [List.length_take]
  simp at h2
  omega
theorem trim_crlf {l : List UInt8} : Lib.trimSuffix l [13, 10] = if crlf l = true then bodyL l else l := rfl

/-- where the first line's last byte stands; below 0: nowhere -/
def eol (l : List UInt8) : Int := Lib.indexByte (l.take 512) 10
structure RR where
  c : Int
  L : List ByteArray
  n : Int
  e : Int
def bad (e : Int) : RR := ⟨0, [], 0, e⟩
def short (l : List UInt8) : Int := if 512 ≤ l.length then 142 else 140
/-- the rest l is read behind so many bytes and the lines L -/
def rd : Nat → List UInt8 → Int → Int → List ByteArray → RR
  | 0, _, _, _, _ => bad 0
  | k + 1, l, at_, c, L =>
    if eol l < 0 then bad (short l)
    else if lOk (l.take ((eol l).toNat + 1)) = false ∨ (0 < at_ ∧ lN (l.take ((eol l).toNat + 1)) ≠ c) then bad 141
    else if L.length = 50 then bad 142
    else if lM (l.take ((eol l).toNat + 1)) = true then rd k (l.drop ((eol l).toNat + 1)) (at_ + ((eol l).toNat + 1 : Nat)) (lN (l.take ((eol l).toNat + 1))) (L ++ [⟨(lT (l.take ((eol l).toNat + 1))).toArray⟩])
    else ⟨lN (l.take ((eol l).toNat + 1)), L ++ [⟨(lT (l.take ((eol l).toNat + 1))).toArray⟩], at_ + ((eol l).toNat + 1 : Nat), 0⟩
def readP (l : List UInt8) : RR := rd (l.length + 1) l 0 0 []
theorem eol_ge (l : List UInt8) : -1 ≤ eol l := Lib.indexByte_ge _ _
theorem eol_at {l : List UInt8} (h : ¬ eol l < 0) : (eol l).toNat < 512 ∧ (eol l).toNat < l.length ∧ l[(eol l).toNat]? = some 10 ∧ ∀ k, k < (eol l).toNat → l[k]? ≠ some 10 := by
  have e : Lib.indexByte (l.take 512) 10 = ((eol l).toNat : Int) := by unfold eol at *; omega
  obtain ⟨h1, h2⟩ := Lib.indexByte_some e
  have h3 := (List.getElem?_eq_some_iff.1 h1).1
  rw [List.length_take] at h3
  refine ⟨by omega, by omega, ?_, fun k hk => ?_⟩
  · rw [List.getElem?_take_of_lt (by omega)] at h1; exact h1
  · have := h2 k hk
    rw [List.getElem?_take_of_lt (by omega)] at this; exact this
/-- a line's bytes: the first ones -/
def fst (l : List UInt8) : List UInt8 := l.take ((eol l).toNat + 1)
theorem fst_len {l : List UInt8} (h : ¬ eol l < 0) : (fst l).length = (eol l).toNat + 1 := by
  unfold fst; rw [List.length_take]; have := (eol_at h).2.1; omega
section
variable {k : Nat} {l : List UInt8} {a c : Int} {L : List ByteArray}
theorem rd_short (hk : 0 < k) (he : eol l < 0) : rd k l a c L = bad (short l) := by
  obtain ⟨k, rfl⟩ : ∃ j, k = j + 1 := ⟨k - 1, by omega⟩
  rw [rd, if_pos he]
theorem rd_form (hk : 0 < k) (he : ¬ eol l < 0) (h : lOk (fst l) = false ∨ (0 < a ∧ lN (fst l) ≠ c)) : rd k l a c L = bad 141 := by
  obtain ⟨k, rfl⟩ : ∃ j, k = j + 1 := ⟨k - 1, by omega⟩
  rw [rd, if_neg he]; exact if_pos h
theorem rd_long (hk : 0 < k) (he : ¬ eol l < 0) (h : ¬ (lOk (fst l) = false ∨ (0 < a ∧ lN (fst l) ≠ c))) (h5 : L.length = 50) : rd k l a c L = bad 142 := by
  obtain ⟨k, rfl⟩ : ∃ j, k = j + 1 := ⟨k - 1, by omega⟩
  rw [rd, if_neg he]; exact (if_neg h).trans (if_pos h5)
theorem rd_more (hk : 0 < k) (he : ¬ eol l < 0) (h : ¬ (lOk (fst l) = false ∨ (0 < a ∧ lN (fst l) ≠ c))) (h5 : ¬ L.length = 50) (hm : lM (fst l) = true) :
    rd k l a c L = rd (k - 1) (l.drop ((eol l).toNat + 1)) (a + ((eol l).toNat + 1 : Nat)) (lN (fst l)) (L ++ [⟨(lT (fst l)).toArray⟩]) := by
  obtain ⟨k, rfl⟩ : ∃ j, k = j + 1 := ⟨k - 1, by omega⟩
  rw [rd, if_neg he]; exact (if_neg h).trans ((if_neg h5).trans (if_pos hm))
theorem rd_last (hk : 0 < k) (he : ¬ eol l < 0) (h : ¬ (lOk (fst l) = false ∨ (0 < a ∧ lN (fst l) ≠ c))) (h5 : ¬ L.length = 50) (hm : lM (fst l) = false) :
    rd k l a c L = ⟨lN (fst l), L ++ [⟨(lT (fst l)).toArray⟩], a + ((eol l).toNat + 1 : Nat), 0⟩ := by
  obtain ⟨k, rfl⟩ : ∃ j, k = j + 1 := ⟨k - 1, by omega⟩
  rw [rd, if_neg he]; exact (if_neg h).trans ((if_neg h5).trans (if_neg (by show ¬ lM (fst l) = true; rw [hm]; decide)))
end
end Go.Proofs.YteicojighhhgjaaDoor
