/-
  The fields of a content, in plain words. No program in sight. No condition.
-/
import Derived.Test.YtgbbadbffcjamaaDoorLnPl
namespace Go.Proofs.YtgbbadbffcjamaaDoor
set_option linter.unusedVariables false
/-- a field -/
structure Fd where
  nm : List UInt8
  bd : List UInt8
  fr : Nat
  tt : Nat
def nmC (c : UInt8) : Bool := decide (33 ≤ c.toNat ∧ c.toNat ≤ 126 ∧ c.toNat ≠ 58)
/-- may it be a field's name? -/
def nameB (s : List UInt8) : Bool := !s.isEmpty && s.all nmC
def blC (c : UInt8) : Bool := decide (c.toNat = 32 ∨ c.toNat = 9)
/-- a text's first line, and where the next one begins -/
def lnP (d : List UInt8) : List UInt8 × Nat := match cutCR d with
  | none => (d, d.length)
  | some (x, _) => (x, x.length + 2)
theorem lnP_le (d : List UInt8) : (lnP d).1.length ≤ (lnP d).2 ∧ (lnP d).2 ≤ d.length ∧ d.take (lnP d).1.length = (lnP d).1 := by
  unfold lnP
  cases h : cutCR d with
  | none => exact ⟨Nat.le_refl _, Nat.le_refl _, by simp⟩
  | some xy =>
    obtain ⟨x, y⟩ := xy
    obtain ⟨h1, _⟩ := cutCR_some h
    have hl : d.length = x.length + (y.length + 2) := by rw [h1]; simp
    refine ⟨by simp, by simp; omega, ?_⟩
    show d.take x.length = x
    rw [h1]; simp
theorem lnP_pos {d : List UInt8} (h : d ≠ []) : 0 < (lnP d).2 := by
  unfold lnP
  cases h' : cutCR d with
  | none =>
    show 0 < d.length
    exact List.length_pos_iff.2 h
  | some xy => show 0 < xy.1.length + 2; omega
/-- does it begin with a blank? -/
def blH (x : List UInt8) : Bool := match x with
  | [] => false
  | c :: _ => blC c
/-- the name and the rest of a line that begins a field -/
def colP (x : List UInt8) : Option (List UInt8 × List UInt8) := match cutAt 58 x with
  | none => none
  | some (n, r) => if nameB n then some (n, r) else none
/-- a field with one line more -/
def Fd.more (D : List UInt8) (g : Fd) (e nx : Nat) : Fd := ⟨g.nm, (D.drop (g.fr + g.nm.length + 1)).take (e - (g.fr + g.nm.length + 1)), g.fr, nx⟩
/-- what one line does: the fields, or where the body begins -/
def stepH (D : List UInt8) (at_ : Nat) (out : List Fd) : List Fd × Option Nat :=
  if out ≠ [] ∧ blH (lnP (D.drop at_)).1 = true then (match out.getLast? with
    | some g => out.dropLast ++ [g.more D (at_ + (lnP (D.drop at_)).1.length) (at_ + (lnP (D.drop at_)).2)]
    | none => [], none) else
  match colP (lnP (D.drop at_)).1 with
  | some (n, r) => (out ++ [⟨n, r, at_, at_ + (lnP (D.drop at_)).2⟩], none)
  | none => (out, some (if (lnP (D.drop at_)).1 = [] then at_ + (lnP (D.drop at_)).2 else at_))
def splH (D : List UInt8) : Nat → Nat → List Fd → List Fd × Nat
  | 0, at_, out => (out, at_)
  | f + 1, at_, out => if at_ < D.length then (match stepH D at_ out with
    | (o, some b) => (o, b)
    | (o, none) => splH D f (at_ + (lnP (D.drop at_)).2) o) else (out, at_)
theorem splH_end {D : List UInt8} {f at_ : Nat} {out : List Fd} (h : D.length ≤ at_) : splH D f at_ out = (out, at_) := by
  cases f with
  | zero => rfl
  | succ f => rw [splH, if_neg (by omega)]
/-- fuel is no matter -/
theorem splH_fuel {D : List UInt8} : ∀ (f f' at_ : Nat) (out : List Fd), D.length ≤ at_ + f → D.length ≤ at_ + f' → splH D f at_ out = splH D f' at_ out
  | 0, f', at_, out, h, _ => by rw [splH_end (by omega), splH_end (by omega)]
  | f + 1, 0, at_, out, _, h => by rw [splH_end (by omega), splH_end (by omega)]
  | f + 1, f' + 1, at_, out, h1, h2 => by
    by_cases hl : at_ < D.length
    · rw [splH, splH, if_pos hl, if_pos hl]
      have hne : D.drop at_ ≠ [] := by
        intro e
        have := congrArg List.length e
        rw [List.length_drop] at this
        simp at this
        omega
      have hp := lnP_pos hne
      generalize (lnP (D.drop at_)).2 = q at *
      cases stepH D at_ out with
      | mk o b =>
        cases b with
        | some b => rfl
        | none => exact splH_fuel f f' (at_ + q) o (by omega) (by omega)
    · rw [splH_end (by omega), splH_end (by omega)]
def splP (D : List UInt8) : List Fd × Nat := splH D D.length 0 []
/-- the fields and the body of a content; what is wrong with it -/
def split11 (D : List UInt8) : List Fd × Nat × Int :=
  if 65536 < (match (splP D).1.getLast? with | some g => g.tt | none => 0) then ([], 0, 111) else
  if 1000 < (splP D).1.length then ([], 0, 112) else ((splP D).1, (splP D).2, 0)
end Go.Proofs.YtgbbadbffcjamaaDoor
