/-
  A table's text, its lines, its entries: the program's way, in plain words. No program in sight. No condition.
-/
import Derived.Test.YtlknclkkhincfaaDoorLibAll
import Derived.Lib.SlTrimSet
import Derived.Lib.IndexMore
import Derived.Lib.IndexLaws
import Derived.Lib.IndexAny
import Derived.Lib.Join
import Derived.Shelf.GgClosure.StringsIndexFunc
namespace Go.Proofs.YtlknclkkhincfaaDoor
set_option linter.unusedVariables false

/-! ### blanks -/
def isBl (c : UInt8) : Bool := c == 32 || c == 9
def trimL (l : List UInt8) : List UInt8 := l.dropWhile isBl
def trimR (l : List UInt8) : List UInt8 := (l.reverse.dropWhile isBl).reverse
def trimB (l : List UInt8) : List UInt8 := trimL (trimR l)
theorem bl_set : (fun b => ([32, 9] : List UInt8).contains b) = isBl := by
  funext b
  simp only [List.contains_cons, List.contains_nil, Bool.or_false]
  rfl
theorem trimL_lib (l : List UInt8) : Lib.trimLeftS l [32, 9] = trimL l := by unfold Lib.trimLeftS trimL; rw [bl_set]
theorem trimR_lib (l : List UInt8) : Lib.trimRightS l [32, 9] = trimR l := by unfold Lib.trimRightS trimR; rw [bl_set]
theorem trimB_lib (l : List UInt8) : Lib.trimS l [32, 9] = trimB l := by unfold Lib.trimS trimB; rw [trimR_lib, trimL_lib]
theorem trimL_len (l : List UInt8) : (trimL l).length ≤ l.length := by unfold trimL; exact (List.dropWhile_suffix _).length_le
theorem trimR_len (l : List UInt8) : (trimR l).length ≤ l.length := by
  unfold trimR
  rw [List.length_reverse]
  have := (List.dropWhile_suffix isBl (l := l.reverse)).length_le
  rw [List.length_reverse] at this
  exact this
theorem trimB_len (l : List UInt8) : (trimB l).length ≤ l.length := Nat.le_trans (trimL_len _) (trimR_len _)
/-! ### lines -/
/-- up to the first end of a line -/
def lineOf (l : List UInt8) : List UInt8 := l.takeWhile fun c => !(c == 10)
theorem lineOf_len (l : List UInt8) : (lineOf l).length ≤ l.length := by unfold lineOf; exact (List.takeWhile_prefix _).length_le
theorem lineOf_eq {h R : List UInt8} (hn : ∀ b ∈ h, b ≠ 10) (hR : R = [] ∨ ∃ t, R = 10 :: t) : lineOf (h ++ R) = h := by
  unfold lineOf
  rw [List.takeWhile_append_of_pos (by intro a ha; simpa using hn a ha)]
  rcases hR with rfl | ⟨t, rfl⟩
  · simp
  · rw [List.takeWhile_cons_of_neg (by simp), List.append_nil]
theorem lineOf_split (l : List UInt8) : ∃ R, l = lineOf l ++ R ∧ (R = [] ∨ ∃ t, R = 10 :: t) ∧ ∀ b ∈ lineOf l, b ≠ 10 := by
  induction l with
  | nil => exact ⟨[], rfl, .inl rfl, by simp [lineOf]⟩
  | cons c r ih =>
    by_cases hc : c = 10
    · subst hc
      exact ⟨10 :: r, rfl, .inr ⟨r, rfl⟩, by simp [lineOf]⟩
    · obtain ⟨R, h1, h2, h3⟩ := ih
      have e : lineOf (c :: r) = c :: lineOf r := by unfold lineOf; rw [List.takeWhile_cons_of_pos (by simpa using hc)]
      refine ⟨R, by rw [e, List.cons_append, ← h1], h2, fun b hb => ?_⟩
      rw [e] at hb
      rcases List.mem_cons.1 hb with rfl | hb
      · exact hc
      · exact h3 b hb
/-- what strings.Cut gives -/
theorem cut_line (l : List UInt8) : (Lib.cut l [10]).1 = lineOf l := by
  induction l with
  | nil => rfl
  | cons c r ih =>
    by_cases hc : c = 10
    · subst hc
      have : lineOf (10 :: r) = [] := by simp [lineOf]
      rw [this]
      unfold Lib.cut
      have e : Lib.index (10 :: r) [10] = 0 := by rw [Lib.index]; simp [List.isPrefixOf]
      rw [e]
      rfl
    · have e : lineOf (c :: r) = c :: lineOf r := by unfold lineOf; rw [List.takeWhile_cons_of_pos (by simpa using hc)]
      rw [e, ← ih]
      unfold Lib.cut
      have hp : ([10] : List UInt8).isPrefixOf (c :: r) = false := by simp [List.isPrefixOf, Ne.symm hc]
      have e2 : Lib.index (c :: r) [10] = if Lib.index r [10] = -1 then -1 else Lib.index r [10] + 1 := by rw [Lib.index, hp]; simp
      rw [e2]
      have hg := Lib.index_ge r [10]
      by_cases h1 : Lib.index r [10] = -1
      · rw [h1]; rfl
      · rw [if_neg h1, if_pos (by omega), if_pos (by omega)]
        have : (Lib.index r [10] + 1).toNat = (Lib.index r [10]).toNat + 1 := by omega
        rw [this]
        rfl
/-- an entry's line: where it begins, its key, its pieces -/
structure PL where
  at_ : Nat
  key : List UInt8
  ps : List (List UInt8)
def addP (x : PL) (s : List UInt8) : PL := if trimB s = [] then x else { x with ps := x.ps ++ [trimB s] }
def firstBl (s : List UInt8) : Nat := (s.takeWhile fun c => !isBl c).length
theorem firstBl_le (s : List UInt8) : firstBl s ≤ s.length := (List.takeWhile_prefix _).length_le
theorem firstBl_any (s : List UInt8) : Lib.indexAny (s ++ [32]) [32, 9] = (firstBl s : Int) := by
  have hb : ∀ b, ([32, 9] : List UInt8).contains b = isBl b := fun b => congrFun bl_set b
  induction s with
  | nil => rfl
  | cons c r ih =>
    unfold firstBl at ih ⊢
    rw [List.cons_append, Lib.indexAny, hb]
    by_cases hc : isBl c = true
    · rw [if_pos hc, List.takeWhile_cons_of_neg (by simp [hc])]; simp
    · rw [if_neg hc, ih, List.takeWhile_cons_of_pos (by simp [hc])]
      have : ((((r.takeWhile fun c => !isBl c).length : Nat) : Int) == -1) = false := beq_eq_false_iff_ne.2 (by omega)
      rw [this]
      simp
/-- lines, and the place at which something is wrong, behind one more line -/
def skipB (s : List UInt8) : Bool := (trimB (trimL s)).isEmpty || (trimL s).head? == some 35
def headB (s : List UInt8) : Bool := (trimL s).length == s.length
def newPL (at_ : Nat) (s : List UInt8) : PL := addP ⟨at_, Lib.mapD lowU (s.take (firstBl s)), []⟩ (s.drop (firstBl s))
def modLast (out : List PL) (s : List UInt8) : List PL := match out.getLast? with
  | none => out
  | some x => out.dropLast ++ [addP x s]
def worse (bad : Int) (at_ : Nat) : Int := if bad < 0 ∨ (at_ : Int) < bad then at_ else bad
def cutStep (at_ : Nat) (s : List UInt8) (o : List PL × Int) : List PL × Int :=
  if skipB s then o else if headB s then (o.1 ++ [newPL at_ s], o.2) else if o.1 = [] then (o.1, worse o.2 at_) else (modLast o.1 s, o.2)
def cutGo : Nat → List UInt8 → Nat → List PL × Int → List PL × Int
  | 0, _, _, o => o
  | f + 1, rest, at_, o => if rest = [] then o else cutGo f (rest.drop ((lineOf rest).length + 1)) (at_ + (lineOf rest).length + 1) (cutStep at_ (lineOf rest) o)
theorem cutGo_nil (f at_ : Nat) (o : List PL × Int) : cutGo f [] at_ o = o := by cases f <;> simp [cutGo]
theorem cutGo_fuel : ∀ (f g : Nat) (rest : List UInt8) (at_ : Nat) (o : List PL × Int), rest.length ≤ f → rest.length ≤ g → cutGo f rest at_ o = cutGo g rest at_ o
  | 0, g, rest, at_, o, h1, h2 => by
    obtain rfl : rest = [] := List.eq_nil_of_length_eq_zero (by omega)
    rw [cutGo_nil, cutGo_nil]
  | f + 1, 0, rest, at_, o, h1, h2 => by
    obtain rfl : rest = [] := List.eq_nil_of_length_eq_zero (by omega)
    rw [cutGo_nil, cutGo_nil]
  | f + 1, g + 1, rest, at_, o, h1, h2 => by
    rw [cutGo, cutGo]
    split
    · rfl
    · rename_i hr
      have : 0 < rest.length := List.length_pos_iff.2 hr
      exact cutGo_fuel f g _ _ _ (by rw [List.length_drop]; omega) (by rw [List.length_drop]; omega)
/-- at which rune something is wrong -/
def badR (x : Nat) : Bool := !(x == 9) && !(x == 10) && (decide (x < 32) || decide (126 < x))
def cutP (text : List UInt8) : List PL × Int := cutGo text.length text 0 ([], Lib.idxFunc badR true ⟨text.toArray⟩)

/-! ### entries -/
structure En where
  k : List UInt8
  v : List UInt8
def posE (T : List En) (key : List UInt8) : Nat := T.countP fun e => decide (e.k < key)
def hasE (T : List En) (key : List UInt8) : Bool := match T[posE T key]? with
  | some e => e.k == key
  | none => false
def putE (T : List En) (x : En) : List En := T.take (posE T x.k) ++ x :: T.drop (posE T x.k)
def sortE (T : List En) : Prop := T.Pairwise fun a b => a.k < b.k
def joinB : List (List UInt8) → List UInt8 := fun ps => Lib.join ps [32]
/-- the table, or what is wrong and where -/
def parseGo : List PL → List En → Int → Int → (List En × Int × Int)
  | [], T, c, a => (T, c, a)
  | x :: r, T, c, a =>
    if ¬ c = 0 ∧ a ≤ (x.at_ : Int) then (T, c, a)
    else if 320 < x.key.length ∨ joinB x.ps = [] ∨ 1000 < (joinB x.ps).length then (T, 61, x.at_)
    else if hasE T x.key then (T, 63, x.at_)
    else if T.length = 2000 then (T, 62, x.at_)
    else parseGo r (putE T ⟨x.key, joinB x.ps⟩) c a
def parseP (text : List UInt8) : List En × Int × Int :=
  if 262144 < text.length then ([], 60, 262144)
  else parseGo (cutP text).1 [] (if 0 ≤ (cutP text).2 then 61 else 0) (cutP text).2
end Go.Proofs.YtlknclkkhincfaaDoor
