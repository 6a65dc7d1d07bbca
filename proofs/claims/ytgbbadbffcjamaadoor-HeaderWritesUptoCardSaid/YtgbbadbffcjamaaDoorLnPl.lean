/-
  Lines of a stream, contents and their dots, in plain words. No program in sight. No condition.
-/
import Derived.Test.YtgbbadbffcjamaaDoorLib
import Derived.Lib.IndexLaws
import Derived.Lib.CountLaws
import Derived.Lib.Bytes2
namespace Go.Proofs.YtgbbadbffcjamaaDoor
set_option linter.unusedVariables false

/-- the first byte c: what stands ahead of it, what behind -/
def cutAt (c : UInt8) : List UInt8 → Option (List UInt8 × List UInt8)
  | [] => none
  | b :: r => if b = c then some ([], r) else match cutAt c r with
    | none => none
    | some (x, y) => some (b :: x, y)
theorem cutAt_some {c : UInt8} : ∀ {l x y : List UInt8}, cutAt c l = some (x, y) → l = x ++ c :: y ∧ c ∉ x
  | [], _, _, h => by cases h
  | b :: r, x, y, h => by
    unfold cutAt at h
    split at h
    · rename_i hb
      injection h with h
      injection h with h1 h2
      subst h1 h2
      exact ⟨by rw [hb]; rfl, by simp⟩
    · rename_i hb
      split at h
      · cases h
      · rename_i x' y' e
        injection h with h
        injection h with h1 h2
        subst h1 h2
        obtain ⟨h3, h4⟩ := cutAt_some e
        exact ⟨by rw [h3]; rfl, fun hm => by rcases List.mem_cons.1 hm with h5 | h5; exact hb h5.symm; exact h4 h5⟩
theorem cutAt_none {c : UInt8} : ∀ {l : List UInt8}, cutAt c l = none → c ∉ l
  | [], _ => by simp
  | b :: r, h => by
    unfold cutAt at h
    split at h
    · cases h
    · rename_i hb
      split at h
      · rename_i e
        have := cutAt_none e
        exact fun hm => by rcases List.mem_cons.1 hm with h5 | h5; exact hb h5.symm; exact this h5
      · cases h
theorem cutAt_app {c : UInt8} : ∀ {x : List UInt8} (y : List UInt8), c ∉ x → cutAt c (x ++ c :: y) = some (x, y)
  | [], y, _ => if_pos rfl
  | b :: x, y, h => by
    have hb : ¬ b = c := fun e => h (by simp [e])
    rw [List.cons_append, cutAt, if_neg hb, cutAt_app y (fun hm => h (by simp [hm]))]
theorem cutAt_not {c : UInt8} : ∀ {l : List UInt8}, c ∉ l → cutAt c l = none
  | [], _ => rfl
  | b :: r, h => by
    have hb : ¬ b = c := fun e => h (by simp [e])
    rw [cutAt, if_neg hb, cutAt_not (fun hm => h (by simp [hm]))]
theorem cutAt_more {c : UInt8} {l x y : List UInt8} (m : List UInt8) (h : cutAt c l = some (x, y)) : cutAt c (l ++ m) = some (x, y ++ m) := by
  obtain ⟨h1, h2⟩ := cutAt_some h
  rw [h1, List.append_assoc, List.cons_append]
  exact cutAt_app _ h2
/-- a line, its end struck, and what is wrong with it -/
def nxLine (most : Nat) (x : List UInt8) : List UInt8 × Int :=
  if most < (Lib.trimSuffix x [13]).length then ((Lib.trimSuffix x [13]).take most, 120) else
  if (0 : UInt8) ∈ Lib.trimSuffix x [13] then (Lib.trimSuffix x [13], 122) else
  if Lib.hasSuffix x [13] = false ∨ (13 : UInt8) ∈ Lib.trimSuffix x [13] then (Lib.trimSuffix x [13], 121) else (Lib.trimSuffix x [13], 0)
def nextP (most : Nat) (l : List UInt8) : Option ((List UInt8 × Int) × List UInt8) := match cutAt 10 l with
  | none => none
  | some (x, y) => some (nxLine most x, y)
theorem next_more {most : Nat} {l y : List UInt8} {r : List UInt8 × Int} (m : List UInt8) (h : nextP most l = some (r, y)) : nextP most (l ++ m) = some (r, y ++ m) := by
  unfold nextP at h ⊢
  split at h
  · cases h
  · rename_i x y' e
    injection h with h
    injection h with h1 h2
    subst h1 h2
    rw [cutAt_more m e]
theorem next_len {most : Nat} {l y : List UInt8} {r : List UInt8 × Int} (h : nextP most l = some (r, y)) : y.length < l.length := by
  unfold nextP at h
  split at h
  · cases h
  · rename_i x y' e
    injection h with h
    injection h with h1 h2
    subst h2
    rw [(cutAt_some e).1]
    simp
    omega
/-! ### contents -/
def cutCR : List UInt8 → Option (List UInt8 × List UInt8)
  | [] => none
  | [_] => none
  | a :: b :: r => if a = 13 ∧ b = 10 then some ([], r) else match cutCR (b :: r) with
    | none => none
    | some (x, y) => some (a :: x, y)
/-- no CR LF in it -/
def noCR (l : List UInt8) : Prop := ∀ u v, l ≠ u ++ 13 :: 10 :: v
theorem cutCR_none : ∀ {l : List UInt8}, cutCR l = none → noCR l
  | [], _ => fun u v h => by cases u <;> simp at h
  | [a], _ => fun u v h => by
    cases u with
    | nil => simp at h
    | cons p t => cases t <;> simp at h
  | a :: b :: r, h => fun u v e => by
    rw [cutCR] at h
    split at h
    · cases h
    · rename_i hab
      split at h
      · rename_i e2
        have ih := cutCR_none e2
        cases u with
        | nil =>
          simp only [List.nil_append, List.cons.injEq] at e
          exact hab ⟨e.1, e.2.1⟩
        | cons p t =>
          simp only [List.cons_append, List.cons.injEq] at e
          exact ih t v e.2
      · cases h
theorem cutCR_some : ∀ {l x y : List UInt8}, cutCR l = some (x, y) → l = x ++ 13 :: 10 :: y ∧ noCR (x ++ [13])
  | [], _, _, h => by cases h
  | [a], _, _, h => by cases h
  | a :: b :: r, x, y, h => by
    rw [cutCR] at h
    split at h
    · rename_i hab
      injection h with h
      injection h with h1 h2
      subst h1 h2
      refine ⟨by rw [hab.1, hab.2]; rfl, fun u v e => ?_⟩
      cases u with
      | nil => simp at e
      | cons p t => cases t <;> simp at e
    · rename_i hab
      split at h
      · cases h
      · rename_i x' y' e2
        injection h with h
        injection h with h1 h2
        subst h1 h2
        obtain ⟨h3, h4⟩ := cutCR_some e2
        refine ⟨by rw [h3]; rfl, fun u v e => ?_⟩
        cases u with
        | nil =>
          simp only [List.nil_append, List.cons_append, List.cons.injEq] at e
          cases x' with
          | nil => simp at e
          | cons p t =>
            simp only [List.cons_append, List.cons.injEq] at e h3
            exact hab ⟨e.1, by rw [h3.1]; exact e.2.1⟩
        | cons p t =>
          simp only [List.cons_append, List.cons.injEq] at e
          exact h4 t v e.2
def contF : Nat → List UInt8 → Bool → Int
  | 0, _, _ => 0
  | n + 1, d, long => if d = [] then (if long = true then 120 else 0) else match cutCR d with
    | none => 121
    | some (x, y) => if (13 : UInt8) ∈ x ∨ (10 : UInt8) ∈ x then 121 else contF n y (long || decide (998 < x.length))
/-- what is wrong with a content; 0: nothing -/
def contP (d : List UInt8) : Int := if (0 : UInt8) ∈ d then 122 else contF (d.length + 1) d false
/-- the document's scan -/
def rC (prev : UInt8) : List UInt8 → Int → Bool → Bool → Int
  | [], n, long, bare => if bare = true then 121 else if long = true then 120 else 0
  | c :: r, n, long, bare =>
    if c = 0 then 122 else
    if c = 13 then rC 13 r (n + 1) long (bare || decide (r.head? ≠ some 10)) else
    if c = 10 then rC 10 r 0 (long || decide (998 < n - 1)) (bare || decide (prev ≠ 13)) else
    rC c r (n + 1) long bare
def bareEnd (d : List UInt8) : Bool := decide (d ≠ [] ∧ d.getLast? ≠ some 10)
def refC (d : List UInt8) : Int := rC 0 d 0 false (bareEnd d)
theorem rC_nul : ∀ (d : List UInt8) (p : UInt8) (n : Int) (long bare : Bool), (0 : UInt8) ∈ d → rC p d n long bare = 122
  | [], _, _, _, _, h => by cases h
  | c :: r, p, n, long, bare, h => by
    rw [rC]
    by_cases h0 : c = 0
    · rw [if_pos h0]
    · have hr : (0 : UInt8) ∈ r := by rcases List.mem_cons.1 h with h | h; exact absurd h.symm h0; exact h
      rw [if_neg h0]
      split
      · exact rC_nul r _ _ _ _ hr
      split
      · exact rC_nul r _ _ _ _ hr
      · exact rC_nul r _ _ _ _ hr
theorem rC_bare : ∀ (d : List UInt8) (p : UInt8) (n : Int) (long : Bool), (0 : UInt8) ∉ d → rC p d n long true = 121
  | [], _, _, _, _ => rfl
  | c :: r, p, n, long, h => by
    have h0 : ¬ c = 0 := fun e => h (by simp [e])
    have hr : (0 : UInt8) ∉ r := fun e => h (by simp [e])
    rw [rC, if_neg h0]
    simp only [Bool.true_or]
    split
    · exact rC_bare r _ _ _ hr
    split
    · exact rC_bare r _ _ _ hr
    · exact rC_bare r _ _ _ hr
theorem rC_cr : ∀ (u v : List UInt8) (p : UInt8) (n : Int) (long bare : Bool), (0 : UInt8) ∉ u ++ 13 :: v → v.head? ≠ some 10 → rC p (u ++ 13 :: v) n long bare = 121
  | [], v, p, n, long, bare, h, hv => by
    rw [List.nil_append, rC, if_neg (by decide), if_pos rfl, decide_eq_true hv, Bool.or_true]
    exact rC_bare v _ _ _ (fun e => h (by simp [e]))
  | c :: u, v, p, n, long, bare, h, hv => by
    have h0 : ¬ c = 0 := fun e => h (by simp [e])
    have hr : (0 : UInt8) ∉ u ++ 13 :: v := fun e => h (by rw [List.cons_append]; exact List.mem_cons_of_mem _ e)
    rw [List.cons_append, rC, if_neg h0]
    split
    · exact rC_cr u v _ _ _ _ hr hv
    split
    · exact rC_cr u v _ _ _ _ hr hv
    · exact rC_cr u v _ _ _ _ hr hv
theorem rC_lf : ∀ (u v : List UInt8) (p : UInt8) (n : Int) (long bare : Bool), (0 : UInt8) ∉ u ++ 10 :: v → u.getLast?.getD p ≠ 13 → rC p (u ++ 10 :: v) n long bare = 121
  | [], v, p, n, long, bare, h, hv => by
    rw [List.nil_append, rC, if_neg (by decide), if_neg (by decide), if_pos rfl, decide_eq_true (show p ≠ 13 from hv), Bool.or_true]
    exact rC_bare v _ _ _ (fun e => h (by simp [e]))
  | c :: u, v, p, n, long, bare, h, hv => by
    have h0 : ¬ c = 0 := fun e => h (by simp [e])
    have hr : (0 : UInt8) ∉ u ++ 10 :: v := fun e => h (by rw [List.cons_append]; exact List.mem_cons_of_mem _ e)
    have hl : u.getLast?.getD c ≠ 13 := by
      cases u with
      | nil => simpa using hv
      | cons a t => rw [List.getLast?_cons_cons] at hv; rw [List.getLast?_cons] at hv ⊢; simpa using hv
    rw [List.cons_append, rC, if_neg h0]
    split
    · rename_i h13; subst h13; exact rC_lf u v _ _ _ _ hr hl
    split
    · rename_i h10; subst h10; exact rC_lf u v _ _ _ _ hr hl
    · exact rC_lf u v _ _ _ _ hr hl
theorem rC_line : ∀ (x y : List UInt8) (p : UInt8) (n : Int) (long bare : Bool), (0 : UInt8) ∉ x → (13 : UInt8) ∉ x → (10 : UInt8) ∉ x →
    rC p (x ++ 13 :: 10 :: y) n long bare = rC 10 y 0 (long || decide (998 < n + x.length)) bare
  | [], y, p, n, long, bare, _, _, _ => by
    rw [List.nil_append, rC, if_neg (by decide), if_pos rfl, rC, if_neg (by decide), if_neg (by decide), if_pos rfl]
    simp
  | c :: x, y, p, n, long, bare, h0, h13, h10 => by
    have a0 : ¬ c = 0 := fun e => h0 (by simp [e])
    have a13 : ¬ c = 13 := fun e => h13 (by simp [e])
    have a10 : ¬ c = 10 := fun e => h10 (by simp [e])
    rw [List.cons_append, rC, if_neg a0, if_neg a13, if_neg a10, rC_line x y c (n + 1) long bare (fun e => h0 (by simp [e])) (fun e => h13 (by simp [e])) (fun e => h10 (by simp [e]))]
    congr 2
    congr 1
    simp; omega
theorem bareEnd_line (x y : List UInt8) : bareEnd (x ++ 13 :: 10 :: y) = bareEnd y := by
  unfold bareEnd
  cases y with
  | nil => simp
  | cons a t => simp [List.getLast?_append, List.getLast?_cons]
theorem cont_eqF : ∀ (k : Nat) (d : List UInt8) (n : Nat) (p : UInt8) (long : Bool), d.length ≤ k → d.length < n → (0 : UInt8) ∉ d → p ≠ 13 → rC p d 0 long (bareEnd d) = contF n d long
  | k, d, 0, p, long, _, hn, _, _ => by omega
  | k, d, n + 1, p, long, hk, hn, h0, hp => by
    rw [contF]
    by_cases hd : d = []
    · subst hd; rfl
    · rw [if_neg hd]
      cases e : cutCR d with
      | none =>
        have hno := cutCR_none e
        show rC p d 0 long (bareEnd d) = 121
        by_cases hb : d.getLast? = some 10
        · obtain ⟨z, hz⟩ : ∃ z, d = z ++ [10] := by
            rw [List.getLast?_eq_some_iff] at hb
            exact hb
          have hlast : z.getLast? ≠ some 13 := fun h13 => by
            rw [List.getLast?_eq_some_iff] at h13
            obtain ⟨z', hz'⟩ := h13
            exact hno z' [] (by rw [hz, hz']; simp)
          rw [hz]
          refine rC_lf z [] p 0 long _ (by rw [← hz]; exact h0) ?_
          cases hzl : z.getLast? with
          | none => exact hp
          | some a => rw [hzl] at hlast; exact fun e => hlast (by rw [← e]; rfl)
        · have : bareEnd d = true := decide_eq_true ⟨hd, hb⟩
          rw [this]
          exact rC_bare d _ _ _ h0
      | some xy =>
        obtain ⟨x, y⟩ := xy
        obtain ⟨h1, h2⟩ := cutCR_some e
        show rC p d 0 long (bareEnd d) = if (13 : UInt8) ∈ x ∨ (10 : UInt8) ∈ x then 121 else contF n y (long || decide (998 < x.length))
        have hx0 : (0 : UInt8) ∉ x := fun h => h0 (by rw [h1]; simp [h])
        have hy0 : (0 : UInt8) ∉ y := fun h => h0 (by rw [h1]; simp [h])
        by_cases h13 : (13 : UInt8) ∈ x
        · rw [if_pos (.inl h13)]
          obtain ⟨u, v, huv⟩ := List.append_of_mem h13
          have e1 : d = u ++ 13 :: (v ++ 13 :: 10 :: y) := by rw [h1, huv]; simp
          rw [e1]
          refine rC_cr u _ p 0 long _ (by rw [← e1]; exact h0) ?_
          cases v with
          | nil => simp
          | cons a t =>
            intro ha
            simp only [List.cons_append, List.head?_cons, Option.some.injEq] at ha
            exact h2 u (t ++ [13]) (by rw [huv, ha]; simp)
        · by_cases h10 : (10 : UInt8) ∈ x
          · rw [if_pos (.inr h10)]
            obtain ⟨u, v, huv⟩ := List.append_of_mem h10
            have e1 : d = u ++ 10 :: (v ++ 13 :: 10 :: y) := by rw [h1, huv]; simp
            rw [e1]
            refine rC_lf u _ p 0 long _ (by rw [← e1]; exact h0) ?_
            cases hul : u.getLast? with
            | none => exact hp
            | some a =>
              intro ha
              have ha' : a = 13 := ha
              subst ha'
              rw [List.getLast?_eq_some_iff] at hul
              obtain ⟨u', hu'⟩ := hul
              exact h13 (by rw [huv, hu']; simp)
          · rw [if_neg (fun h => h.elim h13 h10), h1, bareEnd_line, rC_line x y p 0 long _ hx0 h13 h10]
            have hl : d.length = x.length + (y.length + 2) := by rw [h1]; simp
            have := cont_eqF (k - 1) y n 10 (long || decide (998 < x.length)) (by omega) (by omega) hy0 (by decide)
            rw [← this]
            congr 3
            simp
            omega
theorem cont_eq (d : List UInt8) : refC d = contP d := by
  unfold refC contP
  by_cases h0 : (0 : UInt8) ∈ d
  · rw [if_pos h0]; exact rC_nul d _ _ _ _ h0
  · rw [if_neg h0]; exact cont_eqF d.length d _ 0 false (Nat.le_refl _) (by omega) h0 (by decide)
end Go.Proofs.YtgbbadbffcjamaaDoor
