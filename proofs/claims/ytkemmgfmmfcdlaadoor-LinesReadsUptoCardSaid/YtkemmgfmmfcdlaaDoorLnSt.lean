/-
  How a content is sent, and that its lines come back, in plain words. No program in sight. No condition.
-/
import Derived.Test.YtkemmgfmmfcdlaaDoorLnPl
namespace Go.Proofs.YtkemmgfmmfcdlaaDoor
set_option linter.unusedVariables false

/-- a content of lines -/
def joinL : List (List UInt8) → List UInt8
  | [] => []
  | x :: r => x ++ 13 :: 10 :: joinL r
def cleanL (x : List UInt8) : Prop := (0 : UInt8) ∉ x ∧ (13 : UInt8) ∉ x ∧ (10 : UInt8) ∉ x
theorem contF_lines : ∀ (n : Nat) (d : List UInt8) (long : Bool), d.length < n → (0 : UInt8) ∉ d → contF n d long = 0 → long = false ∧ ∃ L, d = joinL L ∧ ∀ x ∈ L, cleanL x ∧ x.length ≤ 998
  | 0, d, long, hn, _, _ => by omega
  | n + 1, d, long, hn, h0, h => by
    rw [contF] at h
    by_cases hd : d = []
    · rw [if_pos hd] at h
      cases long
      · exact ⟨rfl, [], hd, by simp⟩
      · exact absurd h (by decide)
    · rw [if_neg hd] at h
      cases e : cutCR d with
      | none => rw [e] at h; simp at h
      | some xy =>
        obtain ⟨x, y⟩ := xy
        rw [e] at h
        simp only [] at h
        obtain ⟨h1, h2⟩ := cutCR_some e
        have hl : d.length = x.length + (y.length + 2) := by rw [h1]; simp
        by_cases hc : (13 : UInt8) ∈ x ∨ (10 : UInt8) ∈ x
        · rw [if_pos hc] at h; exact absurd h (by decide)
        · rw [if_neg hc] at h
          obtain ⟨hlg, L, hL, hx⟩ := contF_lines n y _ (by omega) (fun hm => h0 (by rw [h1]; simp [hm])) h
          simp only [Bool.or_eq_false_iff, decide_eq_false_iff_not] at hlg
          refine ⟨hlg.1, x :: L, by rw [h1, hL]; rfl, fun z hz => ?_⟩
          rcases List.mem_cons.1 hz with rfl | hz
          · exact ⟨⟨fun hm => h0 (by rw [h1]; simp [hm]), fun hm => hc (.inl hm), fun hm => hc (.inr hm)⟩, by omega⟩
          · exact hx z hz
theorem cont_lines {d : List UInt8} (h : contP d = 0) : ∃ L, d = joinL L ∧ ∀ x ∈ L, cleanL x ∧ x.length ≤ 998 := by
  unfold contP at h
  by_cases h0 : (0 : UInt8) ∈ d
  · rw [if_pos h0] at h; exact absurd h (by decide)
  · rw [if_neg h0] at h
    exact (contF_lines _ d false (by omega) h0 h).2
/-- one line as it is sent -/
def stuffLn (x : List UInt8) : List UInt8 := if x.head? = some 46 then 46 :: x else x
/-- the document's way -/
def rS (prev : UInt8) : List UInt8 → List UInt8
  | [] => []
  | c :: r => if c = 46 ∧ prev = 10 then 46 :: c :: rS c r else c :: rS c r
theorem rS_run : ∀ (x y : List UInt8) (p : UInt8), p ≠ 10 → (10 : UInt8) ∉ x → rS p (x ++ 13 :: 10 :: y) = x ++ 13 :: 10 :: rS 10 y
  | [], y, p, hp, _ => by
    rw [List.nil_append, rS, if_neg (fun e => absurd e.1 (by decide)), rS, if_neg (by decide)]
    rfl
  | c :: x, y, p, hp, h => by
    rw [List.cons_append, rS, if_neg (fun e => hp e.2), rS_run x y c (fun e => h (by simp [e])) (fun e => h (by simp [e]))]
    rfl
theorem rS_line (x y : List UInt8) (h : (10 : UInt8) ∉ x) : rS 10 (x ++ 13 :: 10 :: y) = stuffLn x ++ 13 :: 10 :: rS 10 y := by
  cases x with
  | nil =>
    rw [List.nil_append, rS, if_neg (by decide), rS, if_neg (by decide)]
    rfl
  | cons c x =>
    have hc : c ≠ 10 := fun e => h (by simp [e])
    rw [List.cons_append, rS, rS_run x y c hc (fun e => h (by simp [e]))]
    unfold stuffLn
    by_cases h46 : c = 46
    · rw [if_pos ⟨h46, rfl⟩, if_pos (by rw [h46]; rfl)]; subst h46; rfl
    · rw [if_neg (fun e => h46 e.1), if_neg (by simpa using h46)]; rfl
theorem rS_lines : ∀ L : List (List UInt8), (∀ x ∈ L, cleanL x) → rS 10 (joinL L) = joinL (L.map stuffLn)
  | [], _ => rfl
  | x :: L, h => by
    rw [joinL, rS_line x _ (h x (by simp)).2.2, rS_lines L (fun y hy => h y (by simp [hy]))]
    rfl
/-- old, replaced everywhere -/
def replS (old new : List UInt8) : Nat → List UInt8 → List UInt8
  | 0, s => s
  | k + 1, s => if Lib.index s old = -1 then s else s.take (Lib.index s old).toNat ++ new ++ replS old new k (s.drop ((Lib.index s old).toNat + old.length))
def dots : List UInt8 := [13, 10, 46]
theorem idx_dot_hit (r : List UInt8) : Lib.index (13 :: 10 :: 46 :: r) dots = 0 := by rw [Lib.index]; simp [dots, List.isPrefixOf]
theorem idx_dot_miss {c : UInt8} {r : List UInt8} (h : dots.isPrefixOf (c :: r) = false) : Lib.index (c :: r) dots = if Lib.index r dots = -1 then -1 else Lib.index r dots + 1 := by
  rw [Lib.index, h]; simp
theorem count_dot_hit (r : List UInt8) : Lib.count (13 :: 10 :: 46 :: r) dots = 1 + Lib.count r dots := by
  have := Lib.count_hit (sub := dots) (s := 13 :: 10 :: 46 :: r) (i := 0) (by simp [dots]) (idx_dot_hit r)
  simpa [dots] using this
theorem count_dot_miss {c : UInt8} {r : List UInt8} (h : dots.isPrefixOf (c :: r) = false) : Lib.count (c :: r) dots = Lib.count r dots := by
  have hx := idx_dot_miss h
  by_cases hm : Lib.index r dots = -1
  · rw [Lib.count_miss hm, Lib.count_miss (by rw [hx, if_pos hm])]
  · have hge := Lib.index_ge r dots
    obtain ⟨j, hj⟩ : ∃ j : Nat, Lib.index r dots = j := ⟨(Lib.index r dots).toNat, by omega⟩
    have hx' : Lib.index (c :: r) dots = ((j + 1 : Nat) : Int) := by rw [hx, if_neg hm, hj]; omega
    rw [Lib.count_hit (by simp [dots]) hj, Lib.count_hit (by simp [dots]) hx']
    simp [dots]
/-- what ReplaceAll makes of a content -/
def repl (s : List UInt8) : List UInt8 := replS dots [13, 10, 46, 46] (Lib.count s dots) s
theorem repl_miss {c : UInt8} {r : List UInt8} (h : dots.isPrefixOf (c :: r) = false) : repl (c :: r) = c :: repl r := by
  unfold repl
  rw [count_dot_miss h]
  cases hk : Lib.count r dots with
  | zero => rfl
  | succ k =>
    have hx := idx_dot_miss h
    by_cases hm : Lib.index r dots = -1
    · rw [Lib.count_miss hm] at hk; omega
    · have hge := Lib.index_ge r dots
      obtain ⟨j, hj⟩ : ∃ j : Nat, Lib.index r dots = j := ⟨(Lib.index r dots).toNat, by omega⟩
      rw [replS, replS, hx, if_neg hm, if_neg hm, hj, if_neg (by omega)]
      have e1 : ((j : Int) + 1).toNat = j + 1 := by omega
      have e2 : (j : Int).toNat = j := by omega
      rw [e1, e2]
      simp [Nat.add_right_comm j 1]
theorem repl_hit (r : List UInt8) : repl (13 :: 10 :: 46 :: r) = 13 :: 10 :: 46 :: 46 :: repl r := by
  unfold repl
  rw [count_dot_hit, Nat.add_comm, replS, idx_dot_hit, if_neg (by decide)]
  rfl
theorem repl_nil : repl [] = [] := rfl
theorem pre_ne {c : UInt8} {r : List UInt8} (h : c ≠ 13) : dots.isPrefixOf (c :: r) = false := by simp [dots, List.isPrefixOf, Ne.symm h]
theorem repl_run : ∀ (x t : List UInt8), (13 : UInt8) ∉ x → repl (x ++ t) = x ++ repl t
  | [], t, _ => rfl
  | c :: x, t, h => by
    rw [List.cons_append, repl_miss (pre_ne (fun e => h (by simp [e]))), repl_run x t (fun e => h (by simp [e]))]
    rfl
theorem repl_lines : ∀ (L : List (List UInt8)) (x : List UInt8), cleanL x → (∀ y ∈ L, cleanL y) → repl (joinL (x :: L)) = x ++ 13 :: 10 :: joinL (L.map stuffLn)
  | [], x, hx, _ => by
    have e : repl [13, 10] = [13, 10] := by
      rw [repl_miss (by decide), repl_miss (by decide), repl_nil]
    rw [joinL, repl_run x _ hx.2.1]
    show x ++ repl [13, 10] = _
    rw [e]
    rfl
  | z :: L, x, hx, h => by
    have hz := h z (by simp)
    have hL := fun y hy => h y (List.mem_cons_of_mem _ hy)
    rw [joinL, repl_run x _ hx.2.1]
    congr 1
    cases z with
    | nil =>
      have ih := repl_lines L [] hz hL
      rw [repl_miss (by simp [joinL, dots, List.isPrefixOf]), repl_miss (pre_ne (by decide)), ih]
      rfl
    | cons c z =>
      by_cases hc : c = 46
      · subst hc
        have ih := repl_lines L z ⟨fun e => hz.1 (by simp [e]), fun e => hz.2.1 (by simp [e]), fun e => hz.2.2 (by simp [e])⟩ hL
        show repl (13 :: 10 :: 46 :: joinL (z :: L)) = _
        rw [repl_hit, ih]
        rfl
      · have ih := repl_lines L (c :: z) hz hL
        rw [repl_miss (by simp [joinL, dots, List.isPrefixOf, Ne.symm hc]), repl_miss (pre_ne (by decide)), ih]
        rw [List.map_cons, joinL, stuffLn, if_neg (by simpa using hc)]
/-- with the first line's dot -/
def lead (l : List UInt8) : List UInt8 := if l.head? = some 46 then 46 :: l else l
theorem lead_lines (L : List (List UInt8)) (h : ∀ y ∈ L, cleanL y) : lead (repl (joinL L)) = joinL (L.map stuffLn) := by
  cases L with
  | nil => rfl
  | cons x L =>
    rw [repl_lines L x (h x (by simp)) (fun y hy => h y (by simp [hy]))]
    rw [List.map_cons, joinL]
    unfold lead stuffLn
    cases x with
    | nil => rfl
    | cons c x =>
      by_cases hc : c = 46
      · subst hc; rfl
      · rw [if_neg (by simpa using hc), if_neg (by simpa using hc)]
/-- a content as it is sent -/
def stuffP (d : List UInt8) : List UInt8 := lead (repl d) ++ [46, 13, 10]
def rstuffP (d : List UInt8) : List UInt8 := rS 10 d ++ [46, 13, 10]
theorem stuff_eq {d : List UInt8} (h : contP d = 0) : rstuffP d = stuffP d := by
  obtain ⟨L, rfl, hL⟩ := cont_lines h
  unfold rstuffP stuffP
  rw [rS_lines L (fun x hx => (hL x hx).1), lead_lines L (fun x hx => (hL x hx).1)]
theorem stuff_lines {L : List (List UInt8)} (hL : ∀ x ∈ L, cleanL x) : stuffP (joinL L) = joinL (L.map stuffLn) ++ [46, 13, 10] := by
  unfold stuffP
  rw [lead_lines L hL]
/-! ### a line that was sent, as content -/
def dotP (l : List UInt8) : List UInt8 × Bool := if l = [46] then ([], true) else match l with
  | [] => ([], false)
  | c :: r => if c = 46 then (r, false) else (c :: r, false)
theorem dot_stuff (x : List UInt8) : dotP (stuffLn x) = (x, false) := by
  unfold stuffLn
  cases x with
  | nil => rfl
  | cons c x =>
    by_cases hc : c = 46
    · subst hc
      rw [if_pos (show (46 :: x : List UInt8).head? = some 46 from rfl)]
      unfold dotP
      rw [if_neg (by simp)]
      rfl
    · rw [if_neg (by simpa using hc)]
      unfold dotP
      rw [if_neg (by simp [hc])]
      show (if c = 46 then _ else _) = _
      rw [if_neg hc]
theorem stuffLn_clean {x : List UInt8} (h : cleanL x) : cleanL (stuffLn x) := by
  unfold stuffLn
  split
  · exact ⟨fun e => by rcases List.mem_cons.1 e with e | e; exact absurd e (by decide); exact h.1 e, fun e => by rcases List.mem_cons.1 e with e | e; exact absurd e (by decide); exact h.2.1 e, fun e => by rcases List.mem_cons.1 e with e | e; exact absurd e (by decide); exact h.2.2 e⟩
  · exact h
theorem stuffLn_len (x : List UInt8) : (stuffLn x).length ≤ x.length + 1 := by unfold stuffLn; split <;> simp
theorem suf_13 (x : List UInt8) : Lib.hasSuffix (x ++ [13]) [13] = true ∧ Lib.trimSuffix (x ++ [13]) [13] = x := by
  have h : Lib.hasSuffix (x ++ [13]) [13] = true := by simp [Lib.hasSuffix]
  refine ⟨h, ?_⟩
  unfold Lib.trimSuffix
  rw [if_pos h]
  simp
theorem next_line {most : Nat} {x : List UInt8} (y : List UInt8) (h : cleanL x) (hl : x.length ≤ most) : nextP most (x ++ 13 :: 10 :: y) = some ((x, 0), y) := by
  unfold nextP
  have e : x ++ 13 :: 10 :: y = (x ++ [13]) ++ 10 :: y := by simp
  rw [e, cutAt_app y (by
    intro hm
    rcases List.mem_append.1 hm with hm | hm
    · exact h.2.2 hm
    · simp at hm)]
  obtain ⟨h1, h2⟩ := suf_13 x
  show some (nxLine most (x ++ [13]), y) = _
  unfold nxLine
  rw [h2, h1, if_neg (by omega), if_neg h.1, if_neg (by simp [h.2.1])]
end Go.Proofs.YtkemmgfmmfcdlaaDoor
