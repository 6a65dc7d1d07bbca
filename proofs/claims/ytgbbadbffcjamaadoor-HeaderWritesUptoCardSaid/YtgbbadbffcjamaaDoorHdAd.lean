/-
  Of a content ahead of which a field was put, in plain words. No condition.
-/
import Derived.Test.YtgbbadbffcjamaaDoorHdLC
namespace Go.Proofs.YtgbbadbffcjamaaDoor
set_option linter.unusedVariables false
/-- neither CR nor LF -/
def noNl (b : List UInt8) : Prop := (13 : UInt8) ∉ b ∧ (10 : UInt8) ∉ b
/-- lines, each with its end -/
def lnsE : List (List UInt8) → List UInt8
  | [] => []
  | b :: r => b ++ 13 :: 10 :: lnsE r
/-- lines, with an end between two -/
def joinE (b0 : List UInt8) : List (List UInt8) → List UInt8
  | [] => b0
  | b :: r => b0 ++ 13 :: 10 :: joinE b r
theorem lnsE_join : ∀ (b0 : List UInt8) (bs : List (List UInt8)), lnsE (b0 :: bs) = joinE b0 bs ++ [13, 10]
  | b0, [] => rfl
  | b0, b :: r => by
    rw [lnsE, lnsE_join b r, joinE]
    simp
theorem joinE_app (a b0 : List UInt8) (bs : List (List UInt8)) : a ++ joinE b0 bs = joinE (a ++ b0) bs := by
  cases bs with
  | nil => rfl
  | cons b r => simp [joinE]
theorem noNl_app {a b : List UInt8} (ha : noNl a) (hb : noNl b) : noNl (a ++ b) :=
  ⟨fun h => by rcases List.mem_append.1 h with h | h; exact ha.1 h; exact hb.1 h, fun h => by rcases List.mem_append.1 h with h | h; exact ha.2 h; exact hb.2 h⟩
theorem noNl_sp {b : List UInt8} (h : noNl b) : noNl (32 :: b) := noNl_app (a := [32]) ⟨by decide, by decide⟩ h
/-- what a fold is: lines, of which all but the first begin with a blank -/
theorem foldW_lines : ∀ (ws : List (List UInt8)) (col : Nat), (∀ x ∈ ws, noNl x) → ∃ b0 bs, foldW col ws = joinE b0 bs ∧ noNl b0 ∧ ∀ b ∈ bs, noNl b ∧ ∃ t, b = 32 :: t
  | [], col, _ => ⟨[], [], rfl, ⟨by simp, by simp⟩, by simp⟩
  | x :: r, col, h => by
    have hx := h x (by simp)
    rw [foldW]
    split
    · obtain ⟨b0, bs, e, h1, h2⟩ := foldW_lines r (1 + x.length) (fun y hy => h y (by simp [hy]))
      refine ⟨[], (32 :: (x ++ b0)) :: bs, ?_, ⟨by simp, by simp⟩, ?_⟩
      · rw [e]
        show 13 :: 10 :: ([32] ++ (x ++ joinE b0 bs)) = 13 :: 10 :: joinE ([32] ++ (x ++ b0)) bs
        rw [joinE_app, joinE_app]
      · intro b hb
        rcases List.mem_cons.1 hb with rfl | hb
        · exact ⟨noNl_sp (noNl_app hx h1), _, rfl⟩
        · exact h2 b hb
    · obtain ⟨b0, bs, e, h1, h2⟩ := foldW_lines r (col + 1 + x.length) (fun y hy => h y (by simp [hy]))
      refine ⟨32 :: (x ++ b0), bs, ?_, noNl_sp (noNl_app hx h1), h2⟩
      rw [e, joinE_app]
      show [32] ++ joinE (x ++ b0) bs = joinE ([32] ++ (x ++ b0)) bs
      rw [joinE_app]
theorem foldF_lines (ws : List (List UInt8)) (col : Nat) (h : ∀ x ∈ ws, noNl x) : ∃ b0 bs, foldF col ws = joinE b0 bs ∧ noNl b0 ∧ ∀ b ∈ bs, noNl b ∧ ∃ t, b = 32 :: t := by
  cases ws with
  | nil => exact ⟨[], [], rfl, ⟨by simp, by simp⟩, by simp⟩
  | cons x r =>
    obtain ⟨b0, bs, e, h1, h2⟩ := foldW_lines r (col + x.length) (fun y hy => h y (by simp [hy]))
    exact ⟨x ++ b0, bs, by rw [foldF, e, joinE_app], noNl_app (h x (by simp)) h1, h2⟩
theorem wordsA_mem {P : UInt8 → Prop} : ∀ (l cur : List UInt8), (∀ c ∈ cur, P c ∧ blC c = false) → (∀ c ∈ l, P c) → ∀ x ∈ wordsA cur l, x ≠ [] ∧ ∀ c ∈ x, P c ∧ blC c = false
  | [], cur, hc, _ => by
    rw [wordsA]
    split
    · simp
    · rename_i h
      intro x hx
      obtain rfl : x = cur := by simpa using hx
      exact ⟨h, hc⟩
  | c :: r, cur, hc, hl => by
    rw [wordsA]
    split
    · rename_i hb
      split
      · exact wordsA_mem r [] (by simp) (fun y hy => hl y (by simp [hy]))
      · rename_i h
        intro x hx
        rcases List.mem_cons.1 hx with rfl | hx
        · exact ⟨h, hc⟩
        · exact wordsA_mem r [] (by simp) (fun y hy => hl y (by simp [hy])) x hx
    · rename_i hb
      refine wordsA_mem r (cur ++ [c]) (fun y hy => ?_) (fun y hy => hl y (by simp [hy]))
      rcases List.mem_append.1 hy with hy | hy
      · exact hc y hy
      · obtain rfl : y = c := by simpa using hy
        exact ⟨hl y (by simp), by simpa using hb⟩
/-! ### the first line -/
theorem lnP_line {x y : List UInt8} (h : noNl x) : lnP (x ++ 13 :: 10 :: y) = (x, x.length + 2) := by
  unfold lnP
  have : cutCR (x ++ 13 :: 10 :: y) = some (x, y) := by
    induction x with
    | nil => rw [List.nil_append, cutCR, if_pos ⟨rfl, rfl⟩]
    | cons a x ih =>
      have hx : noNl x := ⟨fun e => h.1 (by simp [e]), fun e => h.2 (by simp [e])⟩
      have ha : a ≠ 13 := fun e => h.1 (by simp [e])
      have ih := ih hx
      cases x with
      | nil =>
        show cutCR (a :: 13 :: 10 :: y) = _
        rw [cutCR, if_neg (fun e => ha e.1)]
        rw [List.nil_append] at ih
        rw [ih]
      | cons b t =>
        show cutCR (a :: b :: (t ++ 13 :: 10 :: y)) = _
        rw [cutCR, if_neg (fun e => ha e.1)]
        have e : b :: (t ++ 13 :: 10 :: y) = (b :: t) ++ 13 :: 10 :: y := rfl
        rw [e, ih]
  rw [this]
/-- continuing lines -/
theorem cont_lines11 {C D : List UInt8} : ∀ (bs : List (List UInt8)) (P : List UInt8) (f : Nat) (g : Fd), C = P ++ lnsE bs ++ D → (∀ b ∈ bs, noNl b ∧ ∃ t, b = 32 :: t) →
    splH C (f + bs.length) P.length [g] = splH C f (P.length + (lnsE bs).length) [if bs = [] then g else g.more C (P.length + (lnsE bs).length - 2) (P.length + (lnsE bs).length)]
  | [], P, f, g, h, _ => by simp [lnsE]
  | b :: r, P, f, g, h, hb => by
    obtain ⟨h1, t, ht⟩ := hb b (by simp)
    have hd : C.drop P.length = b ++ 13 :: 10 :: (lnsE r ++ D) := by
      rw [h, lnsE]
      simp
    have hl : P.length < C.length := by rw [h, lnsE, ht]; simp
    have hln := lnP_line (y := lnsE r ++ D) h1
    rw [show f + (b :: r).length = (f + r.length) + 1 by simp; omega]
    have := splH_more (D := C) (f := f + r.length) (at_ := P.length) (L0 := []) (g := g) hl (by rw [hd, hln, ht]; rfl)
    rw [List.nil_append] at this
    rw [this, hd, hln]
    simp only [List.nil_append]
    have ih := cont_lines11 (C := C) (D := D) r (P ++ b ++ [13, 10]) f (g.more C (P.length + b.length) (P.length + (b.length + 2))) (by rw [h, lnsE]; simp) (fun x hx => hb x (by simp [hx]))
    have e0 : (P ++ b ++ [13, 10]).length = P.length + (b.length + 2) := by simp [Nat.add_assoc]
    rw [e0] at ih
    rw [ih]
    have e1 : P.length + (b.length + 2) + (lnsE r).length = P.length + (lnsE (b :: r)).length := by rw [lnsE]; simp; omega
    rw [e1, if_neg (show ¬ (b :: r) = [] by simp)]
    congr 2
    cases r with
    | nil =>
      rw [if_pos rfl]
      have e2 : (lnsE [b]).length = b.length + 2 := by simp [lnsE]
      rw [e2, show P.length + (b.length + 2) - 2 = P.length + b.length by omega]
    | cons x r' =>
      rw [if_neg (by simp)]
      rfl
/-- a field moved by so many bytes -/
def Fd.sh (q : Nat) (g : Fd) : Fd := ⟨g.nm, g.bd, g.fr + q, g.tt + q⟩
theorem drop_sh (T D : List UInt8) (k : Nat) : (T ++ D).drop (T.length + k) = D.drop k := by rw [← List.drop_drop, List.drop_left]
theorem splH_shift {T D : List UInt8} (g0 : Fd) : ∀ (f at_ : Nat) (out L : List Fd) (b : Nat), (out ≠ [] ∨ blH (lnP (D.drop at_)).1 = false) → splH D f at_ out = (L, b) →
    splH (T ++ D) f (T.length + at_) (g0 :: out.map (Fd.sh T.length)) = (g0 :: L.map (Fd.sh T.length), b + T.length)
  | 0, at_, out, L, b, _, h => by
    injection h with h1 h2
    subst h1 h2
    show (_, _) = (_, _)
    rw [Nat.add_comm]
  | f + 1, at_, out, L, b, hb, h => by
    have hdr : (T ++ D).drop (T.length + at_) = D.drop at_ := drop_sh T D at_
    by_cases hl : at_ < D.length
    · have hl2 : T.length + at_ < (T ++ D).length := by rw [List.length_append]; omega
      by_cases hA : out ≠ [] ∧ blH (lnP (D.drop at_)).1 = true
      · obtain ⟨L0, g, rfl⟩ := getLast_some hA.1
        rw [splH_more hl hA.2] at h
        have e : g0 :: (L0 ++ [g]).map (Fd.sh T.length) = (g0 :: L0.map (Fd.sh T.length)) ++ [g.sh T.length] := by simp
        rw [e, splH_more hl2 (by rw [hdr]; exact hA.2), hdr]
        have ih := splH_shift (T := T) g0 f _ _ L b (.inl (by simp)) h
        rw [← ih]
        congr 1
        · omega
        · rw [List.map_append]
          simp only [List.cons_append, List.map_cons, List.map_nil]
          congr 2
          unfold Fd.more Fd.sh
          simp only [List.cons.injEq, Fd.mk.injEq, and_true, true_and]
          refine ⟨?_, by omega⟩
          rw [show g.fr + T.length + g.nm.length + 1 = T.length + (g.fr + g.nm.length + 1) by omega, drop_sh]
          rw [show T.length + at_ + (lnP (D.drop at_)).1.length - (T.length + (g.fr + g.nm.length + 1)) = at_ + (lnP (D.drop at_)).1.length - (g.fr + g.nm.length + 1) by omega]
      · have hA2 : ¬ (g0 :: out.map (Fd.sh T.length) ≠ [] ∧ blH (lnP (D.drop at_)).1 = true) := by
          rintro ⟨_, h2⟩
          rcases hb with hb | hb
          · exact hA ⟨hb, h2⟩
          · rw [hb] at h2; cases h2
        cases hc : colP (lnP (D.drop at_)).1 with
        | some nr =>
          obtain ⟨nm, rs⟩ := nr
          rw [splH_new hl hA hc] at h
          rw [splH_new hl2 (by rw [hdr]; exact hA2) (nm := nm) (rs := rs) (by rw [hdr]; exact hc), hdr]
          have ih := splH_shift (T := T) g0 f _ _ L b (.inl (by simp)) h
          rw [← ih]
          congr 1
          · omega
          · rw [List.map_append]
            simp only [List.cons_append, List.map_cons, List.map_nil]
            congr 2
            unfold Fd.sh
            simp only [List.cons.injEq, Fd.mk.injEq, and_true, true_and]
            exact ⟨by omega, by omega⟩
        | none =>
          rw [splH_stop hl hA hc] at h
          rw [splH_stop hl2 (by rw [hdr]; exact hA2) (by rw [hdr]; exact hc), hdr]
          injection h with h1 h2
          subst h1 h2
          congr 1
          split <;> omega
    · rw [splH_end (by omega)] at h
      rw [splH_end (by rw [List.length_append]; omega)]
      injection h with h1 h2
      subst h1 h2
      rw [Nat.add_comm]
theorem nameB_noNl {nm : List UInt8} (h : nameB nm = true) : noNl nm ∧ (58 : UInt8) ∉ nm := by
  unfold nameB at h
  rw [Bool.and_eq_true] at h
  have h2 := List.all_eq_true.1 h.2
  refine ⟨⟨fun e => ?_, fun e => ?_⟩, fun e => ?_⟩ <;> exact absurd (h2 _ e) (by decide)
theorem badC_noNl {bd : List UInt8} (h : bd.any badC = false) : ∀ c ∈ bd, c ≠ 13 ∧ c ≠ 10 := by
  intro c hc
  have h2 := List.any_eq_false.1 h c hc
  refine ⟨fun e => ?_, fun e => ?_⟩ <;> (subst e; exact h2 (by decide))
theorem words_noNl {bd : List UInt8} (h : bd.any badC = false) : ∀ x ∈ wordsL bd, x ≠ [] ∧ ∀ c ∈ x, (c ≠ 13 ∧ c ≠ 10) ∧ blC c = false :=
  wordsA_mem (P := fun c => c ≠ 13 ∧ c ≠ 10) bd [] (by simp) (badC_noNl h)
theorem txt_lines (nm bd : List UInt8) (hb : bd.any badC = false) : ∃ b0 bs, fold11 bd ((nm.length : Int) + 2) = joinE b0 bs ∧ noNl b0 ∧ (∀ b ∈ bs, noNl b ∧ ∃ t, b = 32 :: t) ∧ txt11 nm bd = lnsE ((nm ++ 58 :: 32 :: b0) :: bs) := by
  obtain ⟨b0, bs, h1, h2, h3⟩ := foldF_lines (wordsL bd) (col0 ((nm.length : Int) + 2)) (fun x hx => by
    have := (words_noNl hb x hx).2
    exact ⟨fun e => (this _ e).1.1 rfl, fun e => (this _ e).1.2 rfl⟩)
  refine ⟨b0, bs, h1, h2, h3, ?_⟩
  unfold txt11
  rw [show fold11 bd ((nm.length : Int) + 2) = joinE b0 bs from h1, lnsE_join, joinE_app]
  simp
theorem put_first {nm bd D : List UInt8} (hn : nameB nm = true) (hb : bd.any badC = false) :
    splP (txt11 nm bd ++ D) = splH (txt11 nm bd ++ D) (txt11 nm bd ++ D).length (txt11 nm bd).length [⟨nm, 32 :: fold11 bd ((nm.length : Int) + 2), 0, (txt11 nm bd).length⟩] := by
  obtain ⟨b0, bs, h1, h2, h3, hT⟩ := txt_lines nm bd hb
  obtain ⟨hnn, h58⟩ := nameB_noNl hn
  have hTe : txt11 nm bd = nm ++ 58 :: (32 :: fold11 bd ((nm.length : Int) + 2)) ++ [13, 10] := by unfold txt11; simp
  generalize fold11 bd ((nm.length : Int) + 2) = F at *
  generalize txt11 nm bd = T at *
  obtain ⟨C, hC⟩ : ∃ C, C = T ++ D := ⟨_, rfl⟩
  rw [← hC]
  obtain ⟨X, hX⟩ : ∃ X, X = nm ++ 58 :: 32 :: b0 := ⟨_, rfl⟩
  rw [← hX] at hT
  have hXn : noNl X := by rw [hX]; exact noNl_app hnn (noNl_app (a := [58, 32]) ⟨by decide, by decide⟩ h2)
  have hCX : C = X ++ 13 :: 10 :: (lnsE bs ++ D) := by rw [hC, hT, lnsE]; simp
  have hln : lnP (C.drop 0) = (X, X.length + 2) := by rw [List.drop_zero, hCX]; exact lnP_line hXn
  have hcp : colP X = some (nm, 32 :: b0) := by
    unfold colP
    rw [hX, cutAt_app _ h58]
    exact if_pos hn
  have hCl : 0 < C.length := by rw [hCX]; simp; omega
  unfold splP
  rw [splH_fuel C.length ((C.length + bs.length) + 1) 0 [] (by omega) (by omega)]
  rw [splH_new hCl (by simp) (nm := nm) (rs := 32 :: b0) (by rw [hln]; exact hcp), hln]
  simp only [List.nil_append, Nat.zero_add]
  have hc := cont_lines11 (C := C) (D := D) bs (X ++ [13, 10]) C.length ⟨nm, 32 :: b0, 0, X.length + 2⟩ (by rw [hCX]; simp) h3
  have e0 : (X ++ [13, 10]).length = X.length + 2 := by simp
  have e1 : X.length + 2 + (lnsE bs).length = T.length := by rw [hT, lnsE]; simp; omega
  rw [e0, e1] at hc
  rw [hc]
  congr 2
  by_cases hbs : bs = []
  · rw [if_pos hbs]
    subst hbs
    have e2 : (lnsE ([] : List (List UInt8))).length = 0 := rfl
    rw [show T.length = X.length + 2 by omega, show F = b0 from h1]
  · rw [if_neg hbs]
    unfold Fd.more
    simp only [Fd.mk.injEq, and_true, true_and, Nat.zero_add]
    have e3 : C.drop (nm.length + 1) = (32 :: F) ++ ([13, 10] ++ D) := by
      rw [hC, hTe, show nm.length + 1 = (nm ++ [58]).length by simp]
      have : nm ++ 58 :: (32 :: F) ++ [13, 10] ++ D = (nm ++ [58]) ++ ((32 :: F) ++ ([13, 10] ++ D)) := by simp
      rw [this, List.drop_left]
    rw [e3]
    have e4 : T.length - 2 - (nm.length + 1) = (32 :: F).length := by rw [hTe]; simp; omega
    rw [e4, List.take_left]
theorem splH_ne {D : List UInt8} : ∀ (f at_ : Nat) (out : List Fd), out ≠ [] → (splH D f at_ out).1 ≠ []
  | 0, _, _, h => h
  | f + 1, at_, out, h => by
    by_cases hl : at_ < D.length
    · by_cases hA : out ≠ [] ∧ blH (lnP (D.drop at_)).1 = true
      · obtain ⟨L0, g, rfl⟩ := getLast_some hA.1
        rw [splH_more hl hA.2]
        exact splH_ne f _ _ (by simp)
      · cases hc : colP (lnP (D.drop at_)).1 with
        | some nr =>
          rw [splH_new hl hA (nm := nr.1) (rs := nr.2) hc]
          exact splH_ne f _ _ (by simp)
        | none => rw [splH_stop hl hA hc]; exact h
    · rw [splH_end (by omega)]; exact h
theorem blH_first {D : List UInt8} (h : blH D = false) : blH (lnP D).1 = false := by
  obtain ⟨_, _, h3⟩ := lnP_le D
  generalize (lnP D).1 = X at *
  cases X with
  | nil => rfl
  | cons a t =>
    cases D with
    | nil => simp at h3
    | cons b D' =>
      rw [List.length_cons, List.take_succ_cons] at h3
      injection h3 with h4 _
      rw [← h4]
      exact h
/-- THE FIELDS of a content ahead of which a field was put -/
theorem put_fields {nm bd D : List UInt8} {L : List Fd} {b : Nat} (hn : nameB nm = true) (hb : bd.any badC = false) (hD : blH D = false) (hs : splP D = (L, b)) :
    splP (txt11 nm bd ++ D) = (⟨nm, 32 :: fold11 bd ((nm.length : Int) + 2), 0, (txt11 nm bd).length⟩ :: L.map (Fd.sh (txt11 nm bd).length), b + (txt11 nm bd).length) := by
  rw [put_first hn hb]
  have h := splH_shift (T := txt11 nm bd) (D := D) ⟨nm, 32 :: fold11 bd ((nm.length : Int) + 2), 0, (txt11 nm bd).length⟩ (txt11 nm bd ++ D).length 0 [] L b (.inr (by rw [List.drop_zero]; exact blH_first hD)) (by
    rw [← hs]; unfold splP; exact splH_fuel _ _ 0 [] (by simp) (by simp))
  exact h
theorem put_some {nm bd D : List UInt8} (hn : nameB nm = true) (hb : bd.any badC = false) : (splP (txt11 nm bd ++ D)).1 ≠ [] := by
  rw [put_first hn hb]
  exact splH_ne _ _ _ (by simp)
/-! ### its body in one line -/
def spW : List (List UInt8) → List UInt8
  | [] => []
  | x :: r => 32 :: (x ++ spW r)
/-- words, with a blank between two -/
def joinSp : List (List UInt8) → List UInt8
  | [] => []
  | x :: r => x ++ spW r
theorem unfP_cons {p : UInt8 → Bool} {a : UInt8} (ha : a ≠ 13) (r : List UInt8) : unfP p (a :: r) = a :: unfP p r := by
  match r with
  | [] => rfl
  | [b] => rfl
  | b :: c :: t => rw [unfP, if_neg (fun e => ha e.1)]
theorem unfP_run {p : UInt8 → Bool} : ∀ (x r : List UInt8), (13 : UInt8) ∉ x → unfP p (x ++ r) = x ++ unfP p r
  | [], r, _ => rfl
  | a :: x, r, h => by
    rw [List.cons_append, unfP_cons (fun e => h (by simp [e])), unfP_run x r (fun e => h (by simp [e]))]
    rfl
theorem unfP_hit {p : UInt8 → Bool} {c : UInt8} (h : p c = true) (t : List UInt8) : unfP p (13 :: 10 :: c :: t) = unfP p (c :: t) := by
  rw [unfP, if_pos ⟨rfl, rfl, h⟩]
theorem unf_foldW : ∀ (ws : List (List UInt8)) (col : Nat), (∀ x ∈ ws, (13 : UInt8) ∉ x) → unfP (fun c => c == 32) (foldW col ws) = spW ws
  | [], _, _ => rfl
  | x :: r, col, h => by
    have hx := h x (by simp)
    have hr : ∀ y ∈ r, (13 : UInt8) ∉ y := fun y hy => h y (by simp [hy])
    rw [foldW]
    split
    · rw [unfP_hit rfl, unfP_cons (by decide), unfP_run _ _ hx, unf_foldW r _ hr]; rfl
    · rw [unfP_cons (by decide), unfP_run _ _ hx, unf_foldW r _ hr]; rfl
theorem unf_fold {ws : List (List UInt8)} {col : Nat} (h : ∀ x ∈ ws, (13 : UInt8) ∉ x) : unfP (fun c => c == 32) (32 :: foldF col ws) = 32 :: joinSp ws := by
  rw [unfP_cons (by decide)]
  cases ws with
  | nil => rfl
  | cons x r => rw [foldF, unfP_run _ _ (h x (by simp)), unf_foldW r _ (fun y hy => h y (by simp [hy]))]; rfl
theorem spW_no : ∀ (ws : List (List UInt8)), (∀ x ∈ ws, (13 : UInt8) ∉ x) → (13 : UInt8) ∉ spW ws
  | [], _ => by simp [spW]
  | x :: r, h => by
    rw [spW]
    intro e
    rcases List.mem_cons.1 e with e | e
    · exact absurd e (by decide)
    · rcases List.mem_append.1 e with e | e
      · exact h x (by simp) e
      · exact spW_no r (fun y hy => h y (by simp [hy])) e
theorem unfP_id {p : UInt8 → Bool} {x : List UInt8} (h : (13 : UInt8) ∉ x) : unfP p x = x := by
  have := unfP_run (p := p) x [] h
  simpa [unfP] using this
def goodW (x : List UInt8) : Prop := x ≠ [] ∧ ∀ c ∈ x, ws4.contains c = false
theorem spW_last : ∀ (ws : List (List UInt8)), ws ≠ [] → (∀ x ∈ ws, goodW x) → ∃ t c, spW ws = t ++ [c] ∧ ws4.contains c = false
  | [x], _, h => by
    obtain ⟨h1, h2⟩ := h x (by simp)
    refine ⟨32 :: x.dropLast, x.getLast h1, ?_, h2 _ (List.getLast_mem h1)⟩
    rw [spW, spW, List.append_nil, List.cons_append, List.dropLast_concat_getLast h1]
  | x :: y :: r, _, h => by
    obtain ⟨t, c, h1, h2⟩ := spW_last (y :: r) (by simp) (fun z hz => h z (by simp [List.mem_cons.1 hz]))
    refine ⟨32 :: (x ++ t), c, ?_, h2⟩
    rw [spW, h1]
    simp
theorem trim_words (ws : List (List UInt8)) (h : ∀ x ∈ ws, goodW x) : Lib.trimS (32 :: joinSp ws) ws4 = joinSp ws := by
  cases ws with
  | nil => rfl
  | cons x r =>
    obtain ⟨h1, h2⟩ := h x (by simp)
    obtain ⟨t, c, e1, e2⟩ : ∃ t c, 32 :: joinSp (x :: r) = t ++ [c] ∧ ws4.contains c = false := spW_last (x :: r) (by simp) h
    unfold Lib.trimS Lib.trimRightS
    rw [e1, List.reverse_append, List.reverse_singleton, List.singleton_append, List.dropWhile_cons]
    rw [if_neg (by rw [e2]; simp)]
    rw [List.reverse_cons, List.reverse_reverse, ← e1]
    unfold Lib.trimLeftS
    rw [List.dropWhile_cons, if_pos (by decide)]
    cases x with
    | nil => exact absurd rfl h1
    | cons a x' =>
      show (a :: (x' ++ spW r)).dropWhile _ = a :: (x' ++ spW r)
      rw [List.dropWhile_cons, if_neg (by rw [h2 a (by simp)]; simp)]
theorem body_words {bd : List UInt8} (hb : bd.any badC = false) (col : Int) : unfold11 (32 :: fold11 bd col) = joinSp (wordsL bd) := by
  have hw := words_noNl hb
  have h13 : ∀ x ∈ wordsL bd, (13 : UInt8) ∉ x := fun x hx e => ((hw x hx).2 _ e).1.1 rfl
  unfold unfold11 fold11
  rw [unf_fold h13]
  have : (13 : UInt8) ∉ 32 :: joinSp (wordsL bd) := by
    cases h : wordsL bd with
    | nil => decide
    | cons x r =>
      rw [h] at h13
      exact spW_no (x :: r) h13
  rw [unfP_id this]
  refine trim_words _ fun x hx => ⟨(hw x hx).1, fun c hc => ?_⟩
  obtain ⟨⟨a1, a2⟩, a3⟩ := (hw x hx).2 c hc
  have a4 := of_decide_eq_false a3
  unfold ws4
  simp only [List.contains_eq_mem, decide_eq_false_iff_not, List.mem_cons, List.not_mem_nil, or_false, not_or]
  exact ⟨fun e => a4 (.inl (by rw [e]; rfl)), fun e => a4 (.inr (by rw [e]; rfl)), a1, a2⟩
end Go.Proofs.YtgbbadbffcjamaaDoor
