/-
  What the document's date reads, in plain words, against what the program reads. No condition.
-/
import Derived.Test.YtdkhoiahmjadnaaGreatDoorParse0
import Derived.Test.YtdkhoiahmjadnaaGreatDoorUtf
import Derived.Test.YtdkhoiahmjadnaaGreatDoorSplit
namespace Go.Proofs.YtdkhoiahmjadnaaGreatDoor
open Go.RowKit Go.Sort
set_option linter.unusedVariables false

def rnF : List UInt8 → Int → Int
  | [], n => n
  | c :: r, n => if c.toNat < 48 ∨ 57 < c.toNat then -1 else rnF r (10 * n + c.toNat - 48)
def rnumP (l : List UInt8) (lo hi : Int) : Int := if (l.length : Int) < lo ∨ hi < l.length then -1 else rnF l 0
theorem rnF_dec : ∀ (l : List UInt8) (acc : Nat), rnF l acc = match Lib.decFrom acc l with
    | some n => (n : Int)
    | none => -1
  | [], acc => rfl
  | c :: r, acc => by
    unfold Lib.decFrom Lib.digitVal
    by_cases h : 48 ≤ c.toNat ∧ c.toNat ≤ 57
    · rw [if_pos h, rnF, if_neg (by omega)]
      have := rnF_dec r (acc * 10 + (c.toNat - 48))
      rw [← this]
      congr 1
      omega
    · rw [if_neg h, rnF, if_pos (by omega)]
theorem rn_num (l : List UInt8) (lo hi b : Int) (h1 : 1 ≤ lo) (hb : -1 ≤ b) : numP l lo hi b = if b < rnumP l lo hi then -1 else rnumP l lo hi := by
  unfold numP rnumP
  by_cases h : (l.length : Int) < lo ∨ hi < l.length
  · rw [if_pos h, if_pos h, if_neg (by omega)]
  · rw [if_neg h, if_neg h]
    match l, h with
    | [], h => simp at h; omega
    | c :: r, h =>
      have := rnF_dec (c :: r) 0
      rw [show rnF (c :: r) 0 = rnF (c :: r) ((0 : Nat) : Int) from rfl, this]
      show (match Lib.decFrom 0 (c :: r) with | some n => _ | none => _) = _
      cases Lib.decFrom 0 (c :: r) with
      | some n => rfl
      | none => simp only []; rw [if_neg (by omega)]
/-- digits alone -/
theorem rnF_neg : ∀ (l : List UInt8) (n : Int), 0 ≤ n → (rnF l n = -1 ∧ ∃ c ∈ l, c.toNat < 48 ∨ 57 < c.toNat) ∨ (0 ≤ rnF l n ∧ ∀ c ∈ l, 48 ≤ c.toNat ∧ c.toNat ≤ 57)
  | [], n, h => .inr ⟨h, by simp⟩
  | c :: r, n, h => by
    by_cases hc : c.toNat < 48 ∨ 57 < c.toNat
    · exact .inl ⟨if_pos hc, c, by simp, hc⟩
    · rw [rnF, if_neg hc]
      rcases rnF_neg r (10 * n + c.toNat - 48) (by omega) with ⟨h1, x, hx, h2⟩ | ⟨h1, h2⟩
      · exact .inl ⟨h1, x, by simp [hx], h2⟩
      · refine .inr ⟨h1, fun x hx => ?_⟩
        rcases List.mem_cons.1 hx with rfl | hx
        · omega
        · exact h2 x hx
theorem rnum_ok {l : List UInt8} {lo hi : Int} (h : 0 ≤ rnumP l lo hi) : lo ≤ l.length ∧ (l.length : Int) ≤ hi ∧ ∀ c ∈ l, 48 ≤ c.toNat ∧ c.toNat ≤ 57 := by
  unfold rnumP at h
  split at h
  · omega
  · rcases rnF_neg l 0 (by omega) with ⟨h1, _⟩ | ⟨_, h2⟩
    · omega
    · exact ⟨by omega, by omega, h2⟩
theorem rnum_or (l : List UInt8) (lo hi : Int) : rnumP l lo hi = -1 ∨ 0 ≤ rnumP l lo hi := by
  unfold rnumP
  split
  · exact .inl rfl
  · rcases rnF_neg l 0 (by omega) with ⟨h1, _⟩ | ⟨h2, _⟩
    · exact .inl h1
    · exact .inr h2
theorem two_list {l : List UInt8} (h : 0 ≤ rnumP l 2 2) : ∃ a b, l = [a, b] ∧ ¬ a = 58 ∧ ¬ b = 58 := by
  obtain ⟨h1, h2, h3⟩ := rnum_ok h
  match l, (show l.length = 2 by omega) with
  | [a, b], _ =>
    have ha := h3 a (by simp)
    have hb := h3 b (by simp)
    exact ⟨a, b, rfl, fun e => by rw [e] at ha; exact absurd ha.2 (by decide), fun e => by rw [e] at hb; exact absurd hb.2 (by decide)⟩
/-! ### the clock -/
def rclkG (h m s : Int) : Int := if h < 0 ∨ 23 < h ∨ m < 0 ∨ 59 < m ∨ s < 0 ∨ 59 < s then -1 else 3600 * h + 60 * m + s
def rclkL : List UInt8 → Int
  | [a, b, c, d, e] => if c = 58 then rclkG (rnumP [a, b] 2 2) (rnumP [d, e] 2 2) 0 else -1
  | [a, b, c, d, e, f, g, h] => if c = 58 ∧ f = 58 then rclkG (rnumP [a, b] 2 2) (rnumP [d, e] 2 2) (rnumP [g, h] 2 2) else -1
  | _ => -1
theorem num_23 (l : List UInt8) (b : Int) (hb : -1 ≤ b) : numP l 2 2 b = if b < rnumP l 2 2 then -1 else rnumP l 2 2 := rn_num l 2 2 b (by omega) hb
theorem clk_three (p q r : ByteArray) (h : numP [48, 48] 2 2 59 = 0) : clkF [p, q, r] [23, 59, 59] 0 = rclkG (rnumP p.data.toList 2 2) (rnumP q.data.toList 2 2) (rnumP r.data.toList 2 2) := by
  have e1 : clkF [p, q, r] [23, 59, 59] 0 = if numP p.data.toList 2 2 23 < 0 then -1 else if numP q.data.toList 2 2 59 < 0 then -1 else if numP r.data.toList 2 2 59 < 0 then -1 else
      60 * (60 * (60 * 0 + numP p.data.toList 2 2 23) + numP q.data.toList 2 2 59) + numP r.data.toList 2 2 59 := rfl
  rw [e1, num_23 _ 23 (by omega), num_23 _ 59 (by omega), num_23 _ 59 (by omega)]
  unfold rclkG
  have a1 := rnum_or p.data.toList 2 2
  have a2 := rnum_or q.data.toList 2 2
  have a3 := rnum_or r.data.toList 2 2
  generalize rnumP p.data.toList 2 2 = x at *
  generalize rnumP q.data.toList 2 2 = y at *
  generalize rnumP r.data.toList 2 2 = z at *
  repeat' split
  all_goals omega
theorem spl_cut (s : ByteArray) : (spl s).map (·.data.toList) = cutC 58 s.data.toList := splitB_cutC 58 s
/-- whatever stands there, it is read as if by its form -/
theorem clk_form {s : ByteArray} (h : 0 ≤ clockP s) : (∃ a b d e, s.data.toList = [a, b, 58, d, e] ∧ ¬ a = 58 ∧ ¬ b = 58 ∧ ¬ d = 58 ∧ ¬ e = 58) ∨
    ∃ a b d e f g, s.data.toList = [a, b, 58, d, e, 58, f, g] ∧ ¬ a = 58 ∧ ¬ b = 58 ∧ ¬ d = 58 ∧ ¬ e = 58 ∧ ¬ f = 58 ∧ ¬ g = 58 := by
  have hj := (join_cutC 58 s.data.toList).1
  rw [← spl_cut] at hj
  unfold clockP at h
  generalize spl s = L at *
  have h0 : numP [48, 48] 2 2 59 = 0 := by decide +kernel
  have pos : ∀ (x y z : Int), 0 ≤ rclkG x y z → 0 ≤ x ∧ 0 ≤ y ∧ 0 ≤ z := by
    intro x y z h
    unfold rclkG at h
    split at h <;> omega
  match L with
  | [] => simp [clkM] at h
  | [_] => simp [clkM] at h
  | [p, q] =>
    have e : clkM (if ([p, q] : List ByteArray).length = 2 then [p, q] ++ [⟨#[48, 48]⟩] else [p, q]) = clkF [p, q, ⟨#[48, 48]⟩] [23, 59, 59] 0 := rfl
    rw [e, clk_three _ _ _ h0] at h
    obtain ⟨h1, h2, h3⟩ := pos _ _ _ h
    obtain ⟨a, b, e1, ha, hb⟩ := two_list h1
    obtain ⟨c, d, e2, hc, hd⟩ := two_list h2
    left
    refine ⟨a, b, c, d, ?_, ha, hb, hc, hd⟩
    rw [← hj]
    simp only [List.map_cons, List.map_nil, e1, e2]
    rfl
  | [p, q, r] =>
    have e : clkM (if ([p, q, r] : List ByteArray).length = 2 then [p, q, r] ++ [⟨#[48, 48]⟩] else [p, q, r]) = clkF [p, q, r] [23, 59, 59] 0 := rfl
    rw [e, clk_three _ _ _ h0] at h
    obtain ⟨h1, h2, h3⟩ := pos _ _ _ h
    obtain ⟨a, b, e1, ha, hb⟩ := two_list h1
    obtain ⟨c, d, e2, hc, hd⟩ := two_list h2
    obtain ⟨f, g, e3, hf, hg⟩ := two_list h3
    right
    refine ⟨a, b, c, d, f, g, ?_, ha, hb, hc, hd, hf, hg⟩
    rw [← hj]
    simp only [List.map_cons, List.map_nil, e1, e2, e3]
    rfl
  | _ :: _ :: _ :: _ :: t => simp [clkM] at h
theorem rclk_form {l : List UInt8} (h : 0 ≤ rclkL l) : (∃ a b d e, l = [a, b, 58, d, e] ∧ ¬ a = 58 ∧ ¬ b = 58 ∧ ¬ d = 58 ∧ ¬ e = 58) ∨
    ∃ a b d e f g, l = [a, b, 58, d, e, 58, f, g] ∧ ¬ a = 58 ∧ ¬ b = 58 ∧ ¬ d = 58 ∧ ¬ e = 58 ∧ ¬ f = 58 ∧ ¬ g = 58 := by
  have pos : ∀ (x y z : Int), 0 ≤ rclkG x y z → 0 ≤ x ∧ 0 ≤ y ∧ 0 ≤ z := by
    intro x y z h
    unfold rclkG at h
    split at h <;> omega
  unfold rclkL at h
  split at h
  · rename_i a b c d e
    split at h
    · rename_i hc
      obtain ⟨h1, h2, -⟩ := pos _ _ _ h
      obtain ⟨_, _, e1, ha, hb⟩ := two_list h1
      obtain ⟨_, _, e2, hd, he⟩ := two_list h2
      simp only [List.cons.injEq, and_true] at e1 e2
      rw [← e1.1] at ha
      rw [← e1.2] at hb
      rw [← e2.1] at hd
      rw [← e2.2] at he
      exact .inl ⟨a, b, d, e, by rw [hc], ha, hb, hd, he⟩
    · omega
  · rename_i a b c d e f g x
    split at h
    · rename_i hc
      obtain ⟨h1, h2, h3⟩ := pos _ _ _ h
      obtain ⟨_, _, e1, ha, hb⟩ := two_list h1
      obtain ⟨_, _, e2, hd, he⟩ := two_list h2
      obtain ⟨_, _, e3, hg, hx⟩ := two_list h3
      simp only [List.cons.injEq, and_true] at e1 e2 e3
      rw [← e1.1] at ha
      rw [← e1.2] at hb
      rw [← e2.1] at hd
      rw [← e2.2] at he
      rw [← e3.1] at hg
      rw [← e3.2] at hx
      exact .inr ⟨a, b, d, e, g, x, by rw [hc.1, hc.2], ha, hb, hd, he, hg, hx⟩
    · omega
  · omega
theorem clk_rng (s : ByteArray) : clockP s = -1 ∨ 0 ≤ clockP s := by
  have := (clockP_rng s).1
  omega
theorem rclk_rng (l : List UInt8) : rclkL l = -1 ∨ 0 ≤ rclkL l := by
  have g : ∀ x y z, rclkG x y z = -1 ∨ 0 ≤ rclkG x y z := by
    intro x y z
    unfold rclkG
    split
    · exact .inl rfl
    · exact .inr (by omega)
  unfold rclkL
  split
  · split
    · exact g _ _ _
    · exact .inl rfl
  · split
    · exact g _ _ _
    · exact .inl rfl
  · exact .inl rfl
theorem map_two {L : List ByteArray} {x y : List UInt8} (h : L.map (·.data.toList) = [x, y]) : ∃ p q, L = [p, q] ∧ p.data.toList = x ∧ q.data.toList = y := by
  match L, h with
  | [p, q], h =>
    simp only [List.map_cons, List.map_nil, List.cons.injEq, and_true] at h
    exact ⟨p, q, rfl, h.1, h.2⟩
theorem map_three {L : List ByteArray} {x y z : List UInt8} (h : L.map (·.data.toList) = [x, y, z]) : ∃ p q r, L = [p, q, r] ∧ p.data.toList = x ∧ q.data.toList = y ∧ r.data.toList = z := by
  match L, h with
  | [p, q, r], h =>
    simp only [List.map_cons, List.map_nil, List.cons.injEq, and_true] at h
    exact ⟨p, q, r, rfl, h.1, h.2.1, h.2.2⟩
theorem clk_same {s : ByteArray} (h : (∃ a b d e, s.data.toList = [a, b, 58, d, e] ∧ ¬ a = 58 ∧ ¬ b = 58 ∧ ¬ d = 58 ∧ ¬ e = 58) ∨
    ∃ a b d e f g, s.data.toList = [a, b, 58, d, e, 58, f, g] ∧ ¬ a = 58 ∧ ¬ b = 58 ∧ ¬ d = 58 ∧ ¬ e = 58 ∧ ¬ f = 58 ∧ ¬ g = 58) : clockP s = rclkL s.data.toList := by
  have hs := spl_cut s
  have h0 : numP [48, 48] 2 2 59 = 0 := by decide +kernel
  rcases h with ⟨a, b, d, e, hl, ha, hb, hd, he⟩ | ⟨a, b, d, e, f, g, hl, ha, hb, hd, he, hf, hg⟩
  · rw [hl] at hs ⊢
    have hc : cutC 58 [a, b, 58, d, e] = [[a, b], [d, e]] := by simp [cutC, ha, hb, hd, he]
    rw [hc] at hs
    obtain ⟨p, q, hL, hp, hq⟩ := map_two hs
    unfold clockP
    rw [hL]
    have e : clkM (if ([p, q] : List ByteArray).length = 2 then [p, q] ++ [⟨#[48, 48]⟩] else [p, q]) = clkF [p, q, ⟨#[48, 48]⟩] [23, 59, 59] 0 := rfl
    rw [e, clk_three _ _ _ h0, hp, hq]
    rfl
  · rw [hl] at hs ⊢
    have hc : cutC 58 [a, b, 58, d, e, 58, f, g] = [[a, b], [d, e], [f, g]] := by simp [cutC, ha, hb, hd, he, hf, hg]
    rw [hc] at hs
    obtain ⟨p, q, r, hL, hp, hq, hr⟩ := map_three hs
    unfold clockP
    rw [hL]
    have e : clkM (if ([p, q, r] : List ByteArray).length = 2 then [p, q, r] ++ [⟨#[48, 48]⟩] else [p, q, r]) = clkF [p, q, r] [23, 59, 59] 0 := rfl
    rw [e, clk_three _ _ _ h0, hp, hq, hr]
    rfl
theorem clock_eq (s : ByteArray) : clockP s = rclkL s.data.toList := by
  rcases clk_rng s with h1 | h1
  · rcases rclk_rng s.data.toList with h2 | h2
    · rw [h1, h2]
    · exact clk_same (rclk_form h2)
  · exact clk_same (clk_form h1)
/-! ### names -/
theorem lowF_U : lowF = lowU := rfl
theorem lower_iff (s x : ByteArray) (hx : ∀ b ∈ x.data.toList, b.toNat < 128) : x = lowerP s ↔ s.data.toList.map lowC = x.data.toList := by
  unfold lowerP
  rw [lowF_U]
  have := mapLow s.data.toList x.data.toList hx
  rw [← this]
  constructor
  · intro h; rw [h]
  · intro h; exact str_eq h.symm
def lowBy (s : ByteArray) : ByteArray := ⟨(s.data.toList.map lowC).toArray⟩
theorem namF_low (s : ByteArray) : ∀ (L : List ByteArray) (i : Int), (∀ x ∈ L, ∀ b ∈ x.data.toList, b.toNat < 128) → namF (lowerP s) L i = namF (lowBy s) L i
  | [], _, _ => rfl
  | x :: t, i, h => by
    have h1 := lower_iff s x (h x (by simp))
    have h2 : x = lowBy s ↔ s.data.toList.map lowC = x.data.toList := by
      unfold lowBy
      constructor
      · intro e; rw [e]
      · intro e; exact str_eq e.symm
    unfold namF
    rw [namF_low s t (i + 1) (fun y hy => h y (by simp [hy]))]
    by_cases hc : s.data.toList.map lowC = x.data.toList
    · rw [if_pos (h1.2 hc), if_pos (h2.2 hc)]
    · rw [if_neg (fun e => hc (h1.1 e)), if_neg (fun e => hc (h2.1 e))]
theorem namF_len (y : ByteArray) : ∀ (L : List ByteArray) (i : Int), (∀ x ∈ L, x.size = 3) → y.size ≠ 3 → namF y L i = -1
  | [], _, _, _ => rfl
  | x :: t, i, h, hy => by
    unfold namF
    rw [if_neg (fun e => hy (by rw [← e]; exact h x (by simp)))]
    exact namF_len y t (i + 1) (fun z hz => h z (by simp [hz])) hy
theorem lowBy_sz (s : ByteArray) : (lowBy s).size = s.size := by
  rw [Lib.size_eq, Lib.size_eq s]; simp [lowBy]
theorem all_lo {L : List ByteArray} (h : L.all (fun x => x.data.toList.all (fun b => decide (b.toNat < 128))) = true) : ∀ x ∈ L, ∀ b ∈ x.data.toList, b.toNat < 128 :=
  fun x hx b hb => of_decide_eq_true (List.all_eq_true.1 (List.all_eq_true.1 h x hx) b hb)
theorem all_three {L : List ByteArray} (h : L.all (fun x => decide (x.size = 3)) = true) : ∀ x ∈ L, x.size = 3 := by
  simpa using h
theorem dayB_lo : ∀ x ∈ dayB, ∀ b ∈ x.data.toList, b.toNat < 128 := all_lo (by decide +kernel)
theorem monB_lo : ∀ x ∈ monB, ∀ b ∈ x.data.toList, b.toNat < 128 := all_lo (by decide +kernel)
theorem dayB_three : ∀ x ∈ dayB, x.size = 3 := all_three (by decide +kernel)
theorem monB_three : ∀ x ∈ monB, x.size = 3 := all_three (by decide +kernel)
/-- the document's place of a name -/
def placeP (L : List ByteArray) (s : ByteArray) : Int := if s.size = 3 then namF (lowBy s) L 0 else -1
theorem place_eq (L : List ByteArray) (s : ByteArray) (h1 : ∀ x ∈ L, ∀ b ∈ x.data.toList, b.toNat < 128) (h2 : ∀ x ∈ L, x.size = 3) : namP L s = placeP L s := by
  unfold namP placeP
  rw [namF_low s L 0 h1]
  split
  · rfl
  · exact namF_len _ L 0 h2 (by rw [lowBy_sz]; assumption)
/-! ### the zone -/
def rzoneL : List UInt8 → Int × Bool
  | [a, b, c, d, e] => if a ≠ 43 ∧ a ≠ 45 then (0, false) else
      if rnumP [b, c] 2 2 < 0 ∨ 23 < rnumP [b, c] 2 2 ∨ rnumP [d, e] 2 2 < 0 ∨ 59 < rnumP [d, e] 2 2 then (0, false) else
      (if a = 45 then -3600 * rnumP [b, c] 2 2 - 60 * rnumP [d, e] 2 2 else 3600 * rnumP [b, c] 2 2 + 60 * rnumP [d, e] 2 2, true)
  | _ => (0, false)
theorem rzoneL_not5 {l : List UInt8} (h : l.length ≠ 5) : rzoneL l = (0, false) := by
  match l, h with
  | [], _ => rfl
  | [a], _ => rfl
  | [a, b], _ => rfl
  | [a, b, c], _ => rfl
  | [a, b, c, d], _ => rfl
  | [a, b, c, d, e], h => exact absurd rfl h
  | a :: b :: c :: d :: e :: f :: r, _ => rfl
theorem zoneL_eq (l : List UInt8) : zoneL l = rzoneL l := by
  by_cases h : l.length = 5
  · match l, h with
    | [a, b, c, d, e], _ =>
      unfold zoneL rzoneL
      simp only []
      rw [num_23 _ 23 (by omega), num_23 _ 59 (by omega)]
      have a1 := rnum_or [b, c] 2 2
      have a2 := rnum_or [d, e] 2 2
      generalize rnumP [b, c] 2 2 = x at *
      generalize rnumP [d, e] 2 2 = y at *
      by_cases ha : a ≠ 43 ∧ a ≠ 45
      · rw [if_pos (.inr (.inr ha)), if_pos ha]
      · rw [if_neg ha]
        by_cases hx : x < 0 ∨ 23 < x ∨ y < 0 ∨ 59 < y
        · rw [if_pos hx, if_pos]
          rcases hx with h | h | h | h
          · left; rw [if_neg (by omega)]; exact h
          · left; rw [if_pos h]; omega
          · right; left; rw [if_neg (by omega)]; exact h
          · right; left; rw [if_pos h]; omega
        · rw [if_neg hx, if_neg]
          · rw [if_neg (show ¬ 23 < x by omega), if_neg (show ¬ 59 < y by omega)]
            by_cases h45 : a = 45
            · rw [if_pos h45, if_pos h45]; congr 1; omega
            · rw [if_neg h45, if_neg h45]
          · rw [if_neg (show ¬ 23 < x by omega), if_neg (show ¬ 59 < y by omega)]
            rintro (h | h | h)
            · omega
            · omega
            · exact ha h
  · rw [zoneL_not5 h, rzoneL_not5 h]
theorem lower_is (s : ByteArray) (t : List UInt8) (ht : t.all (fun b => decide (b.toNat < 128)) = true) : lowerP s = ⟨t.toArray⟩ ↔ lowBy s = ⟨t.toArray⟩ := by
  have h1 := lower_iff s ⟨t.toArray⟩ (by simpa using ht)
  constructor
  · intro h; unfold lowBy; rw [h1.1 h.symm]
  · intro h
    refine (h1.2 ?_).symm
    have := congrArg (fun x : ByteArray => x.data.toList) h
    simpa [lowBy] using this
def rzoneP (s : ByteArray) : Int × Bool := if lowBy s = ⟨#[103, 109, 116]⟩ ∨ lowBy s = ⟨#[117, 116]⟩ then (0, true) else rzoneL s.data.toList
theorem zone_eq (s : ByteArray) : zoneP s = rzoneP s := by
  unfold zoneP rzoneP
  have e1 := lower_is s [103, 109, 116] (by decide)
  have e2 := lower_is s [117, 116] (by decide)
  by_cases h0 : s = ⟨#[]⟩
  · subst h0
    rw [if_pos rfl]
    rw [if_neg (by decide +kernel)]
    rfl
  · rw [if_neg h0]
    by_cases h : lowBy s = ⟨#[103, 109, 116]⟩ ∨ lowBy s = ⟨#[117, 116]⟩
    · rw [if_pos h, if_pos (h.imp e1.2 e2.2)]
    · rw [if_neg h, if_neg (fun h' => h (h'.imp e1.1 e2.1)), zoneL_eq]
end Go.Proofs.YtdkhoiahmjadnaaGreatDoor
