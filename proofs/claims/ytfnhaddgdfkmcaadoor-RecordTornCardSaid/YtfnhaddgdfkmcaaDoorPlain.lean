/-
  Plain laws of numbers and texts: what is laid down is read again; beginnings are too short. No condition but the sizes.
-/
import Derived.Test.YtfnhaddgdfkmcaaDoorTT
namespace Go.Proofs.YtfnhaddgdfkmcaaDoor
open Go.RowKit
set_option linter.unusedVariables false

theorem tk_nil {en dg mo z : Int} (i : Nat) (n : Int) : tk en dg mo z [] i n = (0, 0, 20) := rfl
theorem tk_digit {en dg mo z : Int} {c : UInt8} {r : List UInt8} {i : Nat} {n : Int} (hen : en < 48 ∨ 57 < en) (h1 : 48 ≤ c.toNat) (h2 : c.toNat ≤ 57) (hi : (i : Int) ≠ dg) (hz : ¬ (i = 1 ∧ z = 48)) :
    tk en dg mo z (c :: r) i n = tk en dg mo z r (i + 1) (n * 10 + ((c.toNat : Int) - 48)) := by
  rw [tk, if_neg (by omega), if_neg (by omega)]
theorem tk_end {en dg mo z : Int} {c : UInt8} {r : List UInt8} {i : Nat} {n : Int} (hc : (c.toNat : Int) = en) (hi : 0 < i) (hn : n ≤ mo) :
    tk en dg mo z (c :: r) i n = (n, (i : Int) + 1, 0) := by
  rw [tk, if_pos ⟨hc, hi⟩, if_neg (by omega)]

/-- a digit of base ten -/
def IsDig (c : UInt8) : Prop := 48 ≤ c.toNat ∧ c.toNat ≤ 57
/-- the number that digits spell, behind n -/
def val (n : Int) (ds : List UInt8) : Int := ds.foldl (fun a c => a * 10 + ((c.toNat : Int) - 48)) n

theorem tk_digits {en dg mo z : Int} (hen : en < 48 ∨ 57 < en) : ∀ (ds rest : List UInt8) (i : Nat) (n : Int), (∀ c ∈ ds, IsDig c) → (i : Int) + ds.length ≤ dg → (z = 48 → i + ds.length ≤ 1) →
    tk en dg mo z (ds ++ rest) i n = tk en dg mo z rest (i + ds.length) (val n ds)
  | [], rest, i, n, _, _, _ => rfl
  | c :: ds, rest, i, n, hd, hl, hz => by
    have hc := hd c (by simp)
    simp only [List.length_cons] at hl hz ⊢
    rw [List.cons_append, tk_digit hen hc.1 hc.2 (by omega) (by omega),
      tk_digits hen ds rest (i + 1) _ (fun d hd' => hd d (by simp [hd'])) (by omega) (by omega)]
    rw [show i + 1 + ds.length = i + (ds.length + 1) by omega]
    rfl

theorem ofNat_dig {d : Nat} (h : d < 10) : (UInt8.ofNat (48 + d)).toNat = 48 + d := by
  rw [UInt8.toNat_ofNat']; omega
theorem dec_dig : ∀ u, ∀ c ∈ Lib.decDigits u, IsDig c := by
  intro u
  induction u using Nat.strongRecOn with
  | _ u ih =>
    intro c hc
    rw [Lib.decDigits] at hc
    split at hc
    · rename_i h
      rw [List.mem_singleton] at hc
      subst hc
      have := ofNat_dig h
      unfold IsDig; omega
    · rw [List.mem_append] at hc
      rcases hc with hc | hc
      · exact ih (u / 10) (by omega) c hc
      · simp only [List.mem_singleton] at hc
        subst hc
        have := ofNat_dig (d := u % 10) (by omega)
        unfold IsDig; omega
theorem val_append (n : Int) (a b : List UInt8) : val n (a ++ b) = val (val n a) b := List.foldl_append ..
theorem dec_val : ∀ u : Nat, val 0 (Lib.decDigits u) = (u : Int) := by
  intro u
  induction u using Nat.strongRecOn with
  | _ u ih =>
    rw [Lib.decDigits]
    split
    · rename_i h
      have := ofNat_dig h
      simp only [val, List.foldl_cons, List.foldl_nil]
      omega
    · rw [val_append, ih (u / 10) (by omega)]
      have := ofNat_dig (d := u % 10) (by omega)
      simp only [val, List.foldl_cons, List.foldl_nil]
      omega
theorem dec_head : ∀ u, 10 ≤ u → ∃ c r, Lib.decDigits u = c :: r ∧ 49 ≤ c.toNat := by
  intro u
  induction u using Nat.strongRecOn with
  | _ u ih =>
    intro hu
    rw [Lib.decDigits, dif_neg (by omega)]
    by_cases h : u / 10 < 10
    · rw [Lib.decDigits_one h]
      have := ofNat_dig h
      exact ⟨_, _, rfl, by omega⟩
    · obtain ⟨c, r, e, hc⟩ := ih (u / 10) (by omega) (by omega)
      rw [e]
      exact ⟨c, _, rfl, hc⟩
theorem dec_pos (u : Nat) : 1 ≤ (Lib.decDigits u).length := by rw [Lib.decDigits_length]; exact Lib.nDigits_pos u
theorem dec_zero {u : Nat} {rest : List UInt8} (h : bt (Lib.decDigits u ++ rest) 0 = 48) : (Lib.decDigits u).length ≤ 1 := by
  by_cases hu : u < 10
  · rw [Lib.decDigits_one hu]; simp
  · obtain ⟨c, r, e, hc⟩ := dec_head u (by omega)
    rw [e] at h
    simp [bt] at h
    omega
theorem nDigits_le : ∀ (k v : Nat), v < 10 ^ (k + 1) → Lib.nDigits v ≤ k + 1 := by
  intro k
  induction k with
  | zero => intro v hv; rw [Lib.nDigits_small (by omega)]; omega
  | succ k ih =>
    intro v hv
    by_cases hv10 : v < 10
    · rw [Lib.nDigits_small hv10]; omega
    · rw [Lib.nDigits_big hv10]
      have := ih (v / 10) (by rw [Nat.pow_succ] at hv; omega)
      omega
theorem dec_len {k u : Nat} (h : u < 10 ^ (k + 1)) : (Lib.decDigits u).length ≤ k + 1 := by rw [Lib.decDigits_length]; exact nDigits_le k u h

/-- digits and an end byte, read off the front -/
theorem tk_back {en dg mo : Int} {e : UInt8} {k u : Nat} {rest : List UInt8} (hen : en < 48 ∨ 57 < en) (he : (e.toNat : Int) = en) (hu : u < 10 ^ (k + 1)) (hd : ((k + 1 : Nat) : Int) ≤ dg) (hm : (u : Int) ≤ mo) :
    tk en dg mo (bt (Lib.decDigits u ++ e :: rest) 0) (Lib.decDigits u ++ e :: rest) 0 0 = ((u : Int), ((Lib.decDigits u).length : Int) + 1, 0) := by
  have hl := dec_len hu
  have hp := dec_pos u
  rw [tk_digits hen _ _ 0 0 (dec_dig u) (by omega) (fun hz => by have := dec_zero hz; omega), dec_val, tk_end he (by omega) hm, Nat.zero_add]
/-- digits alone are too short -/
theorem tk_short {en dg mo z : Int} (hen : en < 48 ∨ 57 < en) (ds : List UInt8) (hd : ∀ c ∈ ds, IsDig c) (hl : (ds.length : Int) ≤ dg) (hz : z = 48 → ds.length ≤ 1) :
    tk en dg mo z ds 0 0 = (0, 0, 20) := by
  have := tk_digits (en := en) (dg := dg) (mo := mo) (z := z) hen ds [] 0 0 hd (by omega) (by omega)
  rw [List.append_nil] at this
  rw [this]
  rfl

/-! ### numbers -/
theorem number_back {n : Int} {rest : List UInt8} (h : numE n = 0) :
    tk 59 16 9007199254740992 (bt (numB n ++ rest) 0) (numB n ++ rest) 0 0 = (n, ((numB n).length : Int), 0) := by
  have hn : ¬ (n < 0 ∨ 9007199254740992 < n) := by
    intro hn; unfold numE at h; rw [if_pos hn] at h; omega
  unfold numB
  rw [if_neg hn, List.append_assoc, List.singleton_append]
  have := tk_back (en := 59) (dg := 16) (mo := 9007199254740992) (e := 59) (k := 15) (u := n.toNat) (rest := rest) (by omega) (by decide) (by omega) (by omega) (by omega)
  rw [this, Int.toNat_of_nonneg (by omega), List.length_append, List.length_singleton]
  rfl
theorem dig_take {u : Nat} {c : Nat} : ∀ d ∈ (Lib.decDigits u).take c, IsDig d := fun d hd => dec_dig u d (List.mem_of_mem_take hd)
theorem bt_take {l : List UInt8} {c : Nat} (hc : 0 < c) : bt (l.take c) 0 = bt l 0 := by
  unfold bt
  rw [List.getD_eq_getElem?_getD, List.getD_eq_getElem?_getD, List.getElem?_take_of_lt hc]
theorem number_torn {n : Int} {c : Nat} (h : numE n = 0) (hc : c < (numB n).length) :
    tk 59 16 9007199254740992 (bt ((numB n).take c) 0) ((numB n).take c) 0 0 = (0, 0, 20) := by
  have hn : ¬ (n < 0 ∨ 9007199254740992 < n) := by
    intro hn; unfold numE at h; rw [if_pos hn] at h; omega
  unfold numB at hc ⊢
  rw [if_neg hn] at hc ⊢
  rw [List.length_append, List.length_singleton] at hc
  rw [List.take_append_of_le_length (by omega)]
  have hl := dec_len (k := 15) (u := n.toNat) (by omega)
  refine tk_short (by omega) _ dig_take (by rw [List.length_take]; omega) fun hz => ?_
  rw [List.length_take]
  rcases Nat.eq_zero_or_pos c with h0 | h0
  · omega
  · rw [bt_take h0, ← List.append_nil (Lib.decDigits n.toNat)] at hz
    have := dec_zero hz
    omega

/-! ### texts -/
theorem text_form {s : List UInt8} (h : textE s = 0) : s.length ≤ 1048576 ∧ textB s = Lib.decDigits s.length ++ 58 :: (s ++ [44]) := by
  have hn : ¬ 1048576 < s.length := by
    intro hn; unfold textE at h; rw [if_pos hn] at h; omega
  refine ⟨by omega, ?_⟩
  unfold textB
  rw [if_neg hn]
  simp
theorem ttk_text {s rest : List UInt8} (h : s.length ≤ 1048576) : ttk (Lib.decDigits s.length ++ 58 :: rest) = ((s.length : Int), ((Lib.decDigits s.length).length : Int) + 1, 0) :=
  tk_back (en := 58) (dg := 7) (mo := 1048576) (e := 58) (k := 6) (by omega) (by decide) (by omega) (by omega) (by omega)
theorem text_back {s rest : List UInt8} (h : textE s = 0) :
    ttE (textB s ++ rest) = 0 ∧ ttN (textB s ++ rest) = (textB s).length ∧ ttS (textB s ++ rest) = s := by
  obtain ⟨hs, hB⟩ := text_form h
  have hk := ttk_text (rest := s ++ [44] ++ rest) hs
  have e : textB s ++ rest = Lib.decDigits s.length ++ 58 :: (s ++ [44] ++ rest) := by rw [hB]; simp
  have hlen : (textB s).length = (Lib.decDigits s.length).length + 1 + s.length + 1 := by rw [hB]; simp; omega
  have hE : ttE (textB s ++ rest) = 0 := by
    unfold ttE
    rw [e, hk, if_neg (by simp), if_neg (by simp; omega), if_neg]
    simp only [Classical.not_not]
    rw [show ((((Lib.decDigits s.length).length : Int) + 1) + (s.length : Int)).toNat = (Lib.decDigits s.length).length + (1 + s.length) by omega]
    simp [bt, Nat.add_comm 1]
  refine ⟨hE, ?_, ?_⟩
  · unfold ttN
    rw [if_pos hE, e, hk, hlen]
    simp
  · unfold ttS
    rw [if_pos hE, e, hk]
    simp only
    rw [show (((Lib.decDigits s.length).length : Int) + 1).toNat = (Lib.decDigits s.length).length + 1 by omega, Int.toNat_natCast]
    rw [List.drop_append, List.drop_eq_nil_of_le (by omega), show (Lib.decDigits s.length).length + 1 - (Lib.decDigits s.length).length = 1 by omega]
    simp
theorem text_torn {s : List UInt8} {c : Nat} (h : textE s = 0) (hc : c < (textB s).length) : ttE ((textB s).take c) = 20 := by
  obtain ⟨hs, hB⟩ := text_form h
  have hl := dec_len (k := 6) (u := s.length) (by omega)
  have hlen : (textB s).length = (Lib.decDigits s.length).length + 1 + s.length + 1 := by rw [hB]; simp; omega
  by_cases hcut : c ≤ (Lib.decDigits s.length).length
  · have : ttk ((textB s).take c) = (0, 0, 20) := by
      rw [hB, List.take_append_of_le_length hcut]
      refine tk_short (by omega) _ dig_take (by rw [List.length_take]; omega) fun hz => ?_
      rw [List.length_take]
      rcases Nat.eq_zero_or_pos c with h0 | h0
      · omega
      · rw [bt_take h0, ← List.append_nil (Lib.decDigits s.length)] at hz
        have := dec_zero hz
        omega
    unfold ttE
    rw [this, if_pos (by simp)]
  · obtain ⟨d, rfl⟩ : ∃ d, c = (Lib.decDigits s.length).length + (d + 1) := ⟨c - (Lib.decDigits s.length).length - 1, by omega⟩
    have e : (textB s).take ((Lib.decDigits s.length).length + (d + 1)) = Lib.decDigits s.length ++ 58 :: ((s ++ [44]).take d) := by
      rw [hB, List.take_length_add_append]; rfl
    unfold ttE
    rw [e, ttk_text hs, if_neg (by simp), if_pos]
    simp
    omega
end Go.Proofs.YtfnhaddgdfkmcaaDoor
