/-
  Texts by their bytes and by their runes: a predicate on ASCII cuts both alike; lower letters. No program in sight. No condition.
-/
import Derived.Test.YtlknclkkhincfaaDoorLib
import Derived.Lib.TrimUEq
import Derived.Lib.MapLaws
import Derived.Lib.FieldsP
import Derived.Laws.RangeAny
namespace Go.Proofs.YtlknclkkhincfaaDoor
set_option linter.unusedVariables false

theorem decodeN_cont (n b0 b1 b2 b3 j : Nat) (h1 : 1 ≤ j) (h2 : j < (Lib.decodeN n b0 b1 b2 b3).2) :
    j < n ∧ ((j = 1 ∧ 128 ≤ b1) ∨ (j = 2 ∧ 128 ≤ b2) ∨ (j = 3 ∧ 128 ≤ b3)) := by
  unfold Lib.decodeN at h2
  split at h2
  · simp only [] at h2; omega
  split at h2
  · split at h2
    · simp only [] at h2; omega
    · simp only [] at h2; omega
  split at h2
  · split at h2
    · simp only [] at h2; omega
    · simp only [] at h2; omega
  split at h2
  · split at h2
    · simp only [] at h2; omega
    · simp only [] at h2; omega
  · simp only [] at h2; omega
/-- the bytes of a rune behind its first one are no ASCII -/
theorem cont_hi (s : ByteArray) (pos j : Nat) (h1 : 1 ≤ j) (h2 : j < (Utf8.decode s pos).2) : pos + j < s.size ∧ 128 ≤ (s.data.toList.getD (pos + j) 0).toNat := by
  rw [Lib.decode_N] at h2
  obtain ⟨h3, h4⟩ := decodeN_cont _ _ _ _ _ j h1 h2
  refine ⟨by rw [Lib.size_eq]; omega, ?_⟩
  rcases h4 with ⟨rfl, h⟩ | ⟨rfl, h⟩ | ⟨rfl, h⟩ <;> exact h
theorem width_one (s : ByteArray) (pos : Nat) : 1 ≤ (Utf8.decode s pos).2 := Lib.width_pos s pos
/-- spans by bytes: what stands between the bytes that q has -/
def spB (q : UInt8 → Bool) : List UInt8 → Nat → Option Nat → List (Nat × Nat) → List (Nat × Nat) × Option Nat
  | [], _, st, acc => (acc, st)
  | c :: r, pos, st, acc => if q c then (match st with
      | some a => spB q r (pos + 1) none (acc ++ [(a, pos)])
      | none => spB q r (pos + 1) none acc) else spB q r (pos + 1) (some (st.getD pos)) acc
theorem spB_no {q : UInt8 → Bool} {c : UInt8} (h : q c = false) (r : List UInt8) (pos : Nat) (st : Option Nat) (acc : List (Nat × Nat)) : spB q (c :: r) pos st acc = spB q r (pos + 1) (some (st.getD pos)) acc := by
  rw [spB.eq_def]; simp [h]
theorem spB_end {q : UInt8 → Bool} {c : UInt8} (h : q c = true) (r : List UInt8) (pos a : Nat) (acc : List (Nat × Nat)) : spB q (c :: r) pos (some a) acc = spB q r (pos + 1) none (acc ++ [(a, pos)]) := by
  rw [spB.eq_def]; simp [h]
theorem spB_sep {q : UInt8 → Bool} {c : UInt8} (h : q c = true) (r : List UInt8) (pos : Nat) (acc : List (Nat × Nat)) : spB q (c :: r) pos none acc = spB q r (pos + 1) none acc := by
  rw [spB.eq_def]; simp [h]
theorem spB_run (q : UInt8 → Bool) : ∀ (m : List UInt8) (r : List UInt8) (pos a : Nat) (acc : List (Nat × Nat)), (∀ c ∈ m, q c = false) → spB q (m ++ r) pos (some a) acc = spB q r (pos + m.length) (some a) acc
  | [], r, pos, a, acc, h => by simp
  | c :: m, r, pos, a, acc, h => by
    rw [List.cons_append, spB_no (h c (by simp)), Option.getD_some, spB_run q m r (pos + 1) a acc (fun c hc => h c (by simp [hc]))]
    congr 1
    simp; omega
theorem getD_at (s : ByteArray) {pos : Nat} (h : pos < s.size) : s.data.toList.getD pos 0 = s[pos] := by
  have hl : pos < s.data.toList.length := by rw [← Lib.size_eq]; exact h
  rw [List.getD_eq_getElem?_getD, List.getElem?_eq_getElem hl]
  rfl
theorem drop_at (s : ByteArray) {pos : Nat} (h : pos < s.size) : s.data.toList.drop pos = s[pos] :: s.data.toList.drop (pos + 1) := by
  have hl : pos < s.data.toList.length := by rw [← Lib.size_eq]; exact h
  rw [List.drop_eq_getElem_cons hl]
  rfl
theorem dec_lo (s : ByteArray) {pos : Nat} (h : pos < s.size) (hb : s[pos].toNat < 128) : Utf8.decode s pos = (s[pos].toNat, 1) := decode_ascii s pos h hb
theorem dec_hi (s : ByteArray) {pos : Nat} (h : pos < s.size) (hb : 128 ≤ s[pos].toNat) : 128 ≤ (Utf8.decode s pos).1 := (decode_high s pos h hb).1
theorem cont_mem (s : ByteArray) {pos : Nat} (k : Nat) (hk : pos + k ≤ s.size) (h : ∀ j, 1 ≤ j → j < k → 128 ≤ (s.data.toList.getD (pos + j) 0).toNat) : ∀ c ∈ (s.data.toList.drop (pos + 1)).take (k - 1), 128 ≤ c.toNat := by
  intro c hc
  obtain ⟨i, hi, rfl⟩ := List.getElem_of_mem hc
  rw [List.length_take, List.length_drop] at hi
  have := h (i + 1) (by omega) (by omega)
  rw [List.getElem_take, List.getElem_drop]
  rw [List.getD_eq_getElem?_getD, List.getElem?_eq_getElem (by rw [← Lib.size_eq]; omega), Option.getD_some] at this
  simpa only [show pos + (i + 1) = pos + 1 + i by omega] using this
/-- a predicate that holds of ASCII alone: by runes as by bytes -/
theorem spans_bytes (p : Nat → Bool) (hp : ∀ x, p x = true → x < 128) (s : ByteArray) : ∀ (f pos : Nat) (st : Option Nat) (acc : List (Nat × Nat)), s.size ≤ pos + f →
    Lib.spansFromP p s f pos st acc = spB (fun c => p c.toNat) (s.data.toList.drop pos) pos st acc
  | 0, pos, st, acc, h => by
    rw [List.drop_of_length_le (by rw [← Lib.size_eq]; omega)]
    rfl
  | f + 1, pos, st, acc, h => by
    by_cases hlt : pos < s.size
    · rw [drop_at s hlt, Lib.spansFromP.eq_def]
      simp only [hlt, if_true]
      by_cases hb : s[pos].toNat < 128
      · rw [dec_lo s hlt hb]
        simp only []
        cases hq : p s[pos].toNat
        · rw [spB_no hq, if_neg Bool.false_ne_true]
          cases st with
          | none => exact spans_bytes p hp s f (pos + 1) _ acc (by omega)
          | some a => exact spans_bytes p hp s f (pos + 1) _ acc (by omega)
        · rw [if_pos rfl]
          cases st with
          | none => rw [spB_sep hq]; exact spans_bytes p hp s f (pos + 1) _ acc (by omega)
          | some a => rw [spB_end hq]; exact spans_bytes p hp s f (pos + 1) _ _ (by omega)
      · have hr := dec_hi s hlt (by omega)
        have hn : p (Utf8.decode s pos).1 = false := by
          cases hq : p (Utf8.decode s pos).1
          · rfl
          · have := hp _ hq; omega
        have hn0 : p s[pos].toNat = false := by
          cases hq : p s[pos].toNat
          · rfl
          · have := hp _ hq; omega
        have hw := width_one s pos
        have hc := fun j h1 h2 => cont_hi s pos j h1 h2
        generalize (Utf8.decode s pos).2 = k at *
        rw [hn, if_neg Bool.false_ne_true, spB_no hn0]
        have hk : pos + k ≤ s.size := by
          rcases Nat.lt_or_ge 1 k with h1 | h1
          · have := (hc (k - 1) (by omega) (by omega)).1; omega
          · omega
        have hm := cont_mem s k hk (fun j h1 h2 => (hc j h1 h2).2)
        have hsp : s.data.toList.drop (pos + 1) = (s.data.toList.drop (pos + 1)).take (k - 1) ++ s.data.toList.drop (pos + k) := by
          have := List.take_append_drop (k - 1) (s.data.toList.drop (pos + 1))
          rw [List.drop_drop, show pos + 1 + (k - 1) = pos + k by omega] at this
          exact this.symm
        have hlen : ((s.data.toList.drop (pos + 1)).take (k - 1)).length = k - 1 := by
          rw [List.length_take, List.length_drop, ← Lib.size_eq]; omega
        rw [hsp, spB_run _ _ _ _ _ _ (fun c hc' => by
          have := hm c hc'
          cases hq : p c.toNat
          · rfl
          · have := hp _ hq; omega), hlen, show pos + 1 + (k - 1) = pos + k by omega]
        cases st with
        | none => exact spans_bytes p hp s f (pos + k) _ acc (by omega)
        | some a => exact spans_bytes p hp s f (pos + k) _ acc (by omega)
    · rw [Lib.spansFromP_end _ _ _ _ _ _ hlt, List.drop_of_length_le (by rw [← Lib.size_eq]; omega)]
      rfl

/-! ### lower letters -/
def lowU (x : Int) : Int := if 65 ≤ x ∧ x ≤ 90 then x + 32 else x
def lowC (c : UInt8) : UInt8 := if 65 ≤ c.toNat ∧ c.toNat ≤ 90 then c + 32 else c
theorem lowC_nat (c : UInt8) : (lowC c).toNat = if 65 ≤ c.toNat ∧ c.toNat ≤ 90 then c.toNat + 32 else c.toNat := by
  unfold lowC
  split
  · rw [UInt8.toNat_add]
    have : (32 : UInt8).toNat = 32 := rfl
    omega
  · rfl
theorem dec_cons (c : UInt8) (r : List UInt8) (h : c.toNat < 128) : Lib.decodeL (c :: r) = (c.toNat, 1) := by
  rw [Lib.decodeL_N]
  unfold Lib.decodeN
  rw [show (c :: r).getD 0 0 = c from rfl, if_pos h]
theorem dec_cons_hi (c : UInt8) (r : List UInt8) (h : ¬ c.toNat < 128) : 128 ≤ (Lib.decodeL (c :: r)).1 := by
  have := dec_hi ⟨(c :: r).toArray⟩ (pos := 0) (by rw [Lib.size_eq]; simp) (by show 128 ≤ c.toNat; omega)
  rw [← Lib.decodeL_drop] at this
  exact this
theorem enc_lo {x : Nat} (h : x < 128) : Lib.encodeRune (x : Int) = [UInt8.ofNat x] := by
  unfold Lib.encodeRune
  rw [Lib.encodeRuneZ_one (by omega) (by omega)]
  rfl
theorem u8_of {x : Int} (h0 : 128 ≤ x) (h1 : x ≤ 255) : 128 ≤ (x.toNat.toUInt8).toNat := by
  show 128 ≤ (UInt8.ofNat x.toNat).toNat
  rw [UInt8.toNat_ofNat']
  omega
theorem enc_hi {x : Int} (h : 128 ≤ x) : ∃ b ∈ Lib.encodeRune x, 128 ≤ b.toNat := by
  unfold Lib.encodeRune
  by_cases h1 : x ≤ 2047
  · rw [Lib.encodeRuneZ_two h h1]
    exact ⟨_, List.mem_cons_self, u8_of (by omega) (by omega)⟩
  by_cases h2 : (2048 ≤ x ∧ x < 55296) ∨ (57343 < x ∧ x ≤ 65535)
  · rw [Lib.encodeRuneZ_three h2]
    exact ⟨_, List.mem_cons_self, u8_of (by omega) (by omega)⟩
  by_cases h3 : 65536 ≤ x ∧ x ≤ 1114111
  · rw [Lib.encodeRuneZ_four h3.1 h3.2]
    exact ⟨_, List.mem_cons_self, u8_of (by omega) (by omega)⟩
  · rw [Lib.encodeRuneZ_bad (by omega)]
    exact ⟨_, List.mem_cons_self, u8_of (by omega) (by omega)⟩
theorem lowU_nat {x : Nat} (h : x < 128) : ∃ y : Nat, lowU (x : Int) = y ∧ y < 128 ∧ UInt8.ofNat y = lowC (UInt8.ofNat x) := by
  unfold lowU
  have hx : (UInt8.ofNat x).toNat = x := by rw [UInt8.toNat_ofNat']; omega
  split
  · refine ⟨x + 32, by omega, by omega, ?_⟩
    apply UInt8.toNat_inj.1
    rw [lowC_nat, hx, if_pos (by omega), UInt8.toNat_ofNat']
    omega
  · refine ⟨x, rfl, h, ?_⟩
    apply UInt8.toNat_inj.1
    rw [lowC_nat, hx, if_neg (by omega)]
theorem mapLow_lo : ∀ l : List UInt8, (∀ b ∈ l, b.toNat < 128) → Lib.mapD lowU l = l.map lowC
  | [], _ => rfl
  | c :: r, h => by
    have hc := h c (by simp)
    obtain ⟨y, h1, h2, h3⟩ := lowU_nat hc
    rw [Lib.mapD_step _ _ (by simp), dec_cons c r hc]
    simp only []
    rw [h1, if_pos (by omega), enc_lo h2, h3]
    show [lowC (UInt8.ofNat c.toNat)] ++ Lib.mapD lowU r = _
    rw [mapLow_lo r (fun b hb => h b (by simp [hb])), UInt8.ofNat_toNat]
    rfl
theorem mapLow_hi : ∀ l : List UInt8, (∃ b ∈ l, 128 ≤ b.toNat) → ∃ b ∈ Lib.mapD lowU l, 128 ≤ b.toNat
  | [], h => by obtain ⟨b, hb, _⟩ := h; cases hb
  | c :: r, h => by
    rw [Lib.mapD_step _ _ (by simp)]
    by_cases hc : c.toNat < 128
    · rw [dec_cons c r hc]
      obtain ⟨b, hb, h1⟩ := h
      rcases List.mem_cons.1 hb with rfl | hb
      · omega
      · obtain ⟨b', hb', h2⟩ := mapLow_hi r ⟨b, hb, h1⟩
        exact ⟨b', List.mem_append_right _ hb', h2⟩
    · have hr := dec_cons_hi c r hc
      have e : lowU ((Lib.decodeL (c :: r)).1 : Int) = ((Lib.decodeL (c :: r)).1 : Int) := by unfold lowU; rw [if_neg (by omega)]
      rw [e, if_pos (by omega)]
      obtain ⟨b, hb, h1⟩ := enc_hi (x := ((Lib.decodeL (c :: r)).1 : Int)) (by omega)
      exact ⟨b, List.mem_append_left _ hb, h1⟩
theorem lowC_lo (c : UInt8) : (lowC c).toNat < 128 ↔ c.toNat < 128 := by rw [lowC_nat]; split <;> omega
/-- lower letters by runes and by bytes are alike, where a text of ASCII is asked for -/
theorem mapLow (l t : List UInt8) (ht : ∀ b ∈ t, b.toNat < 128) : Lib.mapD lowU l = t ↔ l.map lowC = t := by
  by_cases h : ∀ b ∈ l, b.toNat < 128
  · rw [mapLow_lo l h]
  · have h' : ∃ b ∈ l, 128 ≤ b.toNat := by
      apply Classical.byContradiction
      intro hn
      exact h fun b hb => Nat.lt_of_not_le fun h2 => hn ⟨b, hb, h2⟩
    constructor
    · intro e
      obtain ⟨b, hb, h1⟩ := mapLow_hi l h'
      have := ht b (e ▸ hb)
      omega
    · intro e
      obtain ⟨b, hb, h1⟩ := h'
      have := ht (lowC b) (e ▸ List.mem_map_of_mem hb)
      rw [lowC_lo] at this
      omega
end Go.Proofs.YtlknclkkhincfaaDoor
