/-
  Texts that are written line by line are read as their entries. No program in sight. No condition.
-/
import Derived.Test.YtlknclkkhincfaaDoorTbBd
import Derived.Test.YtlknclkkhincfaaDoorTbPlain
namespace Go.Proofs.YtlknclkkhincfaaDoor
set_option linter.unusedVariables false
/-! ### runes that may stand -/
def okC (c : UInt8) : Bool := c == 9 || c == 10 || (decide (32 ≤ c.toNat) && decide (c.toNat ≤ 126))
theorem badR_lo (c : UInt8) : badR c.toNat = !okC c := by
  unfold badR okC
  have e9 : (c.toNat == 9) = (c == 9) := by
    by_cases h : c = 9
    · subst h; rfl
    · rw [beq_eq_false_iff_ne.2 h, beq_eq_false_iff_ne]; intro e; exact h (UInt8.toNat_inj.1 e)
  have e10 : (c.toNat == 10) = (c == 10) := by
    by_cases h : c = 10
    · subst h; rfl
    · rw [beq_eq_false_iff_ne.2 h, beq_eq_false_iff_ne]; intro e; exact h (UInt8.toNat_inj.1 e)
  rw [e9, e10]
  by_cases h1 : 32 ≤ c.toNat
  · by_cases h2 : c.toNat ≤ 126
    · rw [decide_eq_true h1, decide_eq_true h2, decide_eq_false (by omega), decide_eq_false (by omega)]
      cases c == 9 <;> cases c == 10 <;> rfl
    · rw [decide_eq_true h1, decide_eq_false h2, decide_eq_false (by omega), decide_eq_true (by omega)]
      cases c == 9 <;> cases c == 10 <;> rfl
  · rw [decide_eq_false h1, decide_eq_true (show c.toNat < 32 by omega)]
    cases c == 9 <;> cases c == 10 <;> simp
theorem okC_lo {c : UInt8} (h : okC c = true) : c.toNat < 128 := by
  unfold okC at h
  simp at h
  rcases h with (h | h) | h
  · subst h; decide
  · subst h; decide
  · omega
theorem idx_from (s : ByteArray) : ∀ (f pos : Nat), s.size ≤ pos + f → ((Lib.idxFuncFrom badR true s f pos < 0) ↔ (s.data.toList.drop pos).all okC = true)
  | 0, pos, h => by
    rw [List.drop_of_length_le (by rw [← Lib.size_eq]; omega)]
    simp [Lib.idxFuncFrom]
  | f + 1, pos, h => by
    by_cases hlt : pos < s.size
    · rw [drop_at s hlt, List.all_cons]
      unfold Lib.idxFuncFrom
      rw [if_pos hlt]
      by_cases hlo : s[pos].toNat < 128
      · rw [dec_lo s hlt hlo]
        simp only []
        rw [badR_lo]
        cases hok : okC s[pos]
        · simp
        · simp only [Bool.not_true, Bool.false_eq_true, if_false, Bool.true_and]
          exact idx_from s f (pos + 1) (by omega)
      · have h1 := dec_hi s hlt (by omega)
        have hb : badR (Utf8.decode s pos).1 = true := by
          unfold badR
          rw [beq_eq_false_iff_ne.2 (show (Utf8.decode s pos).1 ≠ 9 by omega), beq_eq_false_iff_ne.2 (show (Utf8.decode s pos).1 ≠ 10 by omega), decide_eq_true (show 126 < (Utf8.decode s pos).1 by omega)]
          simp
        rw [if_pos hb]
        have : okC s[pos] = false := by
          cases hok : okC s[pos]
          · rfl
          · exact absurd (okC_lo hok) hlo
        rw [this]
        simp
    · rw [List.drop_of_length_le (by rw [← Lib.size_eq]; omega), Lib.idxFuncFrom_end _ _ _ _ _ hlt]
      simp
theorem idx_ok (text : List UInt8) : Lib.idxFunc badR true ⟨text.toArray⟩ < 0 ↔ text.all okC = true := by
  have := idx_from ⟨text.toArray⟩ (ByteArray.mk text.toArray).size 0 (by omega)
  exact this
theorem idx_neg {text : List UInt8} (h : text.all okC = true) : Lib.idxFunc badR true ⟨text.toArray⟩ = -1 := by
  have h1 := (idx_ok text).2 h
  have h2 := Lib.idxFuncFrom_range badR true ⟨text.toArray⟩ (ByteArray.mk text.toArray).size 0
  have e : Lib.idxFuncFrom badR true ⟨text.toArray⟩ (ByteArray.mk text.toArray).size 0 = Lib.idxFunc badR true ⟨text.toArray⟩ := rfl
  rw [e] at h2
  omega
/-! ### line by line -/
def cutT (rest : List UInt8) (at_ : Nat) (o : List PL × Int) : List PL × Int := cutGo rest.length rest at_ o
theorem cutT_line {h : List UInt8} (hn : ∀ b ∈ h, b ≠ 10) (r : List UInt8) (at_ : Nat) (o : List PL × Int) : cutT (h ++ 10 :: r) at_ o = cutT r (at_ + h.length + 1) (cutStep at_ h o) := by
  have hl : lineOf (h ++ 10 :: r) = h := lineOf_eq hn (.inr ⟨r, rfl⟩)
  unfold cutT
  rw [cutGo_fuel (h ++ 10 :: r).length ((h ++ 10 :: r).length + 1) _ _ _ (by omega) (by omega), cutGo, if_neg (by simp), hl]
  have hd : (h ++ 10 :: r).drop (h.length + 1) = r := by
    rw [List.drop_append, List.drop_of_length_le (by omega)]
    simp
  rw [hd]
  exact cutGo_fuel _ _ _ _ _ (by simp; omega) (Nat.le_refl _)
theorem cutT_nil (at_ : Nat) (o : List PL × Int) : cutT [] at_ o = o := cutGo_nil _ _ _
/-- a key's byte is no blank -/
theorem keyC_facts {c : UInt8} (h : keyC c = true) : isBl c = false ∧ c ≠ 10 ∧ c.toNat < 128 ∧ okC c = true := by
  unfold keyC at h
  simp at h
  have n1 : c ≠ 32 := by rintro rfl; exact absurd h.1 (by decide)
  have n2 : c ≠ 9 := by rintro rfl; exact absurd h.1 (by decide)
  have n3 : c ≠ 10 := by rintro rfl; exact absurd h.1 (by decide)
  refine ⟨by unfold isBl; rw [beq_eq_false_iff_ne.2 n1, beq_eq_false_iff_ne.2 n2]; rfl, n3, by omega, ?_⟩
  unfold okC
  rw [decide_eq_true (show 32 ≤ c.toNat by omega), decide_eq_true h.2]
  simp
theorem valC_facts {c : UInt8} (h : valC c = true) : c ≠ 10 ∧ okC c = true := by
  unfold valC at h
  simp at h
  refine ⟨by rintro rfl; exact absurd h.1 (by decide), ?_⟩
  unfold okC
  rw [decide_eq_true h.1, decide_eq_true h.2]
  simp
theorem isBl_facts {c : UInt8} (h : isBl c = true) : c ≠ 10 ∧ okC c = true := by
  unfold isBl at h
  simp at h
  rcases h with rfl | rfl
  · exact ⟨by decide, rfl⟩
  · exact ⟨by decide, rfl⟩
theorem trimB_mid : ∀ (m : List UInt8), m.all isBl = true → ∀ r, trimB (m ++ r) = trimB r
  | [], _, r => rfl
  | c :: m, h, r => by
    rw [List.all_cons, Bool.and_eq_true] at h
    rw [List.cons_append, trimB_bl h.1, trimB_mid m h.2 r]
theorem trimB_endN : ∀ (n : Nat) (m : List UInt8), m.length = n → m.all isBl = true → ∀ r, trimB (r ++ m) = trimB r
  | 0, m, hm, _, r => by
    obtain rfl := List.eq_nil_of_length_eq_zero hm
    rw [List.append_nil]
  | n + 1, m, hm, h, r => by
    rcases snoc_or m with rfl | ⟨m', d, rfl⟩
    · simp at hm
    · rw [List.all_append, Bool.and_eq_true] at h
      rw [← List.append_assoc, trimB_snoc (by simpa using h.2), trimB_endN n m' (by simpa using hm) h.1 r]
theorem trimB_end (m : List UInt8) (h : m.all isBl = true) (r : List UInt8) : trimB (r ++ m) = trimB r := trimB_endN m.length m rfl h r
/-- what plain says -/
theorem plainB_facts {k v : List UInt8} (h : plainB k v = true) : k.all keyC = true ∧ v.all valC = true ∧ k ≠ [] ∧ k.length ≤ 320 ∧ k.head? ≠ some 35 ∧ trimB v ≠ [] ∧ v.length ≤ 1000 := by
  unfold plainB at h
  simp only [Bool.and_eq_true, decide_eq_true_eq, Bool.not_eq_true'] at h
  obtain ⟨h1, h2, h3, h4, h5, h6, h7⟩ := h
  refine ⟨h1, h2, List.length_pos_iff.1 h3, h4, by simpa using h5, ?_, h7⟩
  intro e
  rw [e] at h6
  cases h6
/-- an entry's line -/
theorem cutStep_entry {k v m t : List UInt8} (hp : plainB k v = true) (hm : m.all isBl = true) (hm0 : m ≠ []) (ht : t.all isBl = true) (at_ : Nat) (o : List PL × Int) :
    cutStep at_ (k ++ m ++ v ++ t) o = (o.1 ++ [⟨at_, k.map lowC, [trimB v]⟩], o.2) := by
  obtain ⟨h1, h2, h3, h4, h5, h6, h7⟩ := plainB_facts hp
  obtain ⟨c, r, rfl⟩ : ∃ c r, k = c :: r := by cases k with | nil => exact absurd rfl h3 | cons c r => exact ⟨c, r, rfl⟩
  obtain ⟨d, m', rfl⟩ : ∃ d m', m = d :: m' := by cases m with | nil => exact absurd rfl hm0 | cons d m' => exact ⟨d, m', rfl⟩
  have hc : isBl c = false := (keyC_facts (List.all_eq_true.1 h1 c (by simp))).1
  have hd : isBl d = true := List.all_eq_true.1 hm d (by simp)
  have hL : trimL (c :: r ++ (d :: m') ++ v ++ t) = c :: r ++ (d :: m') ++ v ++ t := by
    unfold trimL
    simp only [List.cons_append]
    rw [List.dropWhile_cons_of_neg (by simp [hc])]
  have hfb : firstBl (c :: r ++ (d :: m') ++ v ++ t) = (c :: r).length := by
    unfold firstBl
    rw [List.append_assoc, List.append_assoc, List.takeWhile_append_of_pos (fun a ha => by
      have := (keyC_facts (List.all_eq_true.1 h1 a ha)).1
      simp [this])]
    have : ∀ q : List UInt8, (d :: m' ++ q).takeWhile (fun c => !isBl c) = [] := fun q => by rw [List.cons_append, List.takeWhile_cons_of_neg (by simp [hd])]
    rw [this, List.append_nil]
  have htk : (c :: r ++ (d :: m') ++ v ++ t).take (c :: r).length = c :: r := by
    rw [List.append_assoc, List.append_assoc, List.take_left']; rfl
  have hdr : (c :: r ++ (d :: m') ++ v ++ t).drop (c :: r).length = (d :: m') ++ v ++ t := by
    rw [List.append_assoc, List.append_assoc, List.drop_left' rfl, List.append_assoc]
  have hv : trimB ((d :: m') ++ v ++ t) = trimB v := by rw [trimB_end t ht, trimB_mid _ hm]
  have hlow : Lib.mapD lowU (c :: r) = (c :: r).map lowC := mapLow_lo _ fun b hb => (keyC_facts (List.all_eq_true.1 h1 b hb)).2.2.1
  have hnp : newPL at_ (c :: r ++ (d :: m') ++ v ++ t) = ⟨at_, (c :: r).map lowC, [trimB v]⟩ := by
    unfold newPL
    rw [hfb, htk, hdr, hlow]
    unfold addP
    rw [hv, if_neg h6]
    rfl
  have hne : trimB (c :: r ++ (d :: m') ++ v ++ t) ≠ [] := by
    rw [trimB_end t ht]
    intro e
    have h8 : trimB (c :: (r ++ (d :: m') ++ v)) = [] := by simpa using e
    -- the first byte is no blank
    rcases snoc_or (r ++ (d :: m') ++ v) with h9 | ⟨z, y, h9⟩
    · simp at h9
    · rw [h9] at h8
      have hz : ∀ (n : Nat) (z : List UInt8), z.length = n → trimB (c :: z) ≠ [] := by
        intro n
        induction n with
        | zero =>
          intro z hz
          obtain rfl := List.eq_nil_of_length_eq_zero hz
          rw [trimB_self (m := [c]) hc hc rfl rfl]
          simp
        | succ n ih =>
          intro z hz
          rcases snoc_or z with rfl | ⟨z', y, rfl⟩
          · simp at hz
          · by_cases hy : isBl y = true
            · rw [← List.cons_append, trimB_snoc hy]
              exact ih z' (by simpa using hz)
            · rw [trimB_self (m := c :: (z' ++ [y])) hc (show isBl y = false by simpa using hy) rfl (by rw [← List.cons_append, List.getLast?_append]; rfl)]
              simp
      exact hz _ _ rfl h8
  unfold cutStep
  have hs : skipB (c :: r ++ (d :: m') ++ v ++ t) = false := by
    unfold skipB
    rw [hL]
    have h9 : (trimB (c :: r ++ (d :: m') ++ v ++ t)).isEmpty = false := by
      cases h : trimB (c :: r ++ (d :: m') ++ v ++ t) with
      | nil => exact absurd h hne
      | cons _ _ => rfl
    rw [h9]
    have h10 : c ≠ 35 := fun e => h5 (by rw [e]; rfl)
    simp [h10]
  have hh : headB (c :: r ++ (d :: m') ++ v ++ t) = true := by unfold headB; rw [hL]; simp
  rw [hs, hh, hnp]
  rfl
end Go.Proofs.YtlknclkkhincfaaDoor
