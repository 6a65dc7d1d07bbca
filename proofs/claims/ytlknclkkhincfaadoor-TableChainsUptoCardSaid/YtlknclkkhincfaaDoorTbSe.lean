/-
  Entries by rising keys: where a key stands. No program in sight. No condition.
-/
import Derived.Test.YtlknclkkhincfaaDoorTbPl
import Derived.Lib.Bytealg
import Derived.Sort.Walk0
namespace Go.Proofs.YtlknclkkhincfaaDoor
set_option linter.unusedVariables false
theorem cmpB_lt : ∀ x y : List UInt8, Lib.compareBytes x y < 0 ↔ x < y
  | [], [] => by simp [Lib.compareBytes]
  | [], _ :: _ => by simp [Lib.compareBytes]
  | _ :: _, [] => by simp [Lib.compareBytes]
  | a :: x, b :: y => by
    rw [Lib.compareBytes, List.cons_lt_cons_iff]
    by_cases h1 : a < b
    · simp [h1]
    · rw [if_neg h1]
      by_cases h2 : b < a
      · rw [if_pos h2]
        have : ¬ a = b := by rintro rfl; exact h1 h2
        simp [h1, this]
      · rw [if_neg h2, cmpB_lt x y]
        have : a = b := UInt8.le_antisymm (UInt8.not_lt.1 h2) (UInt8.not_lt.1 h1)
        simp [this, UInt8.lt_irrefl]
theorem cmpB_eq : ∀ x y : List UInt8, Lib.compareBytes x y = 0 ↔ x = y
  | [], [] => by simp [Lib.compareBytes]
  | [], _ :: _ => by simp [Lib.compareBytes]
  | _ :: _, [] => by simp [Lib.compareBytes]
  | a :: x, b :: y => by
    rw [Lib.compareBytes]
    by_cases h1 : a < b
    · have : ¬ a = b := by rintro rfl; exact UInt8.lt_irrefl a h1
      simp [h1, this]
    · rw [if_neg h1]
      by_cases h2 : b < a
      · have : ¬ a = b := by rintro rfl; exact h1 h2
        simp [h2, this]
      · rw [if_neg h2, cmpB_eq x y]
        have : a = b := UInt8.le_antisymm (UInt8.not_lt.1 h2) (UInt8.not_lt.1 h1)
        simp [this]
theorem countP_bound {α : Type} (p : α → Bool) : ∀ (l : List α) (i : Nat), i ≤ l.length → (∀ t x, t < i → l[t]? = some x → p x = true) → (∀ t x, i ≤ t → l[t]? = some x → p x = false) → l.countP p = i
  | [], i, hi, _, _ => by simp at hi; simp [hi]
  | a :: r, 0, _, _, h2 => by
    rw [List.countP_eq_zero]
    intro x hx
    obtain ⟨t, ht, rfl⟩ := List.getElem_of_mem hx
    have := h2 t _ (Nat.zero_le _) (List.getElem?_eq_getElem ht)
    simp [this]
  | a :: r, i + 1, hi, h1, h2 => by
    have ha : p a = true := h1 0 a (by omega) rfl
    rw [List.countP_cons_of_pos ha, countP_bound p r i (by simpa using hi) (fun t x ht hx => h1 (t + 1) x (by omega) (by simpa using hx)) (fun t x ht hx => h2 (t + 1) x (by omega) (by simpa using hx))]
theorem key_tr {a b c : List UInt8} (h1 : a < b) (h2 : b < c) : a < c := List.lt_trans h1 h2
theorem key_ir (a : List UInt8) : ¬ a < a := List.lt_irrefl a
/-- what stands ahead of a key stands ahead of what does not -/
theorem sortE_mono {T : List En} (h : sortE T) {key : List UInt8} {i j : Nat} {a b : En} (hij : i ≤ j) (ha : T[i]? = some a) (hb : T[j]? = some b) (hlt : b.k < key) : a.k < key := by
  rcases Nat.eq_or_lt_of_le hij with rfl | hij
  · rw [ha] at hb; obtain rfl := Option.some.inj hb; exact hlt
  · obtain ⟨hi, rfl⟩ := List.getElem?_eq_some_iff.1 ha
    obtain ⟨hj, rfl⟩ := List.getElem?_eq_some_iff.1 hb
    exact key_tr (List.pairwise_iff_getElem.1 h i j hi hj hij) hlt
theorem posE_of {T : List En} {key : List UInt8} {i : Nat} (hi : i ≤ T.length) (h1 : ∀ t x, t < i → T[t]? = some x → x.k < key) (h2 : ∀ t x, i ≤ t → T[t]? = some x → ¬ x.k < key) : posE T key = i :=
  countP_bound _ T i hi (fun t x a b => decide_eq_true (h1 t x a b)) (fun t x a b => decide_eq_false (h2 t x a b))
theorem posE_le (T : List En) (key : List UInt8) : posE T key ≤ T.length := List.countP_le_length
/-- in entries by rising keys: what is ahead of the place, and what is not -/
theorem posE_split {T : List En} (h : sortE T) (key : List UInt8) : (∀ t x, t < posE T key → T[t]? = some x → x.k < key) ∧ ∀ t x, posE T key ≤ t → T[t]? = some x → ¬ x.k < key := by
  induction T with
  | nil => exact ⟨fun t x _ h => by simp at h, fun t x _ h => by simp at h⟩
  | cons a r ih =>
    obtain ⟨p1, p2⟩ := List.pairwise_cons.1 h
    have ih := ih p2
    by_cases ha : a.k < key
    · have e : posE (a :: r) key = posE r key + 1 := List.countP_cons_of_pos (decide_eq_true ha)
      rw [e]
      refine ⟨fun t x ht hx => ?_, fun t x ht hx => ?_⟩
      · cases t with
        | zero => obtain rfl : a = x := by simpa using hx
                  exact ha
        | succ t => exact ih.1 t x (by omega) (by simpa using hx)
      · cases t with
        | zero => omega
        | succ t => exact ih.2 t x (by omega) (by simpa using hx)
    · have hall : ∀ x ∈ a :: r, ¬ x.k < key := fun x hx hlt => by
        rcases List.mem_cons.1 hx with rfl | hx
        · exact ha hlt
        · exact ha (key_tr (p1 x hx) hlt)
      have e : posE (a :: r) key = 0 := by
        unfold posE
        rw [List.countP_eq_zero]
        intro x hx
        simpa using hall x hx
      rw [e]
      exact ⟨fun t x ht => by omega, fun t x _ hx => hall x (List.mem_of_getElem? hx)⟩
theorem hasE_mem {T : List En} (h : sortE T) (key : List UInt8) : hasE T key = true ↔ ∃ e ∈ T, e.k = key := by
  obtain ⟨h1, h2⟩ := posE_split h key
  unfold hasE
  constructor
  · intro hh
    cases e : T[posE T key]? with
    | none => rw [e] at hh; cases hh
    | some x => rw [e] at hh; exact ⟨x, List.mem_of_getElem? e, by simpa using hh⟩
  · rintro ⟨x, hx, rfl⟩
    obtain ⟨i, hi, rfl⟩ := List.mem_iff_getElem.1 hx
    have hp : posE T T[i].k = i := by
      refine posE_of (by omega) (fun t y ht hy => ?_) (fun t y ht hy hlt => ?_)
      · obtain ⟨h3, rfl⟩ := List.getElem?_eq_some_iff.1 hy
        exact List.pairwise_iff_getElem.1 h t i h3 hi ht
      · obtain ⟨h3, rfl⟩ := List.getElem?_eq_some_iff.1 hy
        rcases Nat.eq_or_lt_of_le ht with rfl | ht
        · exact key_ir _ hlt
        · exact key_ir _ (key_tr hlt (List.pairwise_iff_getElem.1 h i t hi h3 ht))
    rw [hp, List.getElem?_eq_getElem hi]
    simp
theorem putE_mem {T : List En} {x y : En} : y ∈ putE T x ↔ y = x ∨ y ∈ T := by
  unfold putE
  rw [List.mem_append, List.mem_cons]
  constructor
  · rintro (h | h | h)
    · exact .inr (List.mem_of_mem_take h)
    · exact .inl h
    · exact .inr (List.mem_of_mem_drop h)
  · rintro (h | h)
    · exact .inr (.inl h)
    · have := List.take_append_drop (posE T x.k) T
      rw [← this, List.mem_append] at h
      rcases h with h | h
      · exact .inl h
      · exact .inr (.inr h)
theorem putE_len (T : List En) (x : En) : (putE T x).length = T.length + 1 := by
  have := posE_le T x.k
  unfold putE
  simp
  omega
theorem putE_sort {T : List En} (h : sortE T) {x : En} (hn : hasE T x.k = false) : sortE (putE T x) := by
  obtain ⟨h1, h2⟩ := posE_split h x.k
  have hno : ∀ e ∈ T, e.k ≠ x.k := fun e he hk => by
    have := (hasE_mem h x.k).2 ⟨e, he, hk⟩
    rw [hn] at this; cases this
  unfold putE sortE
  rw [List.pairwise_append, List.pairwise_cons]
  refine ⟨h.sublist (List.take_sublist _ _), ⟨fun y hy => ?_, h.sublist (List.drop_sublist _ _)⟩, fun a ha b hb => ?_⟩
  · obtain ⟨j, hj, rfl⟩ := List.mem_iff_getElem.1 hy
    rw [List.getElem_drop]
    rw [List.length_drop] at hj
    have := h2 (posE T x.k + j) _ (by omega) (List.getElem?_eq_getElem (by omega))
    have hne := hno _ (List.getElem_mem (show posE T x.k + j < T.length by omega))
    rcases List.le_iff_lt_or_eq.1 (List.not_lt.1 this) with h | h
    · exact h
    · exact absurd h.symm hne
  · have ha2 : a.k < x.k := by
      obtain ⟨i, hi, rfl⟩ := List.mem_iff_getElem.1 ha
      rw [List.length_take] at hi
      rw [List.getElem_take]
      exact h1 i _ (by omega) (List.getElem?_eq_getElem (by omega))
    rcases List.mem_cons.1 hb with rfl | hb
    · exact ha2
    · obtain ⟨j, hj, rfl⟩ := List.mem_iff_getElem.1 hb
      rw [List.getElem_drop]
      rw [List.length_drop] at hj
      have := h2 (posE T x.k + j) _ (by omega) (List.getElem?_eq_getElem (by omega))
      rcases List.le_iff_lt_or_eq.1 (List.not_lt.1 this) with h | h
      · exact key_tr ha2 h
      · rw [← h]; exact ha2
/-- two of the same entries, by rising keys, are one -/
theorem sortE_same : ∀ {T U : List En}, sortE T → sortE U → (∀ x, x ∈ T ↔ x ∈ U) → T = U
  | [], [], _, _, _ => rfl
  | [], b :: u, _, _, h => by have := (h b).2 (by simp); cases this
  | a :: t, [], _, _, h => by have := (h a).1 (by simp); cases this
  | a :: t, b :: u, h1, h2, h => by
    obtain ⟨p1, p2⟩ := List.pairwise_cons.1 h1
    obtain ⟨q1, q2⟩ := List.pairwise_cons.1 h2
    have hab : a = b := by
      rcases List.mem_cons.1 ((h a).1 (by simp)) with e | hx
      · exact e
      rcases List.mem_cons.1 ((h b).2 (by simp)) with e | hy
      · exact e.symm
      exact absurd (key_tr (q1 a hx) (p1 b hy)) (key_ir _)
    subst hab
    congr 1
    refine sortE_same p2 q2 fun x => ⟨fun hx => ?_, fun hx => ?_⟩
    · rcases List.mem_cons.1 ((h x).1 (by simp [hx])) with rfl | hx2
      · exact absurd (p1 x hx) (key_ir _)
      · exact hx2
    · rcases List.mem_cons.1 ((h x).2 (by simp [hx])) with rfl | hx2
      · exact absurd (q1 x hx) (key_ir _)
      · exact hx2
end Go.Proofs.YtlknclkkhincfaaDoor
