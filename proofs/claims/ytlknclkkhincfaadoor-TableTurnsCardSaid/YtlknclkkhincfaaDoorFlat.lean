/-
  A slice of structs of sz cells, as a row of rows; over any program. No condition.
-/
import Derived.Test.YtlknclkkhincfaaDoorTurn
namespace Go.Proofs.YtlknclkkhincfaaDoor
open Go.RowKit
set_option linter.unusedVariables false
theorem flat_len {α : Type} {sz : Nat} : ∀ {R : List (List α)}, (∀ r ∈ R, r.length = sz) → R.flatten.length = R.length * sz
  | [], _ => by simp
  | r :: R, h => by
    rw [List.flatten_cons, List.length_append, h r (by simp), flat_len (fun x hx => h x (by simp [hx])), List.length_cons, Nat.succ_mul, Nat.add_comm]
theorem flat_at {α : Type} {sz : Nat} : ∀ {R : List (List α)} (i j : Nat) (r : List α), (∀ r ∈ R, r.length = sz) → j < sz → R[i]? = some r → R.flatten[i * sz + j]? = r[j]?
  | [], i, j, r, _, _, h => by simp at h
  | x :: R, 0, j, r, h, hj, hr => by
    obtain rfl : x = r := by simpa using hr
    rw [List.flatten_cons, Nat.zero_mul, Nat.zero_add, List.getElem?_append_left (by rw [h x (by simp)]; exact hj)]
  | x :: R, i + 1, j, r, h, hj, hr => by
    have hx := h x (by simp)
    rw [List.flatten_cons, List.getElem?_append_right (by rw [hx, Nat.succ_mul]; omega), hx, show (i + 1) * sz + j - sz = i * sz + j by rw [Nat.succ_mul]; omega]
    exact flat_at i j r (fun y hy => h y (by simp [hy])) hj (by simpa using hr)
theorem flat_set {α : Type} {sz : Nat} : ∀ {R : List (List α)} (i j : Nat) (r : List α) (u : α), (∀ r ∈ R, r.length = sz) → j < sz → R[i]? = some r → R.flatten.set (i * sz + j) u = (R.set i (r.set j u)).flatten
  | [], i, j, r, u, _, _, h => by simp at h
  | x :: R, 0, j, r, u, h, hj, hr => by
    obtain rfl : x = r := by simpa using hr
    rw [List.flatten_cons, Nat.zero_mul, Nat.zero_add, List.set_cons_zero, List.flatten_cons, List.set_append_left _ _ (by rw [h x (by simp)]; exact hj)]
  | x :: R, i + 1, j, r, u, h, hj, hr => by
    have hx := h x (by simp)
    rw [List.flatten_cons, List.set_cons_succ, List.flatten_cons, List.set_append_right _ _ (by rw [hx, Nat.succ_mul]; omega), hx, show (i + 1) * sz + j - sz = i * sz + j by rw [Nat.succ_mul]; omega]
    rw [flat_set i j r u (fun y hy => h y (by simp [hy])) hj (by simpa using hr)]
theorem flat_take {α : Type} {sz : Nat} : ∀ {R : List (List α)} (i : Nat), (∀ r ∈ R, r.length = sz) → R.flatten.take (i * sz) = (R.take i).flatten
  | [], i, _ => by simp
  | x :: R, 0, _ => by simp
  | x :: R, i + 1, h => by
    have hx := h x (by simp)
    rw [List.flatten_cons, List.take_succ_cons, List.flatten_cons, List.take_append, hx, List.take_of_length_le (by rw [hx, Nat.succ_mul]; omega), show (i + 1) * sz - sz = i * sz by rw [Nat.succ_mul]; omega, flat_take i (fun y hy => h y (by simp [hy]))]
theorem flat_drop {α : Type} {sz : Nat} : ∀ {R : List (List α)} (i : Nat), (∀ r ∈ R, r.length = sz) → R.flatten.drop (i * sz) = (R.drop i).flatten
  | [], i, _ => by simp
  | x :: R, 0, _ => by simp
  | x :: R, i + 1, h => by
    have hx := h x (by simp)
    rw [List.flatten_cons, List.drop_succ_cons, List.drop_append, hx, List.drop_of_length_le (by rw [hx, Nat.succ_mul]; omega), show (i + 1) * sz - sz = i * sz by rw [Nat.succ_mul]; omega, flat_drop i (fun y hy => h y (by simp [hy])), List.nil_append]
/-- the cells of element i -/
theorem OwnX.elem {sz : Nat} {w : World} {own : Option Nat} {A : Option Addr} {n c : Nat} {R : List (List Value)} (h : OwnX sz w own (.slice A n c) R.flatten) (hsz : 0 < sz) (hR : ∀ r ∈ R, r.length = sz) {i : Nat} {r : List Value} (hr : R[i]? = some r) :
    n = R.length ∧ n ≤ c ∧ c ≤ maxLen ∧ i < n ∧ ∃ g off, own = some g ∧ A = some ⟨g, off, none⟩ ∧ g < w.heap.size ∧ ∀ j, j < sz → w.cell? ⟨g, off + i * sz + j, none⟩ = r[j]? ∧ w.frozen? ⟨g, off + i * sz + j, none⟩ = false := by
  obtain ⟨h0, h1, h2⟩ := h.form
  rw [flat_len hR] at h0
  have hn : n = R.length := (Nat.eq_of_mul_eq_mul_right hsz h0).symm
  have hi : i < R.length := (List.getElem?_eq_some_iff.1 hr).1
  obtain ⟨g, off, ho, rfl, hlt, hcl, hf⟩ := h.at_ (by omega)
  refine ⟨hn, h1, h2, by omega, g, off, ho, rfl, hlt, fun j hj => ?_⟩
  have hij : i * sz + j < R.length * sz := by
    have : (i + 1) * sz ≤ R.length * sz := Nat.mul_le_mul_right _ hi
    rw [Nat.succ_mul] at this
    omega
  have hc : R.length * sz ≤ c * sz := Nat.mul_le_mul_right _ (by omega)
  refine ⟨?_, ?_⟩
  · rw [Nat.add_assoc, hcl (i * sz + j) (by rw [flat_len hR]; exact hij), flat_at i j r hR hj hr]
  · rw [Nat.add_assoc]
    exact (hf (i * sz + j) (by omega)).2
theorem OwnX.count {sz : Nat} {w : World} {own : Option Nat} {A : Option Addr} {n c : Nat} {R : List (List Value)} (h : OwnX sz w own (.slice A n c) R.flatten) (hsz : 0 < sz) (hR : ∀ r ∈ R, r.length = sz) : n = R.length ∧ n ≤ c ∧ c ≤ maxLen := by
  obtain ⟨h0, h1, h2⟩ := h.form
  rw [flat_len hR] at h0
  exact ⟨(Nat.eq_of_mul_eq_mul_right hsz h0).symm, h1, h2⟩
/-- a store into a cell of element i -/
theorem OwnX.put_ {sz : Nat} {w : World} {own : Option Nat} {g off n c : Nat} {R : List (List Value)} (h : OwnX sz w own (.slice (some ⟨g, off, none⟩) n c) R.flatten) (hsz : 0 < sz) (hR : ∀ r ∈ R, r.length = sz) {i : Nat} {r : List Value} (hr : R[i]? = some r) {j : Nat} (hj : j < sz) (u : Value) :
    OwnX sz (w.setCell ⟨g, off + i * sz + j, none⟩ u) own (.slice (some ⟨g, off, none⟩) n c) (R.set i (r.set j u)).flatten := by
  obtain ⟨h0, h1, h2, hi, -⟩ := h.elem hsz hR hr
  have hij : i * sz + j < R.flatten.length := by
    have : (i + 1) * sz ≤ R.length * sz := Nat.mul_le_mul_right _ (by omega)
    rw [Nat.succ_mul] at this
    rw [flat_len hR]
    omega
  have := h.set_ (by omega) (i * sz + j) hij u
  rw [flat_set i j r u hR hj hr, ← Nat.add_assoc] at this
  exact this
theorem set_all {α : Type} {sz : Nat} {R : List (List α)} (h : ∀ r ∈ R, r.length = sz) {i : Nat} {r : List α} (hr : r.length = sz) : ∀ x ∈ R.set i r, x.length = sz := fun x hx => by
  rcases List.mem_or_eq_of_mem_set hx with hx | rfl
  · exact h x hx
  · exact hr
end Go.Proofs.YtlknclkkhincfaaDoor
