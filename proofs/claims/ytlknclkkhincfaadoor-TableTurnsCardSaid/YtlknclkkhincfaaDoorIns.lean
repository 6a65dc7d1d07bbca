/-
  One element more amid a slice of structs of sz cells: in place, or in a new block; over any program. No condition.
-/
import Derived.Test.YtlknclkkhincfaaDoorFlat
import Derived.Test.YtlknclkkhincfaaDoorCopyX
import Derived.Lib.AppendZerosOnto
namespace Go.Proofs.YtlknclkkhincfaaDoor
open Go.RowKit
set_option linter.unusedVariables false
section
variable {sz : Nat} {w : World} {own : Option Nat} {xs vs : List Value}
theorem isSome_sets (b : Nat) (vs : List Value) (o : Nat) (w : World) (h : ∀ j, j < vs.length → (w.cell? ⟨b, o + j, none⟩).isSome = true) (k : Nat) (hk : (w.cell? ⟨b, k, none⟩).isSome = true) : ((w.setCells b o vs).cell? ⟨b, k, none⟩).isSome = true := by
  by_cases hin : o ≤ k ∧ k < o + vs.length
  · have := World.cell?_setCells_in b vs o w h (k - o) (by omega)
    rw [show o + (k - o) = k by omega] at this
    rw [this]; rfl
  · rw [World.cell?_setCells_out b vs o w ⟨b, k, none⟩ (fun _ _ => by show k < o ∨ o + vs.length ≤ k; omega)]
    exact hk
/-- cells from o on, behind a store of many -/
theorem sets_at (b : Nat) (vs : List Value) (o : Nat) (w : World) (h : ∀ j, j < vs.length → (w.cell? ⟨b, o + j, none⟩).isSome = true) (k : Nat) :
    (w.setCells b o vs).cell? ⟨b, k, none⟩ = if o ≤ k ∧ k < o + vs.length then vs[k - o]? else w.cell? ⟨b, k, none⟩ := by
  split
  · rename_i hin
    have := World.cell?_setCells_in b vs o w h (k - o) (by omega)
    rw [show o + (k - o) = k by omega] at this
    rw [this, List.getElem?_eq_getElem (by omega)]
  · rename_i hin
    exact World.cell?_setCells_out b vs o w ⟨b, k, none⟩ (fun _ _ => by show k < o ∨ o + vs.length ≤ k; omega)
/-- in place: what stands from element i on is one further, then the new one is laid -/
theorem OwnX.shift {g off n c : Nat} (h : OwnX sz w own (.slice (some ⟨g, off, none⟩) n c) xs) (hsz : 0 < sz) (hroom : n + 1 ≤ c) (i : Nat) (hi : i ≤ n) (hv : vs.length = sz) :
    OwnX sz ((w.setCells g (off + (i + 1) * sz) (xs.drop (i * sz))).setCells g (off + i * sz) vs) own (.slice (some ⟨g, off, none⟩) (n + 1) c) (xs.take (i * sz) ++ vs ++ xs.drop (i * sz)) ∧
      w.grownBy ((w.setCells g (off + (i + 1) * sz) (xs.drop (i * sz))).setCells g (off + i * sz) vs) own := by
  obtain ⟨h0, h1, h2⟩ := h.form
  obtain ⟨g', off', ho, e, hlt, hcl, hf⟩ := h.at_ (by omega)
  injection e with e
  injection e with e1 e2
  subst e1 e2
  have m1 : i * sz ≤ n * sz := Nat.mul_le_mul_right _ hi
  have m2 : (n + 1) * sz ≤ c * sz := Nat.mul_le_mul_right _ hroom
  have m3 : (n + 1) * sz = n * sz + sz := by rw [Nat.succ_mul]
  have m4 : (i + 1) * sz = i * sz + sz := by rw [Nat.succ_mul]
  have hdl : (xs.drop (i * sz)).length = n * sz - i * sz := by rw [List.length_drop, h0]
  have s1 : ∀ j, j < (xs.drop (i * sz)).length → (w.cell? ⟨g, off + (i + 1) * sz + j, none⟩).isSome = true := fun j hj => by
    rw [Nat.add_assoc]; exact (hf ((i + 1) * sz + j) (by omega)).1
  have s2 : ∀ j, j < vs.length → ((w.setCells g (off + (i + 1) * sz) (xs.drop (i * sz))).cell? ⟨g, off + i * sz + j, none⟩).isSome = true := fun j hj =>
    isSome_sets g _ _ w s1 _ (by rw [Nat.add_assoc]; exact (hf (i * sz + j) (by omega)).1)
  have k1 := keptBlk_setCells g (xs.drop (i * sz)) (off + (i + 1) * sz) w
  have k2 := keptBlk_setCells g vs (off + i * sz) (w.setCells g (off + (i + 1) * sz) (xs.drop (i * sz)))
  have hG : w.grownBy ((w.setCells g (off + (i + 1) * sz) (xs.drop (i * sz))).setCells g (off + i * sz) vs) (some g) :=
    ⟨k2.os.trans k1.os, k2.tape.trans k1.tape, k2.output.trans k1.output, Nat.le_trans k1.size k2.size, fun j hj hne => (k2.block j (Nat.lt_of_lt_of_le hj k1.size) hne).trans (k1.block j hj hne)⟩
  refine ⟨⟨_, n + 1, c, rfl, ?_, hroom, h2, .inr ⟨g, off, ho, rfl, Nat.lt_of_lt_of_le hlt hG.size, fun j hj => ?_, fun j hj => ⟨?_, ?_⟩⟩⟩, by rw [ho]; exact hG⟩
  · rw [List.length_append, List.length_append, List.length_take, List.length_drop, h0, hv]; omega
  · rw [List.length_append, List.length_append, List.length_take, List.length_drop, h0, hv] at hj
    rw [sets_at g vs _ _ s2, sets_at g _ _ w s1]
    have lt1 : (xs.take (i * sz)).length = i * sz := by rw [List.length_take]; omega
    rcases Nat.lt_or_ge j (i * sz) with hj1 | hj1
    · rw [if_neg (by omega), if_neg (by omega), hcl j (by omega), List.append_assoc, List.getElem?_append_left (by omega), List.getElem?_take_of_lt hj1]
    · rcases Nat.lt_or_ge j (i * sz + sz) with hj2 | hj2
      · rw [if_pos (by omega), List.append_assoc, List.getElem?_append_right (by omega), List.getElem?_append_left (by omega)]
        congr 1
        omega
      · rw [if_neg (by omega), if_pos (by omega), List.append_assoc, List.getElem?_append_right (by omega), List.getElem?_append_right (by omega)]
        congr 1
        omega
  · exact isSome_sets g _ _ _ s2 _ (isSome_sets g _ _ w s1 _ (hf j hj).1)
  · rw [World.frozen?_setCells, World.frozen?_setCells]; exact (hf j hj).2
/-- in a new block, filled up -/
theorem OwnX.fill {N n c i : Nat} (hN : N < w.heap.size) (hx : xs.length = n * sz) (hi : i ≤ n) (hc : n + 1 ≤ c) (hm : c ≤ maxLen) (hv : vs.length = sz) (h0 : ∀ j, j < i * sz → w.cell? ⟨N, j, none⟩ = xs[j]?) (hs : ∀ j, j < c * sz → (w.cell? ⟨N, j, none⟩).isSome = true ∧ w.frozen? ⟨N, j, none⟩ = false) :
    OwnX sz ((w.setCells N (i * sz) vs).setCells N ((i + 1) * sz) (xs.drop (i * sz))) (some N) (.slice (some ⟨N, 0, none⟩) (n + 1) c) (xs.take (i * sz) ++ vs ++ xs.drop (i * sz)) ∧
      w.grownBy ((w.setCells N (i * sz) vs).setCells N ((i + 1) * sz) (xs.drop (i * sz))) (some N) := by
  have m1 : i * sz ≤ n * sz := Nat.mul_le_mul_right _ hi
  have m2 : (n + 1) * sz ≤ c * sz := Nat.mul_le_mul_right _ hc
  have m3 : (n + 1) * sz = n * sz + sz := by rw [Nat.succ_mul]
  have m4 : (i + 1) * sz = i * sz + sz := by rw [Nat.succ_mul]
  have hdl : (xs.drop (i * sz)).length = n * sz - i * sz := by rw [List.length_drop, hx]
  have s1 : ∀ j, j < vs.length → (w.cell? ⟨N, i * sz + j, none⟩).isSome = true := fun j hj => (hs _ (by omega)).1
  have s2 : ∀ j, j < (xs.drop (i * sz)).length → ((w.setCells N (i * sz) vs).cell? ⟨N, (i + 1) * sz + j, none⟩).isSome = true := fun j hj =>
    isSome_sets N _ _ w s1 _ (hs _ (by omega)).1
  have k1 := keptBlk_setCells N vs (i * sz) w
  have k2 := keptBlk_setCells N (xs.drop (i * sz)) ((i + 1) * sz) (w.setCells N (i * sz) vs)
  have hG : w.grownBy ((w.setCells N (i * sz) vs).setCells N ((i + 1) * sz) (xs.drop (i * sz))) (some N) :=
    ⟨k2.os.trans k1.os, k2.tape.trans k1.tape, k2.output.trans k1.output, Nat.le_trans k1.size k2.size, fun j hj hne => (k2.block j (Nat.lt_of_lt_of_le hj k1.size) hne).trans (k1.block j hj hne)⟩
  refine ⟨⟨_, n + 1, c, rfl, ?_, hc, hm, .inr ⟨N, 0, rfl, rfl, Nat.lt_of_lt_of_le hN hG.size, fun j hj => ?_, fun j hj => ⟨?_, ?_⟩⟩⟩, hG⟩
  · rw [List.length_append, List.length_append, List.length_take, List.length_drop, hx, hv]; omega
  · rw [List.length_append, List.length_append, List.length_take, List.length_drop, hx, hv] at hj
    rw [Nat.zero_add, sets_at N _ _ _ s2, sets_at N _ _ w s1]
    have lt1 : (xs.take (i * sz)).length = i * sz := by rw [List.length_take]; omega
    rcases Nat.lt_or_ge j (i * sz) with hj1 | hj1
    · rw [if_neg (by omega), if_neg (by omega), h0 j hj1, List.append_assoc, List.getElem?_append_left (by omega), List.getElem?_take_of_lt hj1]
    · rcases Nat.lt_or_ge j (i * sz + sz) with hj2 | hj2
      · rw [if_neg (by omega), if_pos (by omega), List.append_assoc, List.getElem?_append_right (by omega), List.getElem?_append_left (by omega)]
        congr 1
        omega
      · rw [if_pos (by omega), List.append_assoc, List.getElem?_append_right (by omega), List.getElem?_append_right (by omega)]
        congr 1
        omega
  · rw [Nat.zero_add]
    exact isSome_sets N _ _ _ s2 _ (isSome_sets N _ _ w s1 _ (hs j hj).1)
  · rw [Nat.zero_add, World.frozen?_setCells, World.frozen?_setCells]; exact (hs j hj).2
/-- a slice that has cells: its block's shape -/
theorem shape_of {g k : Nat} {u : Value} (h : w.cell? ⟨g, k, none⟩ = some u) : ∃ t m, w.shape? g = some (t, m) ∧ m ≠ 0 := by
  unfold World.cell? at h
  unfold World.shape?
  split at h
  · rename_i cs t fz hh
    refine ⟨t, cs.size, ?_, ?_⟩
    · have hh' : w.heap[g]? = some (.cells cs t fz) := hh
      rw [hh']
    · intro e
      simp at h
      have : cs = #[] := Array.eq_empty_of_size_eq_zero e
      subst this
      simp at h
  · cases h
end
end Go.Proofs.YtlknclkkhincfaaDoor
