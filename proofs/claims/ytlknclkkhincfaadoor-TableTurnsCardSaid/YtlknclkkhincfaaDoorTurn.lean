/-
  Whose a block is: blocks of other marks stay; rows of strings anywhere in a block; over any program. No condition.
-/
import Derived.Test.YtlknclkkhincfaaDoorRowX
namespace Go.Proofs.YtlknclkkhincfaaDoor
open Go.RowKit
set_option linter.unusedVariables false
/-- the blocks whose mark is not among cl are as they were, and so are their marks -/
structure Turn (cl : Nat × Nat → Prop) (w w' : World) (own own' : Nat → Nat × Nat) : Prop where
  os : w'.os = w.os
  tape : w'.tape = w.tape
  output : w'.output = w.output
  size : w.heap.size ≤ w'.heap.size
  block : ∀ k, k < w.heap.size → ¬ cl (own k) → w'.heap[k]? = w.heap[k]?
  mark : ∀ k, k < w.heap.size → ¬ cl (own k) → own' k = own k
section
variable {cl : Nat × Nat → Prop} {w w' w'' : World} {own own' own'' : Nat → Nat × Nat}
theorem Turn.refl (cl : Nat × Nat → Prop) (w : World) (own : Nat → Nat × Nat) : Turn cl w w own own := ⟨rfl, rfl, rfl, Nat.le_refl _, fun _ _ _ => rfl, fun _ _ _ => rfl⟩
theorem Turn.trans (h : Turn cl w w' own own') (h' : Turn cl w' w'' own' own'') : Turn cl w w'' own own'' :=
  ⟨h'.os.trans h.os, h'.tape.trans h.tape, h'.output.trans h.output, Nat.le_trans h.size h'.size,
    fun k hk hc => (h'.block k (Nat.lt_of_lt_of_le hk h.size) (by rw [h.mark k hk hc]; exact hc)).trans (h.block k hk hc),
    fun k hk hc => (h'.mark k (Nat.lt_of_lt_of_le hk h.size) (by rw [h.mark k hk hc]; exact hc)).trans (h.mark k hk hc)⟩
theorem Turn.mono {cl' : Nat × Nat → Prop} (h : Turn cl w w' own own') (hc : ∀ t, cl t → cl' t) : Turn cl' w w' own own' :=
  ⟨h.os, h.tape, h.output, h.size, fun k hk hn => h.block k hk fun hx => hn (hc _ hx), fun k hk hn => h.mark k hk fun hx => hn (hc _ hx)⟩
/-- new blocks alone -/
theorem Turn.of_below (h : Below w.heap.size w w') (hm : ∀ k, k < w.heap.size → own' k = own k) : Turn cl w w' own own' :=
  ⟨h.os, h.tape, h.output, h.size, fun k hk _ => h.block k hk, fun k hk _ => hm k hk⟩
/-- what is nobody's stays -/
theorem Turn.below (h : Turn cl w w' own own') {B : Nat} (hB : B ≤ w.heap.size) (hz : ∀ k, k < B → own k = (0, 0)) (hc : ¬ cl (0, 0)) : Below B w w' :=
  ⟨h.os, h.tape, h.output, h.size, fun k hk => h.block k (Nat.lt_of_lt_of_le hk hB) (by rw [hz k hk]; exact hc)⟩
theorem Turn.zero (h : Turn cl w w' own own') {B : Nat} (hB : B ≤ w.heap.size) (hz : ∀ k, k < B → own k = (0, 0)) (hc : ¬ cl (0, 0)) : ∀ k, k < B → own' k = (0, 0) := fun k hk => by
  rw [h.mark k (Nat.lt_of_lt_of_le hk hB) (by rw [hz k hk]; exact hc), hz k hk]
theorem Turn.drewN (h : Turn cl w w' own own') (n : Nat) : Turn cl w (w'.drewN n) own own' := ⟨h.os, h.tape, h.output, h.size, h.block, h.mark⟩
end
/-! ### rows of strings -/
theorem belowX {B : Nat} {w w1 w2 : World} {own : Option Nat} (hb : Below B w w1) (hg : w1.grownBy w2 own) (ho : ∀ k, own = some k → B ≤ k) (hB : B ≤ w1.heap.size) : Below B w w2 :=
  ⟨hg.os.trans hb.os, hg.tape.trans hb.tape, hg.output.trans hb.output, Nat.le_trans hb.size hg.size, fun k hk => (hg.block k (by omega) (fun e => by have := ho k e.symm; omega)).trans (hb.block k hk)⟩
theorem OwnX.rs {w : World} {own : Option Nat} {A : Option Addr} {n c : Nat} {L : List ByteArray} (h : OwnX 1 w own (.slice A n c) (L.map Value.string)) : n = L.length ∧ n ≤ c ∧ c ≤ maxLen ∧ RS w w.heap.size A L := by
  obtain ⟨e1, e2, e3⟩ := h.form
  rw [List.length_map, Nat.mul_one] at e1
  refine ⟨e1.symm, e2, e3, ?_⟩
  rcases Nat.eq_zero_or_pos L.length with h0 | h0
  · exact .inl (List.eq_nil_of_length_eq_zero h0)
  · obtain ⟨g, off, -, rfl, hlt, hc, -⟩ := h.at_ (by omega)
    refine .inr ⟨g, off, rfl, hlt, fun i hi => ?_⟩
    rw [hc i (by rw [List.length_map]; exact hi), List.getElem?_map, List.getElem?_eq_getElem hi, st_getElem hi]
    rfl
theorem map_oneS (L : List ByteArray) : ∀ u ∈ L.map Value.string, u.oneCell' = true := by
  intro u hu
  obtain ⟨s, _, rfl⟩ := List.mem_map.1 hu
  rfl
theorem RS.news {w : World} {B : Nat} {A : Option Addr} {L : List ByteArray} (h : RS w B A L) : ∀ ad, A = some ad → ∀ j u, (L.map Value.string)[j]? = some u → w.cell? (ad.add j) = some u := by
  intro ad e j u hu
  have hj : j < L.length := by have := (List.getElem?_eq_some_iff.1 hu).1; simpa using this
  obtain ⟨b, off, rfl, -, hc⟩ := h.at_ hj
  cases e
  rw [Addr.add_lit, hc j hj, ← hu, List.getElem?_map, List.getElem?_eq_getElem hj, st_getElem hj]
  rfl
theorem RS.none_ {w : World} {B : Nat} {A : Option Addr} {L : List ByteArray} (h : RS w B A L) (hA : A = none) : L = [] := by
  rcases h with h | ⟨_, _, h, _⟩
  · exact h
  · rw [hA] at h; cases h
theorem RS.take {w : World} {B : Nat} {A : Option Addr} {L : List ByteArray} (h : RS w B A L) (k : Nat) : RS w B A (L.take k) := by
  rcases h with rfl | ⟨b, off, rfl, hb, hc⟩
  · exact .inl (by simp)
  · refine .inr ⟨b, off, rfl, hb, fun i hi => ?_⟩
    rw [List.length_take] at hi
    rw [hc i (by omega)]
    unfold st
    rw [List.getD_eq_getElem?_getD, List.getD_eq_getElem?_getD, List.getElem?_take_of_lt (by omega)]
theorem RS.dropA {w : World} {B : Nat} {A : Option Addr} {L : List ByteArray} (h : RS w B A L) (c k : Nat) (hc : L.length ≤ c) : RS w B (if c = k then A else A.map fun a => a.add (k * 1)) (L.drop k) := by
  rcases h with rfl | ⟨b, off, rfl, hb, hcl⟩
  · exact .inl (by simp)
  · by_cases h1 : L.length ≤ k
    · exact .inl (List.drop_of_length_le h1)
    · rw [if_neg (by omega)]
      refine .inr ⟨b, off + k, by simp [Addr.add_lit], hb, fun i hi => ?_⟩
      rw [List.length_drop] at hi
      rw [Nat.add_assoc, hcl (k + i) (by omega)]
      unfold st
      rw [List.getD_eq_getElem?_getD, List.getD_eq_getElem?_getD, List.getElem?_drop]
theorem map_snocS (L : List ByteArray) (s : ByteArray) : L.map Value.string ++ [Value.string s] = (L ++ [s]).map Value.string := by simp
theorem one_newS (w : World) (E : TypeId) (s : ByteArray) : ∀ ad, (some (⟨w.heap.size, 0, none⟩ : Addr)) = some ad → ∀ j u, ([.string s] : List Value)[j]? = some u → (w.alloc (.cells #[.string s] E)).cell? (ad.add j) = some u := by
  intro ad e j u hu
  cases e
  have hj : j = 0 := by
    have := (List.getElem?_eq_some_iff.1 hu).1
    simpa using this
  subst hj
  simp at hu
  subst hu
  rw [Addr.add_lit]
  exact (Blk.new w E #[.string s]).cell 0
theorem res0 {fn : Func} (h : fn.results = #[]) (tm : Array Value) (P : Program) (W : World) : (results fn tm).run P W = .ok (.tuple #[]) W := by simp [results, h]
end Go.Proofs.YtlknclkkhincfaaDoor
