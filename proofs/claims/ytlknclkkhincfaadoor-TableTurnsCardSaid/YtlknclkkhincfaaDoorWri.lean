/-
  A slice of bytes in a block of the call's own that may be written; over any program. No condition.
-/
import Derived.Test.YtlknclkkhincfaaDoorApp2
namespace Go.Proofs.YtlknclkkhincfaaDoor
open Go.RowKit
set_option linter.unusedVariables false
/-- v reads as l, in a block from base on whose bytes may be written -/
def OwnW (w : World) (base : Nat) (v : Value) (l : List UInt8) : Prop :=
  ∃ A c, v = .slice A l.length c ∧ l.length ≤ c ∧ c ≤ maxLen ∧ (l = [] ∨ ∃ g, A = some ⟨g, 0, none⟩ ∧ base ≤ g ∧ g < w.heap.size ∧ ∀ i, i < l.length → w.cell? ⟨g, i, none⟩ = some (.int .u8 (bt l i)) ∧ w.frozen? ⟨g, i, none⟩ = false)
section
variable {w w' : World} {base base' : Nat} {v : Value} {l : List UInt8}
theorem OwnW.out (h : OwnW w base v l) : Out w v l := by
  obtain ⟨A, c, rfl, h1, h2, h3⟩ := h
  refine ⟨A, c, rfl, h1, h2, ?_⟩
  rcases h3 with h3 | ⟨g, rfl, _, hg, hc⟩
  · exact .inl h3
  · exact .inr ⟨g, 0, rfl, hg, fun i hi => by rw [Nat.zero_add]; exact (hc i hi).1⟩
theorem OwnW.blocks (h : OwnW w base v l) (hs : w.heap.size ≤ w'.heap.size) (hk : ∀ g, v.ownBlock = some g → w'.heap[g]? = w.heap[g]?) : OwnW w' base v l := by
  obtain ⟨A, c, rfl, h1, h2, h3⟩ := h
  refine ⟨A, c, rfl, h1, h2, ?_⟩
  rcases h3 with h3 | ⟨g, rfl, hb, hg, hc⟩
  · exact .inl h3
  · have e := hk g rfl
    refine .inr ⟨g, rfl, hb, by omega, fun i hi => ?_⟩
    have := hc i hi
    simp only [World.cell?, World.frozen?] at this ⊢
    rw [e]
    exact this
theorem OwnW.lt (h : OwnW w base v l) (hl : 0 < l.length) : ∃ g c, v = .slice (some ⟨g, 0, none⟩) l.length c ∧ l.length ≤ c ∧ c ≤ maxLen ∧ base ≤ g ∧ g < w.heap.size ∧ ∀ i, i < l.length → w.cell? ⟨g, i, none⟩ = some (.int .u8 (bt l i)) ∧ w.frozen? ⟨g, i, none⟩ = false := by
  obtain ⟨A, c, rfl, h1, h2, h3⟩ := h
  rcases h3 with h3 | ⟨g, rfl, hb, hg, hc⟩
  · subst h3; simp at hl
  · exact ⟨g, c, rfl, h1, h2, hb, hg, hc⟩
theorem OwnW.nilv (h : OwnW w base v []) (w' : World) (base' : Nat) : OwnW w' base' v [] := by
  obtain ⟨A, c, rfl, h1, h2, h3⟩ := h
  exact ⟨A, c, rfl, h1, h2, .inl rfl⟩
theorem OwnW.mono (h : OwnW w base v l) (hb : base' ≤ base) : OwnW w base' v l := by
  obtain ⟨A, c, rfl, h1, h2, h3⟩ := h
  refine ⟨A, c, rfl, h1, h2, ?_⟩
  rcases h3 with h3 | ⟨g, rfl, hb', hg, hc⟩
  · exact .inl h3
  · exact .inr ⟨g, rfl, by omega, hg, hc⟩
theorem OwnW.below (h : OwnW w base v l) (hb : Below w.heap.size w w') : OwnW w' base v l := by
  obtain ⟨A, c, rfl, h1, h2, h3⟩ := h
  refine ⟨A, c, rfl, h1, h2, ?_⟩
  rcases h3 with h3 | ⟨g, rfl, hb', hg, hc⟩
  · exact .inl h3
  · refine .inr ⟨g, rfl, hb', Nat.lt_of_lt_of_le hg hb.size, fun i hi => ?_⟩
    have := hc i hi
    simp only [World.cell?, World.frozen?] at this ⊢
    rw [hb.block g hg]
    exact this
/-- another block alone is written -/
theorem OwnW.only {k : Nat} (h : OwnW w base v l) (ho : Only k w w') (hk : k < base) : OwnW w' base v l := by
  obtain ⟨A, c, rfl, h1, h2, h3⟩ := h
  refine ⟨A, c, rfl, h1, h2, ?_⟩
  rcases h3 with h3 | ⟨g, rfl, hb', hg, hc⟩
  · exact .inl h3
  · refine .inr ⟨g, rfl, hb', Nat.lt_of_lt_of_le hg ho.size, fun i hi => ?_⟩
    have := hc i hi
    simp only [World.cell?, World.frozen?] at this ⊢
    rw [ho.block g hg (fun e => by injection e; omega)]
    exact this
theorem OwnW.far (h : OwnW w base v l) {p : Addr} (hp : p.block < base) (u : Value) : OwnW (w.setCell p u) base v l :=
  h.only (k := p.block) ⟨rfl, rfl, rfl, by simp, fun i hi hne => Below.heap_setCell w p u i (fun e => hne (by rw [e]))⟩ hp
theorem OwnW.of_own {E : Nat} (h : OwnB w base E v l) : OwnW w base v l := by
  rcases Nat.eq_zero_or_pos l.length with h0 | h0
  · obtain rfl := List.eq_nil_of_length_eq_zero h0
    obtain ⟨A, c, rfl, h1, h2, _⟩ := h.out
    exact ⟨A, c, rfl, h1, h2, .inl rfl⟩
  · obtain ⟨g, c, rfl, h1, h2, h3, h4⟩ := h.form h0
    exact ⟨_, c, rfl, h3, h4, .inr ⟨g, rfl, h1, h2, fun i hi => ⟨h.cell hi, h.free i⟩⟩⟩
end
theorem OwnW.conv (w : World) (e : TypeId) (s : ByteArray) (base : Nat) (hs : s.size ≤ maxLen) (hb : base ≤ w.heap.size) :
    OwnW (Lib.bytesWorld w e s) base (.slice (some ⟨w.heap.size, 0, none⟩) s.size (grownCap w s.size 0 e)) s.data.toList := by
  refine ⟨_, _, rfl, grownCap_ge w _ _ _, grownCap_le_maxLen w _ _ _ hs, .inr ⟨w.heap.size, rfl, hb, by rw [Lib.bytesWorld_size]; omega, fun i hi => ?_⟩⟩
  have hc := Lib.bytesWorld_cell w e s i (by rw [size_len]; exact hi)
  refine ⟨hc, ?_⟩
  have hn := Lib.bytesWorld_at_new w e s
  simp only [World.cell?, World.frozen?] at hc ⊢
  rw [hn] at hc ⊢
  simp only [Option.isSome_none, Bool.false_eq_true, if_false] at hc
  have := (Array.getElem?_eq_some_iff.1 hc).1
  simp
  omega
end Go.Proofs.YtlknclkkhincfaaDoor
