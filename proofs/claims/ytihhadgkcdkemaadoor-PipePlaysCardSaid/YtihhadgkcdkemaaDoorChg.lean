/-
  A world in which two blocks alone have changed, and new ones have come; what a reader of a stream holds; over any program. No condition.
-/
import Derived.Test.YtihhadgkcdkemaaDoorQue
namespace Go.Proofs.YtihhadgkcdkemaaDoor
open Go.RowKit
set_option linter.unusedVariables false
/-- only blocks p and own may have changed -/
structure Chg (p : Nat) (own : Option Nat) (w w' : World) : Prop where
  os : w'.os = w.os
  tape : w'.tape = w.tape
  output : w'.output = w.output
  size : w.heap.size ≤ w'.heap.size
  block : ∀ i, i < w.heap.size → i ≠ p → some i ≠ own → w'.heap[i]? = w.heap[i]?
section
variable {p : Nat} {own : Option Nat} {w w' w2 : World}
theorem Chg.below {base : Nat} (h : Chg p own w w') (hp : base ≤ p) (ho : ∀ g, own = some g → base ≤ g) (hb : base ≤ w.heap.size) : Below base w w' :=
  ⟨h.os, h.tape, h.output, h.size, fun k hk => h.block k (by omega) (by omega) (fun e => by have := ho k e.symm; omega)⟩
theorem Chg.of_below (h : Below w.heap.size w w') : Chg p own w w' := ⟨h.os, h.tape, h.output, h.size, fun i hi _ _ => h.block i hi⟩
theorem Chg.of_grown (h : w.grownBy w' own) : Chg p own w w' := ⟨h.os, h.tape, h.output, h.size, fun i hi _ h2 => h.block i hi h2⟩
theorem Chg.refl (w : World) : Chg p own w w := Chg.of_below (Below.refl _ _)
theorem Chg.trans {own2 : Option Nat} (h : Chg p own w w') (k : Chg p own2 w' w2) (hn : own2 = own ∨ own2 = none ∨ ∃ g, own2 = some g ∧ w.heap.size ≤ g) : Chg p own w w2 :=
  ⟨k.os.trans h.os, k.tape.trans h.tape, k.output.trans h.output, Nat.le_trans h.size k.size, fun i hi h1 h2 => (k.block i (Nat.lt_of_lt_of_le hi h.size) h1 (by
    rcases hn with rfl | rfl | ⟨g, rfl, hg⟩
    · exact h2
    · intro e; cases e
    · intro e; injection e with e; omega)).trans (h.block i hi h1 h2)⟩
theorem Chg.setCell (h : Chg p own w w') (i : Nat) (v : Value) : Chg p own w (w'.setCell ⟨p, i, none⟩ v) :=
  ⟨h.os, h.tape, h.output, by simpa using h.size, fun k hk h1 h2 => (Below.heap_setCell w' ⟨p, i, none⟩ v k h1).trans (h.block k hk h1 h2)⟩
theorem Blk.chg {g : Nat} {t : TypeId} {cs : Array Value} (h : Blk w g t cs) (hc : Chg p own w w') (h1 : g ≠ p) (h2 : own ≠ some g) : Blk w' g t cs :=
  (hc.block g h.lt h1 (fun e => h2 e.symm)).trans h
theorem OwnQ.blocks {base : Nat} {o : Option Nat} {v : Value} {l : List UInt8} (h : OwnQ w base o v l) (hs : w.heap.size ≤ w'.heap.size) (hk : ∀ g, o = some g → g < w.heap.size → w'.heap[g]? = w.heap[g]?) : OwnQ w' base o v l := by
  obtain ⟨A, c, rfl, h1, h2, h3⟩ := h
  refine ⟨A, c, rfl, h1, h2, ?_⟩
  rcases h3 with h3 | ⟨g, off, rfl, rfl, hb, hlt, hc, hf⟩
  · exact .inl h3
  · have e := hk g rfl hlt
    refine .inr ⟨g, off, rfl, rfl, hb, Nat.lt_of_lt_of_le hlt hs, fun i hi => ?_, fun i hi => ?_⟩
    · rw [← hc i hi]; exact World.cell?_of_block e
    · rw [World.cell?_of_block (w := w) e, World.frozen?_of_block (w := w) e]; exact hf i hi
theorem OwnQ.chg {base : Nat} {o : Option Nat} {v : Value} {l : List UInt8} (h : OwnQ w base o v l) (hc : Chg p own w w') (h1 : o ≠ some p) (h2 : o = none ∨ o ≠ own) : OwnQ w' base o v l :=
  h.blocks hc.size fun g hg hlt => hc.block g hlt (fun e => h1 (by rw [hg, e])) (fun e => by rcases h2 with h2 | h2; rw [h2] at hg; cases hg; exact h2 (by rw [hg, e]))
theorem OwnQ.mono_ {base base' : Nat} {o : Option Nat} {v : Value} {l : List UInt8} (h : OwnQ w base o v l) (hb : base' ≤ base) : OwnQ w base' o v l := by
  obtain ⟨A, c, rfl, h1, h2, h3⟩ := h
  refine ⟨A, c, rfl, h1, h2, ?_⟩
  rcases h3 with h3 | ⟨g, off, h4, rfl, hb', hlt, hc, hf⟩
  · exact .inl h3
  · exact .inr ⟨g, off, h4, rfl, by omega, hlt, hc, hf⟩
/-- a reader: how long its lines may be, what waits -/
def Rd (w : World) (T : TypeId) (base p : Nat) (own : Option Nat) (most : Nat) (l : List UInt8) : Prop :=
  base ≤ p ∧ own ≠ some p ∧ ∃ v, Blk w p T #[.int .i64 (most : Int), v] ∧ OwnQ w base own v l
theorem Rd.chg {T : TypeId} {base q : Nat} {o : Option Nat} {most : Nat} {l : List UInt8} (h : Rd w T base q o most l) (hc : Chg p own w w') (h0 : q ≠ p) (h1 : own ≠ some q) (h2 : o ≠ some p) (h3 : o = none ∨ o ≠ own) : Rd w' T base q o most l := by
  obtain ⟨a, b, v, hB, hO⟩ := h
  exact ⟨a, b, v, hB.chg hc h0 h1, hO.chg hc h2 h3⟩
theorem Rd.below {T : TypeId} {base q : Nat} {o : Option Nat} {most : Nat} {l : List UInt8} (h : Rd w T base q o most l) (hb : Below w.heap.size w w') : Rd w' T base q o most l := by
  obtain ⟨a, b, v, hB, hO⟩ := h
  exact ⟨a, b, v, hB.keep hb, hO.below hb⟩
theorem Rd.lt {T : TypeId} {base q : Nat} {o : Option Nat} {most : Nat} {l : List UInt8} (h : Rd w T base q o most l) : base ≤ q ∧ q < w.heap.size ∧ ∀ g, o = some g → base ≤ g ∧ g < w.heap.size := by
  obtain ⟨a, b, v, hB, hO⟩ := h
  exact ⟨a, hB.lt, fun g hg => hO.base_ hg⟩
end
/-- v reads as l, in a block from base on whose bytes may be written, wherever it begins there -/
def OwnV (w : World) (base : Nat) (v : Value) (l : List UInt8) : Prop :=
  ∃ A c, v = .slice A l.length c ∧ l.length ≤ c ∧ c ≤ maxLen ∧ (l = [] ∨ ∃ g off, A = some ⟨g, off, none⟩ ∧ base ≤ g ∧ g < w.heap.size ∧ ∀ i, i < l.length → w.cell? ⟨g, off + i, none⟩ = some (.int .u8 (bt l i)) ∧ w.frozen? ⟨g, off + i, none⟩ = false)
section
variable {w w' : World} {base base' : Nat} {v : Value} {l : List UInt8}
theorem OwnV.of_q {own : Option Nat} (h : OwnQ w base own v l) : OwnV w base v l := by
  obtain ⟨A, c, rfl, h1, h2, h3⟩ := h
  refine ⟨A, c, rfl, h1, h2, ?_⟩
  rcases h3 with ⟨h3, _⟩ | ⟨g, off, _, rfl, hb, hlt, hc, hf⟩
  · exact .inl (List.eq_nil_of_length_eq_zero (by omega))
  · exact .inr ⟨g, off, rfl, hb, hlt, fun i hi => ⟨hc i hi, (hf i (by omega)).2⟩⟩
theorem OwnV.of_w (h : OwnW w base v l) : OwnV w base v l := by
  obtain ⟨A, c, rfl, h1, h2, h3⟩ := h
  refine ⟨A, c, rfl, h1, h2, ?_⟩
  rcases h3 with h3 | ⟨g, rfl, hb, hlt, hc⟩
  · exact .inl h3
  · exact .inr ⟨g, 0, rfl, hb, hlt, fun i hi => by rw [Nat.zero_add]; exact hc i hi⟩
theorem OwnV.of_own {E : Nat} (h : OwnB w base E v l) : OwnV w base v l := OwnV.of_w (OwnW.of_own h)
theorem OwnV.out (h : OwnV w base v l) : Out w v l := by
  obtain ⟨A, c, rfl, h1, h2, h3⟩ := h
  refine ⟨A, c, rfl, h1, h2, ?_⟩
  rcases h3 with h3 | ⟨g, off, rfl, _, hg, hc⟩
  · exact .inl h3
  · exact .inr ⟨g, off, rfl, hg, fun i hi => (hc i hi).1⟩
theorem OwnV.mono (h : OwnV w base v l) (hb : base' ≤ base) : OwnV w base' v l := by
  obtain ⟨A, c, rfl, h1, h2, h3⟩ := h
  refine ⟨A, c, rfl, h1, h2, ?_⟩
  rcases h3 with h3 | ⟨g, off, rfl, hb', hg, hc⟩
  · exact .inl h3
  · exact .inr ⟨g, off, rfl, by omega, hg, hc⟩
theorem OwnV.blocks (h : OwnV w base v l) (hs : w.heap.size ≤ w'.heap.size) (hk : ∀ g, base ≤ g → g < w.heap.size → v.ownBlock = some g ∨ True → w'.heap[g]? = w.heap[g]?) : OwnV w' base v l := by
  obtain ⟨A, c, rfl, h1, h2, h3⟩ := h
  refine ⟨A, c, rfl, h1, h2, ?_⟩
  rcases h3 with h3 | ⟨g, off, rfl, hb, hg, hc⟩
  · exact .inl h3
  · have e := hk g hb hg (.inr trivial)
    refine .inr ⟨g, off, rfl, hb, Nat.lt_of_lt_of_le hg hs, fun i hi => ?_⟩
    rw [World.cell?_of_block (w := w) e, World.frozen?_of_block (w := w) e]
    exact hc i hi
theorem OwnV.below (h : OwnV w base v l) (hb : Below w.heap.size w w') : OwnV w' base v l := h.blocks hb.size fun g _ hg _ => hb.block g hg
/-- other, older blocks alone have changed -/
theorem OwnV.chg {p : Nat} {own : Option Nat} (h : OwnV w base v l) (hc : Chg p own w w') (hp : p < base) (ho : ∀ g, own = some g → g < base) : OwnV w' base v l :=
  h.blocks hc.size fun g hb hg _ => hc.block g hg (by omega) (fun e => by have := ho g e.symm; omega)
theorem OwnV.take {A : Option Addr} {n c : Nat} (h : OwnV w base (.slice A n c) l) (k : Nat) (hk : k ≤ l.length) : OwnV w base (.slice A k c) (l.take k) := by
  obtain ⟨A', c', e, h1, h2, h3⟩ := h
  injection e with e1 e2 e3
  subst e1; subst e2; subst e3
  have hl : (l.take k).length = k := by rw [List.length_take]; omega
  refine ⟨A, c, by rw [hl], by rw [hl]; omega, h2, ?_⟩
  rcases h3 with h3 | ⟨g, off, rfl, hb, hg, hc⟩
  · subst h3; exact .inl (by simp)
  · refine .inr ⟨g, off, rfl, hb, hg, fun i hi => ?_⟩
    rw [hl] at hi
    obtain ⟨a, b⟩ := hc i (by omega)
    refine ⟨?_, b⟩
    rw [a]
    unfold bt
    rw [List.getD_eq_getElem?_getD, List.getD_eq_getElem?_getD, List.getElem?_take_of_lt hi]
theorem OwnV.sl {A : Option Addr} {n c : Nat} (h : OwnV w base (.slice A n c) l) : n = l.length ∧ n ≤ c ∧ c ≤ maxLen ∧ RB w w.heap.size A l := by
  obtain ⟨A', c', e, h1, h2, hr⟩ := h.out
  injection e with e1 e2 e3
  subst e1; subst e2; subst e3
  exact ⟨rfl, h1, h2, hr⟩
end
end Go.Proofs.YtihhadgkcdkemaaDoor
