/-
  Two rows of tables that grow side by side. No condition.
-/
import Derived.Test.YtlknclkkhincfaaDoorTbCl
import Derived.Test.YtlknclkkhincfaaDoorTbPz
namespace Go.Proofs.YtlknclkkhincfaaDoor
open Go.RowKit
set_option linter.unusedVariables false
/-- the block of neither row -/
def Nn (g6 g7 : Option Nat) (k : Nat) : Prop := g6 ≠ some k ∧ g7 ≠ some k
def TabF (N : Nat → Prop) (w : World) (tb : Nat) (T : List En) : Prop := ∃ v g, Blk w tb 70 #[v] ∧ OwnX 2 w g v (T.map enC).flatten ∧ g ≠ some tb ∧ N tb ∧ ∀ k, g = some k → N k
def RTabF (N : Nat → Prop) (w : World) (tb : Nat) (T : List En) : Prop := ∃ v g, Blk w tb 36 #[v] ∧ OwnX 2 w g v (T.map enC).flatten ∧ g ≠ some tb ∧ N tb ∧ ∀ k, g = some k → N k
theorem TabF.keep {N N' : Nat → Prop} {w w' : World} {tb : Nat} {T : List En} (h : TabF N w tb T) (hs : w.heap.size ≤ w'.heap.size) (hk : ∀ k, k < w.heap.size → N k → w'.heap[k]? = w.heap[k]? ∧ N' k) : TabF N' w' tb T := by
  obtain ⟨v, g, h1, h2, h3, h4, h5⟩ := h
  exact ⟨v, g, (hk tb h1.lt h4).1.trans h1, h2.same hs fun k e => (hk k (h2.lt e) (h5 k e)).1, h3, (hk tb h1.lt h4).2, fun k e => (hk k (h2.lt e) (h5 k e)).2⟩
theorem RTabF.keep {N N' : Nat → Prop} {w w' : World} {tb : Nat} {T : List En} (h : RTabF N w tb T) (hs : w.heap.size ≤ w'.heap.size) (hk : ∀ k, k < w.heap.size → N k → w'.heap[k]? = w.heap[k]? ∧ N' k) : RTabF N' w' tb T := by
  obtain ⟨v, g, h1, h2, h3, h4, h5⟩ := h
  exact ⟨v, g, (hk tb h1.lt h4).1.trans h1, h2.same hs fun k e => (hk k (h2.lt e) (h5 k e)).1, h3, (hk tb h1.lt h4).2, fun k e => (hk k (h2.lt e) (h5 k e)).2⟩
theorem TabF.st {N : Nat → Prop} {w : World} {tb : Nat} {T : List En} (h : TabF N w tb T) : TabSt w tb T := by
  obtain ⟨v, g, h1, h2, h3, -⟩ := h
  exact ⟨v, g, h1, h2, h3⟩
theorem RTabF.st {N : Nat → Prop} {w : World} {tb : Nat} {T : List En} (h : RTabF N w tb T) : RTab w tb T := by
  obtain ⟨v, g, h1, h2, h3, -⟩ := h
  exact ⟨v, g, h1, h2, h3⟩
abbrev OT := Option (Nat × List En)
/-- two rows, the tables that they point to -/
structure ChI (w : World) (B : Nat) (g6 g7 : Option Nat) (v6 v7 : Value) (LT LR : List OT) : Prop where
  r6 : OwnX 1 w g6 v6 ((LT.map pOf).map ptV)
  r7 : OwnX 1 w g7 v7 ((LR.map pOf).map ptV)
  b6 : FromB B g6
  b7 : FromB B g7
  ne : ∀ k, g6 = some k → g7 ≠ some k
  t6 : ∀ p, some p ∈ LT → TabF (Nn g6 g7) w p.1 p.2
  t7 : ∀ p, some p ∈ LR → RTabF (Nn g6 g7) w p.1 p.2
theorem ChI.nil (w : World) (B : Nat) : ChI w B none none (.slice none 0 0) (.slice none 0 0) [] [] :=
  ⟨OwnX.nil _ none, OwnX.nil _ none, (fun k h => by cases h), (fun k h => by cases h), (fun k h => by cases h), (fun p h => by cases h), (fun p h => by cases h)⟩
section
variable {w w' w2 : World} {B : Nat} {g6 g7 g' : Option Nat} {v6 v7 v' : Value} {LT LR : List OT}
theorem ChI.below (h : ChI w B g6 g7 v6 v7 LT LR) (hb : Below w.heap.size w w') : ChI w' B g6 g7 v6 v7 LT LR :=
  ⟨h.r6.below hb fun k hk => h.r6.lt hk, h.r7.below hb fun k hk => h.r7.lt hk, h.b6, h.b7, h.ne, fun p hp => (h.t6 p hp).keep hb.size fun k hk hn => ⟨hb.block k hk, hn⟩, fun p hp => (h.t7 p hp).keep hb.size fun k hk hn => ⟨hb.block k hk, hn⟩⟩
/-- a block that is new is neither row's -/
theorem ChI.nn (h : ChI w B g6 g7 v6 v7 LT LR) {k : Nat} (hk : w.heap.size ≤ k) : Nn g6 g7 k :=
  ⟨fun e => by have := h.r6.lt e; omega, fun e => by have := h.r7.lt e; omega⟩
theorem ChI.keep6 (h : ChI w B g6 g7 v6 v7 LT LR) (o : Obj) (hG : (w.alloc o).grownBy w2 g6) (ho : g' = g6 ∨ g' = some (w.alloc o).heap.size) : ∀ k, k < w.heap.size → Nn g6 g7 k → w2.heap[k]? = w.heap[k]? ∧ Nn g' g7 k := fun k hk hn =>
  ⟨(hG.block k (by simp; omega) (fun e => hn.1 e.symm)).trans (Below.heap_alloc w o k hk), fun e => by
    rcases ho with rfl | rfl
    · exact hn.1 e
    · injection e with e; simp at e; omega, hn.2⟩
theorem ChI.app6 (h : ChI w B g6 g7 v6 v7 LT LR) (t : OT) (ob : Obj) (hG : (w.alloc ob).grownBy w2 g6) (ho : g' = g6 ∨ g' = some (w.alloc ob).heap.size) (hB : B ≤ w.heap.size) (hn : ∀ p, t = some p → TabF (Nn g6 g7) w p.1 p.2) (hX : OwnX 1 w2 g' v' ((LT.map pOf).map ptV ++ [ptV (pOf t)])) :
    ChI w2 B g' g7 v' v7 (LT ++ [t]) LR := by
  have hk := h.keep6 ob hG ho
  have hs : w.heap.size ≤ w2.heap.size := by have := hG.size; simp at this; omega
  refine ⟨by simpa using hX, h.r7.same hs fun k e => (hG.block k (by have := h.r7.lt e; simp; omega) (fun q => h.ne k q.symm e)).trans (Below.heap_alloc w ob k (h.r7.lt e)), fun k e => ?_, h.b7, fun k e q => ?_, fun p hp => ?_, fun p hp => (h.t7 p hp).keep hs hk⟩
  · rcases ho with rfl | rfl
    · exact h.b6 k e
    · injection e with e; simp at e; omega
  · rcases ho with rfl | rfl
    · exact h.ne k e q
    · injection e with e; have := h.r7.lt q; simp at e; omega
  · rcases List.mem_append.1 hp with hp | hp
    · exact (h.t6 p hp).keep hs hk
    · exact (hn p (List.mem_singleton.1 hp).symm).keep hs hk
theorem ChI.keep7 (h : ChI w B g6 g7 v6 v7 LT LR) (o : Obj) (hG : (w.alloc o).grownBy w2 g7) (ho : g' = g7 ∨ g' = some (w.alloc o).heap.size) : ∀ k, k < w.heap.size → Nn g6 g7 k → w2.heap[k]? = w.heap[k]? ∧ Nn g6 g' k := fun k hk hn =>
  ⟨(hG.block k (by simp; omega) (fun e => hn.2 e.symm)).trans (Below.heap_alloc w o k hk), hn.1, fun e => by
    rcases ho with rfl | rfl
    · exact hn.2 e
    · injection e with e; simp at e; omega⟩
theorem ChI.app7 (h : ChI w B g6 g7 v6 v7 LT LR) (t : OT) (ob : Obj) (hG : (w.alloc ob).grownBy w2 g7) (ho : g' = g7 ∨ g' = some (w.alloc ob).heap.size) (hB : B ≤ w.heap.size) (hn : ∀ p, t = some p → RTabF (Nn g6 g7) w p.1 p.2) (hX : OwnX 1 w2 g' v' ((LR.map pOf).map ptV ++ [ptV (pOf t)])) :
    ChI w2 B g6 g' v6 v' LT (LR ++ [t]) := by
  have hk := h.keep7 ob hG ho
  have hs : w.heap.size ≤ w2.heap.size := by have := hG.size; simp at this; omega
  refine ⟨h.r6.same hs fun k e => (hG.block k (by have := h.r6.lt e; simp; omega) (fun q => h.ne k e q.symm)).trans (Below.heap_alloc w ob k (h.r6.lt e)), by simpa using hX, h.b6, fun k e => ?_, fun k e q => ?_, fun p hp => (h.t6 p hp).keep hs hk, fun p hp => ?_⟩
  · rcases ho with rfl | rfl
    · exact h.b7 k e
    · injection e with e; simp at e; omega
  · rcases ho with rfl | rfl
    · exact h.ne k e q
    · injection q with q; have := h.r6.lt e; simp at q; omega
  · rcases List.mem_append.1 hp with hp | hp
    · exact (h.t7 p hp).keep hs hk
    · exact (hn p (List.mem_singleton.1 hp).symm).keep hs hk
/-- below B all stays -/
theorem ChI.belowB6 (h : ChI w B g6 g7 v6 v7 LT LR) (ob : Obj) (hG : (w.alloc ob).grownBy w2 g6) (hB : B ≤ w.heap.size) : Below B w w2 := belowX ((Below.refl B w).alloc hB ob) hG h.b6 (by simp; omega)
theorem ChI.belowB7 (h : ChI w B g6 g7 v6 v7 LT LR) (ob : Obj) (hG : (w.alloc ob).grownBy w2 g7) (hB : B ≤ w.heap.size) : Below B w w2 := belowX ((Below.refl B w).alloc hB ob) hG h.b7 (by simp; omega)
/-- the program's new table -/
theorem ChI.newT (h : ChI w B g6 g7 v6 v7 LT LR) {tb S : Nat} {T : List En} (ht : TabIn w' tb S T) (hn : w.heap.size ≤ tb) : TabF (Nn g6 g7) w' tb T := by
  obtain ⟨v, g, h1, h2, h3, h4⟩ := ht
  exact ⟨v, g, h1, h2, fun e => by have := h3 tb e; omega, h.nn hn, fun k e => h.nn (by have := h3 k e; omega)⟩
theorem ChI.newR (h : ChI w B g6 g7 v6 v7 LT LR) {tb : Nat} {T : List En} (ht : RTabI w' tb T) (hn : w.heap.size ≤ tb) : RTabF (Nn g6 g7) w' tb T := by
  obtain ⟨v, g, h1, h2, h3⟩ := ht
  exact ⟨v, g, h1, h2, fun e => by have := h3 tb e; omega, h.nn hn, fun k e => h.nn (by have := h3 k e; omega)⟩
end
end Go.Proofs.YtlknclkkhincfaaDoor
