/-
  What a deed does to the pipes, and what the law's walk carries. No condition.
-/
import Derived.Test.YtihhadgkcdkemaaDoorPWait
namespace Go.Proofs.YtihhadgkcdkemaaDoor
open Go.RowKit Go.Maps
set_option linter.unusedVariables false
def doQ (S : List Pq) (k : Int) (f t : ByteArray) (most : Int) (l : List UInt8) : List Pq :=
  if k = 0 then (openQ S f t most).1 else if k = 1 then (sendQ S f t l).1 else if k = 2 then (takeQ S f t).1 else if k = 3 then (clearQ f S).1 else S
theorem openQ_len (S : List Pq) (f t : ByteArray) (most : Int) : (openQ S f t most).1.length ≤ S.length + 1 := by
  unfold openQ
  split
  · exact Nat.le_succ _
  split
  · exact Nat.le_succ _
  · simp
theorem sendQ_len (S : List Pq) (f t : ByteArray) (l : List UInt8) : (sendQ S f t l).1.length = S.length := by
  unfold sendQ
  split
  · rfl
  split
  · rfl
  split
  · rfl
  split
  · rfl
  · simp
theorem takeQ_len (S : List Pq) (f t : ByteArray) : (takeQ S f t).1.length = S.length := by
  unfold takeQ
  split
  · rfl
  split
  · rfl
  split
  · rfl
  · simp
theorem doQ_len (S : List Pq) (k : Int) (f t : ByteArray) (most : Int) (l : List UInt8) : (doQ S k f t most l).length ≤ S.length + 1 := by
  unfold doQ
  split
  · exact openQ_len S f t most
  split
  · rw [sendQ_len]; omega
  split
  · rw [takeQ_len]; omega
  split
  · show (S.map (clr f)).length ≤ _
    rw [List.length_map]; omega
  · omega
def isF (t : Nat × Nat) : Prop := False
def is0 (t : Nat × Nat) : Prop := t = (0, 0)
theorem PSt.cut {w w' : World} {own : Nat → Nat × Nat} {pb : Nat} {S : List Pq} (h : PSt w own pb S) (hb : Below w.heap.size w w') : PSt w' (cutM w own) pb S :=
  h.turn (cl := isF) (Turn.of_below hb fun k hk => cutM_old hk) fun _ _ _ h => h
theorem RSt.cut {w w' : World} {own : Nat → Nat × Nat} {pb : Nat} {S : List Pq} (h : RSt w own pb S) (hb : Below w.heap.size w w') : RSt w' (cutM w own) pb S :=
  h.turn (cl := isF) (Turn.of_below hb fun k hk => cutM_old hk) fun _ _ _ h => h
theorem cutM_new {w : World} {own : Nat → Nat × Nat} {k : Nat} (h : w.heap.size ≤ k) : cutM w own k = (0, 0) := if_neg (by omega)
theorem cutM_zero {w : World} {own : Nat → Nat × Nat} {B : Nat} (hz : ∀ k, k < B → own k = (0, 0)) : ∀ k, k < B → cutM w own k = (0, 0) := fun k hk => by
  unfold cutM
  split
  · exact hz k hk
  · rfl
/-- nobody's block: it stays while the pipes change -/
structure Nb (w : World) (own : Nat → Nat × Nat) (b : Nat) (E : TypeId) (xs : Array Value) : Prop where
  blk : Blk w b E xs
  mark : own b = (0, 0)
theorem Nb.turn {cl : Nat × Nat → Prop} {w w' : World} {own own' : Nat → Nat × Nat} {b : Nat} {E : TypeId} {xs : Array Value} (h : Nb w own b E xs) (ht : Turn cl w w' own own') (hc : ¬ cl (0, 0)) : Nb w' own' b E xs := by
  have hlt := h.blk.lt
  have h1 := h.blk
  refine ⟨?_, (ht.mark b hlt (by rw [h.mark]; exact hc)).trans h.mark⟩
  unfold Blk at h1 ⊢
  rw [ht.block b hlt (by rw [h.mark]; exact hc)]
  exact h1
/-- both, what lies below B, and that it is nobody's -/
structure Both (w0 w : World) (B : Nat) (own : Nat → Nat × Nat) (pb rb : Nat) (S S' : List Pq) : Prop where
  p : PSt w own pb S
  r : RSt w own rb S'
  b : Below B w0 w
  s : B ≤ w.heap.size
  z : ∀ k, k < B → own k = (0, 0)
theorem isP_lt {t : Nat × Nat} (h : 5 ≤ t.1) : ¬ isP t := fun h2 => by unfold isP at h2; omega
theorem isR_lt {t : Nat × Nat} (h : t.1 ≤ 4) : ¬ isR t := fun h2 => by have := isR_of h2; omega
theorem Both.pturn {w0 w w' : World} {B : Nat} {own own' : Nat → Nat × Nat} {pb rb : Nat} {S S' S2 : List Pq} (h : Both w0 w B own pb rb S S') (hp : PSt w' own' pb S2) (ht : Turn isP w w' own own') : Both w0 w' B own' pb rb S2 S' :=
  ⟨hp, h.r.turn ht fun t a b => isP_lt a, h.b.trans (ht.below h.s h.z isP0), Nat.le_trans h.s ht.size, ht.zero h.s h.z isP0⟩
theorem Both.rturn {w0 w w' : World} {B : Nat} {own own' : Nat → Nat × Nat} {pb rb : Nat} {S S' S2 : List Pq} (h : Both w0 w B own pb rb S S') (hp : RSt w' own' rb S2) (ht : Turn isR w w' own own') : Both w0 w' B own' pb rb S S2 :=
  ⟨h.p.turn ht fun t a b => isR_lt b, hp, h.b.trans (ht.below h.s h.z isR0), Nat.le_trans h.s ht.size, ht.zero h.s h.z isR0⟩
theorem Both.below {w0 w w' : World} {B : Nat} {own : Nat → Nat × Nat} {pb rb : Nat} {S S' : List Pq} (h : Both w0 w B own pb rb S S') (hb : Below w.heap.size w w') : Both w0 w' B (cutM w own) pb rb S S' :=
  ⟨h.p.cut hb, h.r.cut hb, h.b.trans (hb.mono h.s), Nat.le_trans h.s hb.size, cutM_zero h.z⟩
/-- a store into a block that is nobody's, above B -/
theorem Both.store {w0 w : World} {B : Nat} {own : Nat → Nat × Nat} {pb rb : Nat} {S S' : List Pq} (h : Both w0 w B own pb rb S S') (a : Addr) (u : Value) (ha : own a.block = (0, 0)) (hB : B ≤ a.block) : Both w0 (w.setCell a u) B own pb rb S S' := by
  have ht : Turn is0 w (w.setCell a u) own own := ⟨rfl, rfl, rfl, by simp, fun k hk hn => Below.heap_setCell w a u k fun e => hn (by rw [e]; exact ha), fun _ _ _ => rfl⟩
  have n1 : ∀ t : Nat × Nat, 1 ≤ t.1 → ¬ is0 t := fun t h1 h2 => by unfold is0 at h2; rw [h2] at h1; cases h1
  exact ⟨h.p.turn ht fun t a _ => n1 t a, h.r.turn ht fun t a _ => n1 t (by omega), h.b.setCell hB u, by simpa using h.s, h.z⟩
def Wu (w : World) (A : Option Addr) (n : Nat) : Prop := ∀ g o, A = some ⟨g, o, none⟩ → ∀ i, i < n → (∃ u, w.cell? ⟨g, o + i, none⟩ = some (.int .u8 u)) ∧ w.frozen? ⟨g, o + i, none⟩ = false
theorem Wu.set_ {w : World} {A : Option Addr} {n : Nat} (h : Wu w A n) (p : Addr) (u : Int) : Wu (w.setCell p (.int .u8 u)) A n := fun g o e i hi => by
  obtain ⟨⟨v, h1⟩, h2⟩ := h g o e i hi
  refine ⟨?_, by rw [World.frozen?_setCell]; exact h2⟩
  by_cases he : p = ⟨g, o + i, none⟩
  · subst he
    exact ⟨u, World.cell?_setCell_same' _ _ _ (by rw [h1]; rfl)⟩
  · exact ⟨v, by rw [World.cell?_setCell_other _ _ _ _ he]; exact h1⟩
theorem OwnV.wu {w : World} {base n c : Nat} {A : Option Addr} {l : List UInt8} (h : OwnV w base (.slice A n c) l) : n = l.length ∧ n ≤ c ∧ c ≤ maxLen ∧ Wu w A n ∧ (0 < n → ∃ g o, A = some ⟨g, o, none⟩ ∧ base ≤ g ∧ g < w.heap.size) ∧ RB w w.heap.size A l := by
  obtain ⟨A', c', e, h1, h2, h3⟩ := h
  injection e with e1 e2 e3
  subst e1 e2 e3
  refine ⟨rfl, h1, h2, fun g o e i hi => ?_, fun h0 => ?_, ?_⟩
  · rcases h3 with h3 | ⟨g', o', e', _, _, hc⟩
    · rw [h3] at hi; cases hi
    · rw [e] at e'; cases e'
      exact ⟨⟨_, (hc i hi).1⟩, (hc i hi).2⟩
  · rcases h3 with h3 | ⟨g', o', e', hb, hl, hc⟩
    · rw [h3] at h0; cases h0
    · exact ⟨g', o', e', hb, hl⟩
  · rcases h3 with h3 | ⟨g', o', e', hb, hl, hc⟩
    · exact .inl h3
    · exact .inr ⟨g', o', e', hl, fun i hi => (hc i hi).1⟩
end Go.Proofs.YtihhadgkcdkemaaDoor
