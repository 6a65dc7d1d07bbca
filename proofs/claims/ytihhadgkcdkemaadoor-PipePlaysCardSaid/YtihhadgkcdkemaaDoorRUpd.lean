/-
  A change of the messages of one of the document's pipes. No condition.
-/
import Derived.Test.YtihhadgkcdkemaaDoorROpen
namespace Go.Proofs.YtihhadgkcdkemaaDoor
open Go.RowKit Go.Maps
set_option linter.unusedVariables false
def is6 (i : Nat) (t : Nat × Nat) : Prop := t = (6, i)
theorem is6_isR {i : Nat} {t : Nat × Nat} (h : is6 i t) : isR t := by
  cases h
  exact .inr rfl
/-- the cell of pipe i's messages, and what a store there does -/
structure RRow (w : World) (own : Nat → Nat × Nat) (r : Nat) (S : List Pq) (i : Nat) (x : Pq) (b off n c : Nat) (u : Value) : Prop where
  len : n = S.length
  le : n ≤ c
  mx : c ≤ maxLen
  head : w.cell? ⟨r, 0, none⟩ = some (.slice (some ⟨b, off, none⟩) n c)
  fr : w.cell? ⟨b, off + i * 4, none⟩ = some (.string x.fr)
  tt : w.cell? ⟨b, off + i * 4 + 1, none⟩ = some (.string x.tt)
  most : w.cell? ⟨b, off + i * 4 + 2, none⟩ = some (.int .i64 (x.most : Int))
  row : w.cell? ⟨b, off + i * 4 + 3, none⟩ = some u
  frozen : w.frozen? ⟨b, off + i * 4 + 3, none⟩ = false
  rl : RL w own i u x.l
  lt : b < w.heap.size
  mark : own b = (5, 1)
  rlt : r < w.heap.size
  rmark : own r = (5, 0)
  ok : okP x
  upd : ∀ (w3 : World) (own' : Nat → Nat × Nat) (y : Pq) (u' : Value), Turn (is6 i) w w3 own own' → y.fr = x.fr → y.tt = x.tt → y.most = x.most → okP y → RL w3 own' i u' y.l →
    RSt (w3.setCell ⟨b, off + i * 4 + 3, none⟩ u') own' r (S.set i y) ∧ Turn isR w (w3.setCell ⟨b, off + i * 4 + 3, none⟩ u') own own'
theorem RSt.row {w : World} {own : Nat → Nat × Nat} {r : Nat} {S : List Pq} (h : RSt w own r S) {i : Nat} {x : Pq} (hx : S[i]? = some x) : ∃ b off n c u, RRow w own r S i x b off n c u := by
  obtain ⟨v, g, T, h0, h1, h2, h3, h4, h5, h6⟩ := h
  have hi := (List.getElem?_eq_some_iff.1 hx).1
  have hu : T[i]? = some T[i] := List.getElem?_eq_getElem (by omega)
  obtain ⟨A, n, c, rfl, e1, e2, e3⟩ := h3.sl
  obtain rfl : n = S.length := by
    rw [cellsR_len S T h0] at e1
    omega
  obtain ⟨b, off, hg, rfl, hlt, hc, hf⟩ := h3.at_ (by omega)
  obtain ⟨a1, a2, a3, a4⟩ := cellsR_at hx hu
  have hl : ∀ k, k < 4 → i * 4 + k < (cellsR S T).length := fun k hk => by rw [cellsR_len S T h0]; omega
  have hmb := h4 b hg
  have hrb : r ≠ b := fun e => by rw [e, hmb] at h2; cases h2
  have hr := h1.lt
  refine ⟨b, off, S.length, c, T[i], rfl, e2, e3, h1.cell 0, (hc _ (hl 0 (by omega))).trans a1, ?_, ?_, ?_, ?_, h6 i x _ hx hu, hlt, hmb, hr, h2, h5.2 x (List.mem_of_getElem? hx), fun w3 own' y u' ht y1 y2 y3 hy hR => ?_⟩
  · rw [Nat.add_assoc]; exact (hc _ (hl 1 (by omega))).trans a2
  · rw [Nat.add_assoc]; exact (hc _ (hl 2 (by omega))).trans a3
  · rw [Nat.add_assoc]; exact (hc _ (hl 3 (by omega))).trans a4
  · rw [Nat.add_assoc]; exact (hf (i * 4 + 3) (by omega)).2
  have n6 : ∀ t : Nat × Nat, t.1 ≠ 6 → ¬ is6 i t := fun t h1 h2 => by cases h2; exact h1 rfl
  have hb3 : w3.heap[b]? = w.heap[b]? := ht.block b hlt (n6 _ (by rw [hmb]; simp))
  have hr3 : w3.heap[r]? = w.heap[r]? := ht.block r hr (n6 _ (by rw [h2]; simp))
  have hbm : own' b = (5, 1) := (ht.mark b hlt (n6 _ (by rw [hmb]; simp))).trans hmb
  have hrm : own' r = (5, 0) := (ht.mark r hr (n6 _ (by rw [h2]; simp))).trans h2
  have hsz : (w3.setCell ⟨b, off + i * 4 + 3, none⟩ u').heap.size = w3.heap.size := by simp
  have B3 : Blk w3 r 57 #[.slice (some ⟨b, off, none⟩) S.length c] := by unfold Blk at h1 ⊢; rw [hr3]; exact h1
  have X3 : OwnX 4 w3 g (.slice (some ⟨b, off, none⟩) S.length c) (cellsR S T) := h3.same ht.size fun k hk => by rw [hg] at hk; cases hk; exact hb3
  have X4 := X3.set_ (by omega) (i * 4 + 3) (hl 3 (by omega)) u'
  rw [← Nat.add_assoc, ← cellsR_set u' hx y1 y2 y3 h0] at X4
  have far : ∀ k, k ≠ b → (w3.setCell ⟨b, off + i * 4 + 3, none⟩ u').heap[k]? = w3.heap[k]? := fun k hk => Below.heap_setCell w3 ⟨b, off + i * 4 + 3, none⟩ u' k hk
  refine ⟨⟨_, g, T.set i u', by simp [h0], B3.far hrb u', hrm, X4, fun k hk => ?_, okQ_set h5 hx y1 y2 hy, fun j z v hz hv => ?_⟩, ⟨ht.os, ht.tape, ht.output, by rw [hsz]; exact ht.size, fun k hk hn => ?_, fun k hk hn => ht.mark k hk fun h => hn (is6_isR h)⟩⟩
  · rw [hg] at hk; cases hk; exact hbm
  · by_cases e : i = j
    · subst e
      have hil : i < S.length := hi
      rw [List.getElem?_set_self hi] at hz
      rw [List.getElem?_set_self (by omega)] at hv
      obtain rfl : y = z := by simpa using hz
      obtain rfl : u' = v := by simpa using hv
      exact hR.keep (by rw [hsz]; exact Nat.le_refl _) fun k hk ho => ⟨far k (fun e => by rw [e, hbm] at ho; rcases ho with ho | ho <;> cases ho), rfl⟩
    · rw [List.getElem?_set_ne e] at hz hv
      refine (h6 j z v hz hv).keep (by rw [hsz]; exact ht.size) fun k hk ho => ?_
      have hn : ¬ is6 i (own k) := fun h => by
        rw [show own k = (6, i) from h] at ho
        rcases ho with ho | ho
        · injection ho with _ ho; exact e ho
        · cases ho
      exact ⟨(far k fun e => by rw [e, hmb] at ho; rcases ho with ho | ho <;> cases ho).trans (ht.block k hk hn), ht.mark k hk hn⟩
  · exact (far k fun e => hn (by rw [e, hmb]; exact .inl rfl)).trans (ht.block k hk fun h => hn (is6_isR h))
theorem OwnX.news {w : World} {own : Option Nat} {A : Option Addr} {n c : Nat} {xs : List Value} (h : OwnX 1 w own (.slice A n c) xs) : ∀ ad, A = some ad → ∀ j u, xs[j]? = some u → w.cell? (ad.add j) = some u := by
  intro ad e j u hu
  have hj := (List.getElem?_eq_some_iff.1 hu).1
  obtain ⟨e1, e2, e3⟩ := h.form
  obtain ⟨g, off, -, rfl, -, hc, -⟩ := h.at_ (by omega)
  cases e
  rw [Addr.add_lit, hc j hj, hu]
theorem OwnX.none_ {w : World} {own : Option Nat} {n c : Nat} {xs : List Value} (h : OwnX 1 w own (.slice none n c) xs) : n = 0 := by
  obtain ⟨e1, e2, e3⟩ := h.form
  rcases Nat.eq_zero_or_pos n with h0 | h0
  · exact h0
  · obtain ⟨g, off, -, e, -⟩ := h.at_ (by omega)
    cases e
theorem MsR.one {w : World} {own : Nat → Nat × Nat} {xs : List Value} {L : List (List UInt8)} (h : MsR w own xs L) : ∀ u ∈ xs, u.oneCell' = true := by
  intro u hu
  obtain ⟨j, hj, rfl⟩ := List.mem_iff_getElem.1 hu
  obtain ⟨A, c, e, -⟩ := h.2 j _ _ (List.getElem?_eq_getElem hj) (List.getElem?_eq_getElem (by rw [← h.1]; exact hj))
  rw [e]; rfl
theorem RO.of_q {w : World} {own : Nat → Nat × Nat} {B : Nat} {g : Option Nat} {v : Value} {l : List UInt8} (h : OwnQ w B g v l) (hg : ∀ k, g = some k → own k = (7, 0)) : ∃ A c, v = .slice A l.length c ∧ l.length ≤ c ∧ c ≤ maxLen ∧ RO w own A l := by
  obtain ⟨A, c, rfl, h1, h2, h3⟩ := h
  refine ⟨A, c, rfl, h1, h2, ?_⟩
  rcases h3 with ⟨h3, -⟩ | ⟨k, off, e, rfl, h4, h5, h6, -⟩
  · exact .inl (List.eq_nil_of_length_eq_zero (by omega))
  · exact .inr ⟨k, off, rfl, hg k e, h5, h6⟩
/-- new marks: the message's block, others the row's -/
def remarkR (w : World) (own : Nat → Nat × Nat) (i : Nat) (g : Option Nat) : Nat → Nat × Nat := fun k => if k < w.heap.size then own k else if g = some k then (7, 0) else (6, i)
/-- a message appended to a row -/
theorem rsent {w w1 w2 w3 : World} {own : Nat → Nat × Nat} {i : Nat} {g1 g g3 : Option Nat} {xs : List Value} {v1 v v3 : Value} {L : List (List UInt8)} {l : List UInt8}
    (hX : OwnX 1 w g v xs) (hg : ∀ b, g = some b → own b = (6, i)) (hM : MsR w own xs L)
    (hb1 : Below w.heap.size w w1) (hV : OwnQ w1 w.heap.size g1 v1 l) (hb2 : Below w1.heap.size w1 w2) (hg3 : w2.grownBy w3 g) (hX3 : OwnX 1 w3 g3 v3 (xs ++ [v1])) (ho : g3 = g ∨ g3 = some w2.heap.size) :
    RL w3 (remarkR w own i g1) i v3 (L ++ [l]) ∧ Turn (is6 i) w w3 own (remarkR w own i g1) := by
  have s12 := hb2.size
  have s01 := hb1.size
  have s23 := hg3.size
  have hgw : ∀ k, g = some k → k < w.heap.size := fun k hk => hX.lt hk
  have old : ∀ k, k < w.heap.size → g ≠ some k → w3.heap[k]? = w.heap[k]? := fun k hk h2 => by
    rw [hg3.block k (by omega) (fun e => h2 e.symm), hb2.block k (by omega), hb1.block k hk]
  have mk : ∀ k, k < w.heap.size → remarkR w own i g1 k = own k := fun k hk => if_pos hk
  refine ⟨⟨g3, xs ++ [v1], hX3, fun k hk => ?_, by simp [hM.1], fun j v2 l2 hj hl => ?_⟩, ⟨hg3.os.trans (hb2.os.trans hb1.os), hg3.tape.trans (hb2.tape.trans hb1.tape), hg3.output.trans (hb2.output.trans hb1.output), by omega, fun k hk hn => old k hk fun e => hn (hg k e), fun k hk _ => mk k hk⟩⟩
  · rcases ho with ho | ho
    · rw [ho] at hk
      rw [mk k (hgw k hk)]; exact hg k hk
    · rw [ho] at hk
      cases hk
      unfold remarkR
      rw [if_neg (by omega), if_neg (fun e => by have := (hV.base_ e).2; omega)]
  · rcases Nat.lt_or_ge j xs.length with hjl | hjl
    · rw [List.getElem?_append_left hjl] at hj
      rw [List.getElem?_append_left (by rw [← hM.1]; exact hjl)] at hl
      obtain ⟨A, c, e, h3, h4, h5⟩ := hM.2 j v2 l2 hj hl
      exact ⟨A, c, e, h3, h4, h5.keep (by omega) fun k hk ho => ⟨old k hk (fun e => by rw [hg k e] at ho; cases ho), mk k hk⟩⟩
    · rw [List.getElem?_append_right hjl] at hj
      rw [List.getElem?_append_right (by rw [← hM.1]; exact hjl), ← hM.1] at hl
      have hj0 : j - xs.length = 0 := by
        have := (List.getElem?_eq_some_iff.1 hj).1
        simpa using this
      rw [hj0] at hj hl
      obtain rfl : v1 = v2 := by simpa using hj
      obtain rfl : l = l2 := by simpa using hl
      obtain ⟨A, c, e, h3, h4, h5⟩ := RO.of_q (own := remarkR w own i g1) hV fun k hk => by
        unfold remarkR
        rw [if_neg (by have := (hV.base_ hk).1; omega), if_pos hk]
      refine ⟨A, c, e, h3, h4, h5.keep (by omega) fun k hk ho => ⟨?_, rfl⟩⟩
      rw [hg3.block k (by omega) (fun e => ?_), hb2.block k hk]
      have hgk := hg k e.symm
      rw [mk k (hgw k e.symm), hgk] at ho
      cases ho
/-- a row without its first message -/
theorem rtook {w w2 w3 : World} {own : Nat → Nat × Nat} {i : Nat} {g g3 : Option Nat} {xs : List Value} {v0 v3 : Value} {L : List (List UInt8)} {l : List UInt8}
    (hM : MsR w own (v0 :: xs) (l :: L)) (hb : Below w.heap.size w w2) (hg3 : w2.grownBy w3 none) (hX3 : OwnX 1 w3 g3 v3 xs) (ho : g3 = none ∨ g3 = some w2.heap.size) :
    RL w3 (remarkR w own i none) i v3 L ∧ Turn (is6 i) w w3 own (remarkR w own i none) := by
  have s12 := hb.size
  have s23 := hg3.size
  have old : ∀ k, k < w.heap.size → w3.heap[k]? = w.heap[k]? := fun k hk => by
    rw [hg3.block k (by omega) (by simp), hb.block k hk]
  have mk : ∀ k, k < w.heap.size → remarkR w own i none k = own k := fun k hk => if_pos hk
  refine ⟨⟨g3, xs, hX3, fun k hk => ?_, by have := hM.1; simpa using this, fun j v2 l2 hj hl => ?_⟩, ⟨hg3.os.trans hb.os, hg3.tape.trans hb.tape, hg3.output.trans hb.output, by omega, fun k hk hn => old k hk, fun k hk _ => mk k hk⟩⟩
  · rcases ho with ho | ho
    · rw [ho] at hk; cases hk
    · rw [ho] at hk
      cases hk
      unfold remarkR
      rw [if_neg (by omega), if_neg (fun e => by cases e)]
  · obtain ⟨A, c, e, h3, h4, h5⟩ := hM.2 (j + 1) v2 l2 (by simpa using hj) (by simpa using hl)
    exact ⟨A, c, e, h3, h4, h5.keep (by omega) fun k hk ho => ⟨old k hk, mk k hk⟩⟩
theorem RL.nil {w : World} {own : Nat → Nat × Nat} {i : Nat} : RL w own i (.slice none 0 0) [] :=
  ⟨none, [], OwnX.nil _ _, fun b hb => (by cases hb), rfl, fun j v l hj => (by simp at hj)⟩
end Go.Proofs.YtihhadgkcdkemaaDoor
