/-
  The document's pipes as they lie in memory. No condition.
-/
import Derived.Test.YtihhadgkcdkemaaDoorPShown
namespace Go.Proofs.YtihhadgkcdkemaaDoor
open Go.RowKit Go.Maps
set_option linter.unusedVariables false
/-- the cells of a row of pipes -/
def cellsR : List Pq → List Value → List Value
  | x :: S, u :: T => .string x.fr :: .string x.tt :: .int .i64 (x.most : Int) :: u :: cellsR S T
  | _, _ => []
theorem cellsR_len : ∀ (S : List Pq) (T : List Value), T.length = S.length → (cellsR S T).length = S.length * 4
  | [], [], _ => rfl
  | x :: S, u :: T, h => by
    have := cellsR_len S T (by simpa using h)
    simp only [cellsR, List.length_cons, this]
    omega
theorem cellsR_at : ∀ {S : List Pq} {T : List Value} {i : Nat} {x : Pq} {u : Value}, S[i]? = some x → T[i]? = some u →
    (cellsR S T)[i * 4]? = some (.string x.fr) ∧ (cellsR S T)[i * 4 + 1]? = some (.string x.tt) ∧ (cellsR S T)[i * 4 + 2]? = some (.int .i64 (x.most : Int)) ∧ (cellsR S T)[i * 4 + 3]? = some u
  | y :: S, v :: T, 0, x, u, h1, h2 => by
    obtain rfl : y = x := by simpa using h1
    obtain rfl : v = u := by simpa using h2
    exact ⟨rfl, rfl, rfl, rfl⟩
  | y :: S, v :: T, i + 1, x, u, h1, h2 => by
    obtain ⟨a, b, c, d⟩ := cellsR_at (S := S) (T := T) (i := i) (x := x) (u := u) (by simpa using h1) (by simpa using h2)
    have e : ∀ k, (cellsR (y :: S) (v :: T))[(i + 1) * 4 + k]? = (cellsR S T)[i * 4 + k]? := fun k => by
      rw [cellsR, show (i + 1) * 4 + k = (i * 4 + k) + 4 by omega]
      rfl
    exact ⟨(e 0).trans a, (e 1).trans b, (e 2).trans c, (e 3).trans d⟩
  | [], _, i, x, u, h1, _ => by simp at h1
  | _ :: _, [], i, x, u, _, h2 => by simp at h2
theorem cellsR_set : ∀ {S : List Pq} {T : List Value} {i : Nat} {x y : Pq} (u : Value), S[i]? = some x → y.fr = x.fr → y.tt = x.tt → y.most = x.most → T.length = S.length → cellsR (S.set i y) (T.set i u) = (cellsR S T).set (i * 4 + 3) u
  | z :: S, v :: T, 0, x, y, u, h1, e1, e2, e3, h2 => by
    obtain rfl : z = x := by simpa using h1
    simp [cellsR, e1, e2, e3]
  | z :: S, v :: T, i + 1, x, y, u, h1, e1, e2, e3, h2 => by
    have := cellsR_set (S := S) (T := T) (i := i) u (by simpa using h1) e1 e2 e3 (by simpa using h2)
    rw [List.set_cons_succ, List.set_cons_succ, cellsR, this, cellsR, show (i + 1) * 4 + 3 = (i * 4 + 3) + 4 by omega]
    rfl
  | [], _, i, x, y, u, h1, _, _, _, _ => by simp at h1
  | _ :: _, [], _, _, _, _, _, _, _, _, h2 => by simp at h2
theorem cellsR_snoc (y : Pq) (u : Value) : ∀ (S : List Pq) (T : List Value), T.length = S.length → cellsR (S ++ [y]) (T ++ [u]) = cellsR S T ++ [.string y.fr, .string y.tt, .int .i64 (y.most : Int), u]
  | [], [], _ => rfl
  | x :: S, v :: T, h => by
    simp only [List.cons_append, cellsR]
    rw [cellsR_snoc y u S T (by simpa using h)]
/-- a message of the document's: its bytes stay -/
def RO (w : World) (own : Nat → Nat × Nat) (A : Option Addr) (l : List UInt8) : Prop :=
  l = [] ∨ ∃ b off, A = some ⟨b, off, none⟩ ∧ own b = (7, 0) ∧ b < w.heap.size ∧ ∀ i, i < l.length → w.cell? ⟨b, off + i, none⟩ = some (.int .u8 (bt l i))
def MsR (w : World) (own : Nat → Nat × Nat) (xs : List Value) (L : List (List UInt8)) : Prop :=
  xs.length = L.length ∧ ∀ (j : Nat) (v : Value) (l : List UInt8), xs[j]? = some v → L[j]? = some l → ∃ A c, v = .slice A l.length c ∧ l.length ≤ c ∧ c ≤ maxLen ∧ RO w own A l
/-- the messages of pipe i -/
def RL (w : World) (own : Nat → Nat × Nat) (i : Nat) (u : Value) (L : List (List UInt8)) : Prop :=
  ∃ g xs, OwnX 1 w g u xs ∧ (∀ b, g = some b → own b = (6, i)) ∧ MsR w own xs L
/-- all, behind the pointer to block rb -/
def RSt (w : World) (own : Nat → Nat × Nat) (rb : Nat) (S : List Pq) : Prop :=
  ∃ v g T, T.length = S.length ∧ Blk w rb 57 #[v] ∧ own rb = (5, 0) ∧ OwnX 4 w g v (cellsR S T) ∧ (∀ b, g = some b → own b = (5, 1)) ∧ okQ S ∧
    ∀ (i : Nat) (x : Pq) (u : Value), S[i]? = some x → T[i]? = some u → RL w own i u x.l
def isR (t : Nat × Nat) : Prop := t.1 = 5 ∨ t.1 = 6
section
variable {w w' : World} {own own' : Nat → Nat × Nat} {r i : Nat} {S : List Pq}
theorem RO.rb {A : Option Addr} {l : List UInt8} (h : RO w own A l) : RB w w.heap.size A l := by
  rcases h with h | ⟨b, off, e, -, h1, h2⟩
  · exact .inl h
  · exact .inr ⟨b, off, e, h1, h2⟩
theorem RO.keep {A : Option Addr} {l : List UInt8} (h : RO w own A l) (hs : w.heap.size ≤ w'.heap.size) (hk : ∀ k, k < w.heap.size → own k = (7, 0) → w'.heap[k]? = w.heap[k]? ∧ own' k = own k) : RO w' own' A l := by
  rcases h with h | ⟨b, off, e, h0, h1, h2⟩
  · exact .inl h
  · obtain ⟨e1, e2⟩ := hk b h1 h0
    exact .inr ⟨b, off, e, by rw [e2]; exact h0, Nat.lt_of_lt_of_le h1 hs, fun i hi => by rw [← h2 i hi]; exact World.cell?_of_block e1⟩
theorem MsR.keep {xs : List Value} {L : List (List UInt8)} (h : MsR w own xs L) (hs : w.heap.size ≤ w'.heap.size) (hk : ∀ k, k < w.heap.size → own k = (7, 0) → w'.heap[k]? = w.heap[k]? ∧ own' k = own k) : MsR w' own' xs L :=
  ⟨h.1, fun j v l h1 h2 => by obtain ⟨A, c, e, h3, h4, h5⟩ := h.2 j v l h1 h2; exact ⟨A, c, e, h3, h4, h5.keep hs hk⟩⟩
theorem RL.keep {u : Value} {L : List (List UInt8)} (h : RL w own i u L) (hs : w.heap.size ≤ w'.heap.size) (hk : ∀ k, k < w.heap.size → own k = (6, i) ∨ own k = (7, 0) → w'.heap[k]? = w.heap[k]? ∧ own' k = own k) : RL w' own' i u L := by
  obtain ⟨g, xs, h1, h2, h3⟩ := h
  exact ⟨g, xs, h1.same hs fun b hb => (hk b (h1.lt hb) (.inl (h2 b hb))).1, fun b hb => by rw [(hk b (h1.lt hb) (.inl (h2 b hb))).2]; exact h2 b hb, h3.keep hs fun k hl hk7 => hk k hl (.inr hk7)⟩
theorem RSt.turn {cl : Nat × Nat → Prop} (h : RSt w own r S) (ht : Turn cl w w' own own') (hc : ∀ t : Nat × Nat, 5 ≤ t.1 → t.1 ≤ 7 → ¬ cl t) : RSt w' own' r S := by
  obtain ⟨v, g, T, h0, h1, h2, h3, h4, h5, h6⟩ := h
  have hlt := h1.lt
  have kk : ∀ k, k < w.heap.size → 5 ≤ (own k).1 → (own k).1 ≤ 7 → w'.heap[k]? = w.heap[k]? ∧ own' k = own k := fun k hk a b => ⟨ht.block k hk (hc _ a b), ht.mark k hk (hc _ a b)⟩
  refine ⟨v, g, T, h0, ?_, ?_, h3.same ht.size fun b hb => (kk b (h3.lt hb) (by rw [h4 b hb]; simp) (by rw [h4 b hb]; simp)).1, fun b hb => ?_, h5, fun i x u hx hu => (h6 i x u hx hu).keep ht.size fun k hk ho => kk k hk ?_ ?_⟩
  · have e := (kk r hlt (by rw [h2]; simp) (by rw [h2]; simp)).1
    unfold Blk at h1 ⊢; rw [e]; exact h1
  · rw [(kk r hlt (by rw [h2]; simp) (by rw [h2]; simp)).2]; exact h2
  · rw [(kk b (h3.lt hb) (by rw [h4 b hb]; simp) (by rw [h4 b hb]; simp)).2]; exact h4 b hb
  · rcases ho with ho | ho <;> (rw [ho]; simp)
  · rcases ho with ho | ho <;> (rw [ho]; simp)
theorem RSt.below (h : RSt w own r S) (hb : Below w.heap.size w w') : RSt w' own r S :=
  h.turn (cl := fun _ => False) (Turn.of_below hb fun _ _ => rfl) fun _ _ _ h => h
/-- what a look at pipe i finds -/
theorem RSt.cells (h : RSt w own r S) {x : Pq} (hx : S[i]? = some x) : ∃ b off n c A cl, n = S.length ∧ n ≤ c ∧ c ≤ maxLen ∧ w.cell? ⟨r, 0, none⟩ = some (.slice (some ⟨b, off, none⟩) n c) ∧
    w.cell? ⟨b, off + i * 4, none⟩ = some (.string x.fr) ∧ w.cell? ⟨b, off + i * 4 + 1, none⟩ = some (.string x.tt) ∧ w.cell? ⟨b, off + i * 4 + 2, none⟩ = some (.int .i64 (x.most : Int)) ∧ w.cell? ⟨b, off + i * 4 + 3, none⟩ = some (.slice A x.l.length cl) := by
  obtain ⟨v, g, T, h0, h1, h2, h3, h4, h5, h6⟩ := h
  have hi := (List.getElem?_eq_some_iff.1 hx).1
  have hu : T[i]? = some T[i] := List.getElem?_eq_getElem (by omega)
  obtain ⟨A, n, c, rfl, e1, e2, e3⟩ := h3.sl
  obtain rfl : n = S.length := by
    rw [cellsR_len S T h0] at e1
    omega
  obtain ⟨b, off, -, rfl, -, hc, -⟩ := h3.at_ (by omega)
  obtain ⟨a1, a2, a3, a4⟩ := cellsR_at hx hu
  have hl : ∀ k, k < 4 → i * 4 + k < (cellsR S T).length := fun k hk => by rw [cellsR_len S T h0]; omega
  obtain ⟨gi, xs, r1, r2, r3⟩ := h6 i x _ hx hu
  obtain ⟨A', n', c', e, f1, f2, f3⟩ := r1.sl
  obtain rfl : n' = x.l.length := by rw [← r3.1, f1, Nat.mul_one]
  refine ⟨b, off, S.length, c, A', c', rfl, e2, e3, h1.cell 0, (hc _ (hl 0 (by omega))).trans a1, ?_, ?_, ?_⟩
  · rw [Nat.add_assoc]; exact (hc _ (hl 1 (by omega))).trans a2
  · rw [Nat.add_assoc]; exact (hc _ (hl 2 (by omega))).trans a3
  · rw [Nat.add_assoc]; exact (hc _ (hl 3 (by omega))).trans (a4.trans (by rw [e]))
theorem RSt.head (h : RSt w own r S) : ∃ A c, S.length ≤ c ∧ c ≤ maxLen ∧ w.cell? ⟨r, 0, none⟩ = some (.slice A S.length c) := by
  obtain ⟨v, g, T, h0, h1, h2, h3, h4, h5, h6⟩ := h
  obtain ⟨A, n, c, rfl, e1, e2, e3⟩ := h3.sl
  obtain rfl : n = S.length := by
    rw [cellsR_len S T h0] at e1
    omega
  exact ⟨A, c, e2, e3, h1.cell 0⟩
end
end Go.Proofs.YtihhadgkcdkemaaDoor
