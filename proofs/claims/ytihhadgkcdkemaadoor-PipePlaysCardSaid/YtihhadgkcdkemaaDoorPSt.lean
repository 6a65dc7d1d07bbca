/-
  The pipes: as a list, and as they lie in memory. No condition.
-/
import Derived.Test.YtihhadgkcdkemaaDoorPKey
import Derived.Test.YtihhadgkcdkemaaDoorChg
namespace Go.Proofs.YtihhadgkcdkemaaDoor
open Go.RowKit Go.Maps
set_option linter.unusedVariables false

/-! ### as a list -/
structure Pq where
  fr : ByteArray
  tt : ByteArray
  most : Nat
  l : List (List UInt8)
def idxQ (f t : ByteArray) : List Pq → Option Nat
  | [] => none
  | x :: r => if x.fr = f ∧ x.tt = t then some 0 else (idxQ f t r).map (· + 1)
def okP (x : Pq) : Prop := x.fr.size ≤ 32 ∧ x.tt.size ≤ 32 ∧ 1 ≤ x.most ∧ x.most ≤ 64 ∧ x.l.length ≤ x.most ∧ ∀ b ∈ x.l, b.length ≤ 65536
def okQ (S : List Pq) : Prop := S.Pairwise (fun x y => ¬ (x.fr = y.fr ∧ x.tt = y.tt)) ∧ ∀ x ∈ S, okP x
theorem idxQ_some {f t : ByteArray} : ∀ {S : List Pq} {i : Nat}, idxQ f t S = some i → ∃ x, S[i]? = some x ∧ x.fr = f ∧ x.tt = t
  | [], i, h => by cases h
  | x :: r, i, h => by
    unfold idxQ at h
    split at h
    · rename_i hc
      cases h
      exact ⟨x, rfl, hc.1, hc.2⟩
    · cases hr : idxQ f t r with
      | none => rw [hr] at h; cases h
      | some j =>
        rw [hr] at h
        cases h
        obtain ⟨y, h1, h2⟩ := idxQ_some hr
        exact ⟨y, by simpa using h1, h2⟩
theorem idxQ_none {f t : ByteArray} : ∀ {S : List Pq}, idxQ f t S = none → ∀ x ∈ S, ¬ (x.fr = f ∧ x.tt = t)
  | [], _, x, hx => by cases hx
  | y :: r, h, x, hx => by
    unfold idxQ at h
    split at h
    · cases h
    · rename_i hc
      rcases List.mem_cons.1 hx with rfl | hx
      · exact hc
      · exact idxQ_none (by simpa using h) x hx
theorem idxQ_none_mk {f t : ByteArray} : ∀ {S : List Pq}, (∀ x ∈ S, ¬ (x.fr = f ∧ x.tt = t)) → idxQ f t S = none
  | [], _ => rfl
  | y :: r, h => by
    unfold idxQ
    rw [if_neg (h y (by simp)), idxQ_none_mk (fun x hx => h x (by simp [hx]))]
    rfl
theorem idxQ_snoc_old {f t : ByteArray} {x : Pq} (hx : ¬ (x.fr = f ∧ x.tt = t)) : ∀ S : List Pq, idxQ f t (S ++ [x]) = idxQ f t S
  | [] => by simp [idxQ, hx]
  | y :: r => by
    rw [List.cons_append]
    unfold idxQ
    rw [idxQ_snoc_old hx r]
theorem idxQ_snoc_new {f t : ByteArray} {x : Pq} (hx : x.fr = f ∧ x.tt = t) : ∀ {S : List Pq}, idxQ f t S = none → idxQ f t (S ++ [x]) = some S.length
  | [], _ => by simp [idxQ, hx]
  | y :: r, h => by
    unfold idxQ at h
    split at h
    · cases h
    · rename_i hc
      rw [List.cons_append]
      unfold idxQ
      rw [if_neg hc, idxQ_snoc_new hx (by simpa using h)]
      rfl
theorem idxQ_set {f t : ByteArray} {y : Pq} : ∀ {S : List Pq} {i : Nat} {x : Pq}, S[i]? = some x → y.fr = x.fr → y.tt = x.tt → idxQ f t (S.set i y) = idxQ f t S
  | [], i, x, h, _, _ => by simp at h
  | z :: r, 0, x, h, h1, h2 => by
    obtain rfl : z = x := by simpa using h
    rw [List.set_cons_zero]
    unfold idxQ
    rw [h1, h2]
  | z :: r, i + 1, x, h, h1, h2 => by
    rw [List.set_cons_succ]
    unfold idxQ
    rw [idxQ_set (by simpa using h) h1 h2]
/-- in fit pipes a pipe stands where it is found -/
theorem idxQ_at {f t : ByteArray} : ∀ {S : List Pq}, S.Pairwise (fun x y => ¬ (x.fr = y.fr ∧ x.tt = y.tt)) → ∀ {i : Nat} {x : Pq}, S[i]? = some x → x.fr = f → x.tt = t → idxQ f t S = some i
  | [], _, i, x, h, _, _ => by simp at h
  | z :: r, hp, 0, x, h, h1, h2 => by
    obtain rfl : z = x := by simpa using h
    unfold idxQ
    rw [if_pos ⟨h1, h2⟩]
  | z :: r, hp, i + 1, x, h, h1, h2 => by
    obtain ⟨p1, p2⟩ := List.pairwise_cons.1 hp
    have hx : x ∈ r := List.mem_of_getElem? (by simpa using h)
    unfold idxQ
    rw [if_neg (by rw [← h1, ← h2]; exact p1 x hx), idxQ_at p2 (by simpa using h) h1 h2]
    rfl
/-- what becomes of pipes, and the answer -/
def sendQ (S : List Pq) (f t : ByteArray) (b : List UInt8) : List Pq × Int :=
  match idxQ f t S with
  | none => (S, 52)
  | some i => match S[i]? with
    | none => (S, 52)
    | some x => if 65536 < b.length then (S, 53) else if x.l.length = x.most then (S, 51) else (S.set i { x with l := x.l ++ [b] }, 0)
def takeQ (S : List Pq) (f t : ByteArray) : List Pq × List UInt8 × Int :=
  match idxQ f t S with
  | none => (S, [], 52)
  | some i => match S[i]? with
    | none => (S, [], 52)
    | some x => match x.l with
      | [] => (S, [], 54)
      | b :: r => (S.set i { x with l := r }, b, 0)
def lenQ (S : List Pq) (f t : ByteArray) : Nat := match idxQ f t S with
  | none => 0
  | some i => match S[i]? with
    | none => 0
    | some x => x.l.length
def roomQ (S : List Pq) (f t : ByteArray) : Nat := match idxQ f t S with
  | none => 0
  | some i => match S[i]? with
    | none => 0
    | some x => x.most - x.l.length
theorem set_pair {S : List Pq} {i : Nat} {x y : Pq} (h : S.Pairwise (fun x y => ¬ (x.fr = y.fr ∧ x.tt = y.tt))) (hx : S[i]? = some x) (h1 : y.fr = x.fr) (h2 : y.tt = x.tt) : (S.set i y).Pairwise (fun x y => ¬ (x.fr = y.fr ∧ x.tt = y.tt)) := by
  induction S generalizing i with
  | nil => simp at hx
  | cons z r ih =>
    obtain ⟨p1, p2⟩ := List.pairwise_cons.1 h
    cases i with
    | zero =>
      obtain rfl : z = x := by simpa using hx
      rw [List.set_cons_zero]
      refine List.pairwise_cons.2 ⟨fun a ha => ?_, p2⟩
      rw [h1, h2]
      exact p1 a ha
    | succ i =>
      have hx' : r[i]? = some x := by simpa using hx
      rw [List.set_cons_succ]
      refine List.pairwise_cons.2 ⟨fun a ha => ?_, ih p2 hx'⟩
      rcases List.mem_or_eq_of_mem_set ha with ha | rfl
      · exact p1 a ha
      · rw [h1, h2]; exact p1 x (List.mem_of_getElem? hx')
theorem okQ_set {S : List Pq} {i : Nat} {x y : Pq} (h : okQ S) (hx : S[i]? = some x) (h1 : y.fr = x.fr) (h2 : y.tt = x.tt) (hy : okP y) : okQ (S.set i y) :=
  ⟨set_pair h.1 hx h1 h2, fun a ha => by
    rcases List.mem_or_eq_of_mem_set ha with ha | rfl
    · exact h.2 a ha
    · exact hy⟩
/-! ### whose a block is -/
/-- the blocks whose mark is not among cl are as they were, and so are their marks -/
structure Turn (cl : Nat × Nat → Prop) (w w' : World) (own own' : Nat → Nat × Nat) : Prop where
  os : w'.os = w.os
  tape : w'.tape = w.tape
  output : w'.output = w.output
  size : w.heap.size ≤ w'.heap.size
  block : ∀ k, k < w.heap.size → ¬ cl (own k) → w'.heap[k]? = w.heap[k]?
  mark : ∀ k, k < w.heap.size → ¬ cl (own k) → own' k = own k
section
variable {cl : Nat × Nat → Prop} {w w' w'' : World} {own own' own'' : Nat → Nat × Nat}
theorem Turn.refl (cl : Nat × Nat → Prop) (w : World) (own : Nat → Nat × Nat) : Turn cl w w own own := ⟨rfl, rfl, rfl, Nat.le_refl _, fun _ _ _ => rfl, fun _ _ _ => rfl⟩
theorem Turn.trans (h : Turn cl w w' own own') (h' : Turn cl w' w'' own' own'') : Turn cl w w'' own own'' :=
  ⟨h'.os.trans h.os, h'.tape.trans h.tape, h'.output.trans h.output, Nat.le_trans h.size h'.size,
    fun k hk hc => (h'.block k (Nat.lt_of_lt_of_le hk h.size) (by rw [h.mark k hk hc]; exact hc)).trans (h.block k hk hc),
    fun k hk hc => (h'.mark k (Nat.lt_of_lt_of_le hk h.size) (by rw [h.mark k hk hc]; exact hc)).trans (h.mark k hk hc)⟩
theorem Turn.mono {cl' : Nat × Nat → Prop} (h : Turn cl w w' own own') (hc : ∀ t, cl t → cl' t) : Turn cl' w w' own own' :=
  ⟨h.os, h.tape, h.output, h.size, fun k hk hn => h.block k hk fun hx => hn (hc _ hx), fun k hk hn => h.mark k hk fun hx => hn (hc _ hx)⟩
/-- new blocks alone -/
theorem Turn.of_below (h : Below w.heap.size w w') (hm : ∀ k, k < w.heap.size → own' k = own k) : Turn cl w w' own own' :=
  ⟨h.os, h.tape, h.output, h.size, fun k hk _ => h.block k hk, fun k hk _ => hm k hk⟩
/-- what is nobody's stays -/
theorem Turn.below (h : Turn cl w w' own own') {B : Nat} (hB : B ≤ w.heap.size) (hz : ∀ k, k < B → own k = (0, 0)) (hc : ¬ cl (0, 0)) : Below B w w' :=
  ⟨h.os, h.tape, h.output, h.size, fun k hk => h.block k (Nat.lt_of_lt_of_le hk hB) (by rw [hz k hk]; exact hc)⟩
theorem Turn.zero (h : Turn cl w w' own own') {B : Nat} (hB : B ≤ w.heap.size) (hz : ∀ k, k < B → own k = (0, 0)) (hc : ¬ cl (0, 0)) : ∀ k, k < B → own' k = (0, 0) := fun k hk => by
  rw [h.mark k (Nat.lt_of_lt_of_le hk hB) (by rw [hz k hk]; exact hc), hz k hk]
theorem Turn.drewN (h : Turn cl w w' own own') (n : Nat) : Turn cl w (w'.drewN n) own own' := ⟨h.os, h.tape, h.output, h.size, h.block, h.mark⟩
end
theorem ownsMap_same {P : Program} {k : TypeId} {R : Value → Option (DataW Unit × List MemPlace)} {w w' : World} {b n : Nat} {D : DataW Unit} (h : w.ownsMap P k R b n D) (he : w'.heap[b]? = w.heap[b]?) : w'.ownsMap P k R b n D := by
  obtain ⟨es, clock, hb, F, hs, hD⟩ := h
  exact ⟨es, clock, he.trans hb, F, hs, hD⟩
/-! ### in memory -/
/-- the block of a slice that is not empty -/
def msgBlk : Value → Option Nat
  | .slice (some a) (_ + 1) _ => some a.block
  | _ => none
/-- a message of pipe i -/
def Ms (w : World) (own : Nat → Nat × Nat) (i : Nat) (v : Value) (l : List UInt8) : Prop := OwnV w 0 v l ∧ ∀ b, msgBlk v = some b → own b = (4, i) ∧ b < w.heap.size
def Apart (u v : Value) : Prop := ∀ b, msgBlk u = some b → msgBlk v ≠ some b
/-- messages of pipe i, each in a block of its own -/
def MsL (w : World) (own : Nat → Nat × Nat) (i : Nat) (xs : List Value) (L : List (List UInt8)) : Prop :=
  xs.length = L.length ∧ (∀ (j : Nat) (v : Value) (l : List UInt8), xs[j]? = some v → L[j]? = some l → Ms w own i v l) ∧ xs.Pairwise Apart
/-- pipe i, in block q -/
def QSt (w : World) (own : Nat → Nat × Nat) (i q : Nat) (x : Pq) : Prop :=
  own q = (2, i) ∧ ∃ v g xs, Blk w q 53 #[.int .i64 (x.most : Int), v] ∧ OwnX 1 w g v xs ∧ (∀ b, g = some b → own b = (3, i)) ∧ MsL w own i xs x.l
/-- what the map says of the pipes, which lie in the blocks qs -/
def MapV (D : DataW Unit) (S : List Pq) (qs : List Nat) : Prop :=
  ∀ f t : ByteArray, f.size ≤ maxLen → t.size ≤ maxLen → (idxQ f t S = none → Maps.has D (kE f t) = false) ∧
    ∀ i q, idxQ f t S = some i → qs[i]? = some q → Maps.has D (kE f t) = true ∧ ∀ z, D.atKey (kE f t) z = .lit (.int .i64 (q : Int))
/-- all the pipes, behind the pointer to block pb -/
def PSt (w : World) (own : Nat → Nat × Nat) (pb : Nat) (S : List Pq) : Prop :=
  ∃ mb n D qs, Blk w pb 44 #[.map (some mb)] ∧ own pb = (1, 0) ∧ own mb = (1, 1) ∧ w.ownsMap Tryd.prog 46 ptrElem mb n D ∧ n = S.length ∧ qs.length = S.length ∧ okQ S ∧ MapV D S qs ∧
    ∀ i q x, qs[i]? = some q → S[i]? = some x → QSt w own i q x
section
variable {w w' : World} {own own' : Nat → Nat × Nat} {i q pb : Nat} {x : Pq} {S : List Pq}
theorem OwnV.sameB {base : Nat} {v : Value} {l : List UInt8} (h : OwnV w base v l) (hs : w.heap.size ≤ w'.heap.size) (hk : ∀ g, msgBlk v = some g → w'.heap[g]? = w.heap[g]?) : OwnV w' base v l := by
  obtain ⟨A, c, rfl, h1, h2, h3⟩ := h
  refine ⟨A, c, rfl, h1, h2, ?_⟩
  rcases h3 with h3 | ⟨g, off, rfl, hb, hg, hc⟩
  · exact .inl h3
  · cases l with
    | nil => exact .inl rfl
    | cons x l =>
      have e := hk g rfl
      refine .inr ⟨g, off, rfl, hb, Nat.lt_of_lt_of_le hg hs, fun i hi => ?_⟩
      rw [World.cell?_of_block (w := w) e, World.frozen?_of_block (w := w) e]
      exact hc i hi
theorem Ms.keep {v : Value} {l : List UInt8} (h : Ms w own i v l) (hs : w.heap.size ≤ w'.heap.size) (hk : ∀ k, k < w.heap.size → own k = (4, i) → w'.heap[k]? = w.heap[k]? ∧ own' k = own k) : Ms w' own' i v l :=
  ⟨h.1.sameB hs fun g hg => (hk g (h.2 g hg).2 (h.2 g hg).1).1, fun b hb => by rw [(hk b (h.2 b hb).2 (h.2 b hb).1).2]; exact ⟨(h.2 b hb).1, Nat.lt_of_lt_of_le (h.2 b hb).2 hs⟩⟩
theorem MsL.keep {xs : List Value} {L : List (List UInt8)} (h : MsL w own i xs L) (hs : w.heap.size ≤ w'.heap.size) (hk : ∀ k, k < w.heap.size → own k = (4, i) → w'.heap[k]? = w.heap[k]? ∧ own' k = own k) : MsL w' own' i xs L :=
  ⟨h.1, fun j v l hj hl => (h.2.1 j v l hj hl).keep hs hk, h.2.2⟩
theorem QSt.keep (h : QSt w own i q x) (hs : w.heap.size ≤ w'.heap.size) (hk : ∀ k, k < w.heap.size → (own k = (2, i) ∨ own k = (3, i) ∨ own k = (4, i)) → w'.heap[k]? = w.heap[k]? ∧ own' k = own k) : QSt w' own' i q x := by
  obtain ⟨h0, v, g, xs, h1, h2, h3, h4⟩ := h
  have hq := hk q h1.lt (.inl h0)
  refine ⟨by rw [hq.2]; exact h0, v, g, xs, ?_, h2.same hs fun b hb => (hk b (h2.lt hb) (.inr (.inl (h3 b hb)))).1, fun b hb => ?_, h4.keep hs fun k hl hk' => hk k hl (.inr (.inr hk'))⟩
  · unfold Blk at h1 ⊢; rw [hq.1]; exact h1
  · rw [(hk b (h2.lt hb) (.inr (.inl (h3 b hb)))).2]; exact h3 b hb
/-- all stays where the pipes' own blocks do -/
theorem PSt.turn {cl : Nat × Nat → Prop} (h : PSt w own pb S) (ht : Turn cl w w' own own') (hc : ∀ t : Nat × Nat, 1 ≤ t.1 → t.1 ≤ 4 → ¬ cl t) : PSt w' own' pb S := by
  obtain ⟨mb, n, D, qs, h1, h2, h3, h4, h5, h6, h7, h8, h9⟩ := h
  have e1 := ht.block pb h1.lt (by rw [h2]; exact hc _ (by decide) (by decide))
  have e2 := ht.block mb h4.lt (by rw [h3]; exact hc _ (by decide) (by decide))
  refine ⟨mb, n, D, qs, ?_, ?_, ?_, ownsMap_same h4 e2, h5, h6, h7, h8, fun i q x hq hx => (h9 i q x hq hx).keep ht.size fun k hl hk => ?_⟩
  · unfold Blk at h1 ⊢; rw [e1]; exact h1
  · rw [ht.mark pb h1.lt (by rw [h2]; exact hc _ (by decide) (by decide))]; exact h2
  · rw [ht.mark mb h4.lt (by rw [h3]; exact hc _ (by decide) (by decide))]; exact h3
  · have hn : ¬ cl (own k) := by
      rcases hk with hk | hk | hk <;> (rw [hk]; exact hc _ (by simp) (by simp))
    exact ⟨ht.block k hl hn, ht.mark k hl hn⟩
theorem PSt.below (h : PSt w own pb S) (hb : Below w.heap.size w w') : PSt w' own pb S :=
  h.turn (cl := fun _ => False) (Turn.of_below hb fun _ _ => rfl) fun _ _ _ h => h
end
end Go.Proofs.YtihhadgkcdkemaaDoor
