/-
  Several texts in one: App2, Wri, Utf, RLow. Conditions: each part names its own.
-/
import Derived.Test.YtjnjnccfojfghaaGreatDoorMg1
import Derived.Lib.TrimUEq
import Derived.Lib.MapLaws
import Derived.Lib.FieldsP
import Derived.Laws.RangeAny
import Derived.Test.YtjnjnccfojfghaaGreatDoorProg
import Derived.Lib.ConvBytes
set_option linter.unusedSimpArgs false
/-! append onto one of several rows that the call owns: what it leaves as it is; rows of numbers; over any program. No condition but the sizes. -/
namespace Go.Proofs.YtjnjnccfojfghaaGreatDoor
open Go.RowKit
set_option linter.unusedVariables false

section
variable {P : Program} (w : World)
theorem wpList_appBg {ops : Array Oper} {rest : List Oper} {o : Oper} {a : Act} {Q : Exit → Act → World → Prop} {t E : TypeId} (hU : U8 P t E) (s x : Operand)
    (ho : o.op = .call { callee := .builtin .append, args := #[s, x], argTypes := #[t, t] }) (hgd : o.guard = none)
    (base : Nat) {v : Value} {l k : List UInt8} (hs : a.eval s = v) (hown : OwnB w base E v l) {B : Nat} {A : Option Addr} (m c : Nat) (hx : a.eval x = .slice A m c) (hm : m = k.length) (hr : RB w B A k)
    (hbytes : l.length + k.length ≤ 200000000000000) (hbase : base ≤ w.heap.size)
    (h : ∀ v' w', OwnB w' base E v' (l ++ k) → w.grownBy w' v.ownBlock → wpList P ops Q rest (a.put o.dst v') w') : wpList P ops Q (o :: rest) a w := by
  subst hm
  refine wpList_plain hgd fun K hK => ?_
  obtain ⟨v', w', hrun, h2, h3⟩ := run_appB (P := P) w hU base o.type hown c hr hbytes hbase
  unfold Oper.wp execOp
  simp only [ho, resolve, invoke, builtin, Sem.run_bind, Sem.run_pure, Result.andThen_ok, List.map_toArray, List.map_cons, List.map_nil, hs, hx, hrun]
  exact hK _ _ (h v' w' h2 h3)
theorem wpList_appSg {ops : Array Oper} {rest : List Oper} {o : Oper} {a : Act} {Q : Exit → Act → World → Prop} {t E u : TypeId} (hU : U8 P t E) (hu : P.underlying u = some .string) (s x : Operand)
    (ho : o.op = .call { callee := .builtin .append, args := #[s, x], argTypes := #[t, u] }) (hgd : o.guard = none)
    (base : Nat) {v : Value} {l : List UInt8} (hs : a.eval s = v) (hown : OwnB w base E v l) (tx : ByteArray) (hx : a.eval x = .string tx)
    (hbytes : l.length + tx.size ≤ 140737488355328) (hbase : base ≤ w.heap.size)
    (h : ∀ v' w', OwnB w' base E v' (l ++ tx.data.toList) → w.grownBy w' v.ownBlock → wpList P ops Q rest (a.put o.dst v') w') : wpList P ops Q (o :: rest) a w := by
  refine wpList_plain hgd fun K hK => ?_
  obtain ⟨v', w', hrun, h2, h3⟩ := run_appS (P := P) w hU hu base o.type hown tx hbytes hbase
  unfold Oper.wp execOp
  simp only [ho, resolve, invoke, builtin, Sem.run_bind, Sem.run_pure, Result.andThen_ok, List.map_toArray, List.map_cons, List.map_nil, hs, hx, hrun]
  exact hK _ _ (h v' w' h2 h3)
theorem wpList_appVg {ops : Array Oper} {rest : List Oper} {o : Oper} {a : Act} {Q : Exit → Act → World → Prop} {t E : TypeId} (hU : UE P t E) (s x : Operand)
    (ho : o.op = .call { callee := .builtin .append, args := #[s, x], argTypes := #[t, t] }) (hgd : o.guard = none)
    (base : Nat) {v : Value} {n : Nat} {xs : List Value} (hs : a.eval s = v) (hown : w.ownsRow base E 1 v n xs) (ad : Addr) (m c : Nat) (hx : a.eval x = .slice (some ad) m c) (news : List Value) (hl : news.length = m)
    (hnews : ∀ j u, news[j]? = some u → w.cell? (ad.add j) = some u) (h1 : ∀ u ∈ news, u.oneCell' = true) (hbytes : n + m ≤ 1000000000000) (hbase : base ≤ w.heap.size)
    (h : ∀ v' w', w'.ownsRow base E 1 v' (n + m) (xs ++ news) → w.grownBy w' v.ownBlock → wpList P ops Q rest (a.put o.dst v') w') : wpList P ops Q (o :: rest) a w := by
  refine wpList_plain hgd fun K hK => ?_
  obtain ⟨v', w', hrun, h2, h3⟩ := run_appV (P := P) w hU base o.type hown ad m c news hl hnews h1 hbytes hbase
  unfold Oper.wp execOp
  simp only [ho, resolve, invoke, builtin, Sem.run_bind, Sem.run_pure, Result.andThen_ok, List.map_toArray, List.map_cons, List.map_nil, hs, hx, hrun]
  exact hK _ _ (h v' w' h2 h3)
end
/-- rows of two types are two rows -/
theorem own_ne {w : World} {b1 b2 E1 E2 s1 s2 n1 n2 : Nat} {v1 v2 : Value} {x1 x2 : List Value} (h1 : w.ownsRow b1 E1 s1 v1 n1 x1) (h2 : w.ownsRow b2 E2 s2 v2 n2 x2) (hne : E1 ≠ E2) : v1.ownBlock = none ∨ v1.ownBlock ≠ v2.ownBlock := by
  rcases h1.2 with ⟨rfl, _⟩ | ⟨g, cap, cur, rfl, _, hg, _⟩
  · exact .inl rfl
  · refine .inr fun e => ?_
    rcases h2.2 with ⟨rfl, _⟩ | ⟨g', cap', cur', rfl, _, hg', _⟩
    · simp [Value.ownBlock] at e
    · simp only [Value.ownBlock, Option.some.injEq] at e
      subst e
      rw [hg] at hg'
      injection hg' with hg'
      injection hg' with _ ht
      exact hne ht
/-- a row below whose block a thing lies -/
theorem own_base {w : World} {b E s n k : Nat} {v : Value} {x : List Value} (h : w.ownsRow b E s v n x) (hk : k < b) : some k ≠ v.ownBlock := fun e => by
  have := (World.ownsRow.lt h k e.symm).1; omega
theorem Blk.own {w w' : World} {g t : Nat} {cs : Array Value} {b E s n : Nat} {v : Value} {x : List Value} (h : Blk w g t cs) (hw : w.ownsRow b E s v n x) (hg : w.grownBy w' v.ownBlock) (hb : g < b) : Blk w' g t cs :=
  h.grown hg (own_base hw hb)
theorem below_of_own {w w' : World} {b E s n : Nat} {v : Value} {x : List Value} (h : w.ownsRow b E s v n x) (hg : w.grownBy w' v.ownBlock) (hb : b ≤ w.heap.size) : Below b w w' :=
  ⟨hg.os, hg.tape, hg.output, hg.size, fun k hk => hg.block k (by omega) (fun e => by have := (World.ownsRow.lt h k e.symm).1; omega)⟩
theorem OwnB.far {w : World} {base E : Nat} {v : Value} {l : List UInt8} (h : OwnB w base E v l) {p : Addr} (hp : p.block < base) (u : Value) : OwnB (w.setCell p u) base E v l := by
  refine h.kept (row := some p.block) ⟨rfl, rfl, rfl, by simp, fun i hi hne => Below.heap_setCell w p u i (fun e => hne (by rw [e]))⟩ ?_
  by_cases hb : v.ownBlock = some p.block
  · have := (World.ownsRow.lt h _ hb).1; omega
  · exact .inr hb
/-- a row that is younger than another -/
theorem own_young {w w1 : World} {b1 b2 E1 E2 s1 s2 n1 n2 : Nat} {v1 v2 : Value} {x1 x2 : List Value} (h1 : w1.ownsRow b1 E1 s1 v1 n1 x1) (h2 : w.ownsRow b2 E2 s2 v2 n2 x2) (hb : w.heap.size ≤ b1) : v1.ownBlock = none ∨ v1.ownBlock ≠ v2.ownBlock := by
  rcases h1.2 with ⟨rfl, _⟩ | ⟨g, cap, cur, rfl, hg, _⟩
  · exact .inl rfl
  · refine .inr fun e => ?_
    have := (World.ownsRow.lt h2 g e.symm).2
    omega
theorem OwnB.rb {w : World} {base E n c : Nat} {A : Option Addr} {l : List UInt8} (h : OwnB w base E (.slice A n c) l) : RB w w.heap.size A l := by
  obtain ⟨A', c', e, _, _, hr⟩ := h.out
  injection e with e1
  subst e1
  exact hr
theorem OwnB.sl {w : World} {base E : Nat} {v : Value} {l : List UInt8} (h : OwnB w base E v l) : ∃ A n c, v = .slice A n c := by
  obtain ⟨A, c, e, _⟩ := h.out
  exact ⟨A, _, c, e⟩
/-- v owns a row of numbers -/
def OwnI (w : World) (base E : Nat) (v : Value) (L : List Int) : Prop := w.ownsRow base E 1 v L.length (L.map (Value.int .i64))
theorem OwnI.nil (w : World) (base E : Nat) : OwnI w base E (.slice none 0 0) [] := World.ownsRow_nil w base E 1
theorem OwnI.alloc {w : World} {base E : Nat} {v : Value} {L : List Int} (h : OwnI w base E v L) (o : Obj) : OwnI (w.alloc o) base E v L := World.ownsRow.alloc h o
theorem OwnI.kept {w w' : World} {base E : Nat} {v : Value} {L : List Int} {row : Option Nat} (h : OwnI w base E v L) (hg : w.grownBy w' row) (hne : v.ownBlock = none ∨ v.ownBlock ≠ row) : OwnI w' base E v L := World.ownsRow.kept h hg hne
theorem OwnI.below {w w' : World} {base E : Nat} {v : Value} {L : List Int} (h : OwnI w base E v L) (hb : Below w.heap.size w w') : OwnI w' base E v L :=
  h.kept (grownBy_of_below hb none) (by cases v.ownBlock <;> simp)
theorem OwnI.far {w : World} {base E : Nat} {v : Value} {L : List Int} (h : OwnI w base E v L) {p : Addr} (hp : p.block < base) (u : Value) : OwnI (w.setCell p u) base E v L := by
  refine h.kept (row := some p.block) ⟨rfl, rfl, rfl, by simp, fun i hi hne => Below.heap_setCell w p u i (fun e => hne (by rw [e]))⟩ ?_
  by_cases hb : v.ownBlock = some p.block
  · have := (World.ownsRow.lt h _ hb).1; omega
  · exact .inr hb
theorem OwnI.form {w : World} {base E : Nat} {v : Value} {L : List Int} (h : OwnI w base E v L) :
    ∃ A c, v = .slice A L.length c ∧ L.length ≤ c ∧ c ≤ maxLen ∧ ∀ i (hi : i < L.length), ∃ g, A = some ⟨g, 0, none⟩ ∧ base ≤ g ∧ g < w.heap.size ∧ w.cell? ⟨g, i, none⟩ = some (.int .i64 L[i]) ∧ w.frozen? ⟨g, i, none⟩ = false := by
  rcases h.2 with ⟨rfl, h0⟩ | ⟨g, cap, cur, rfl, hb, hg, hc, hm, hs, ht⟩
  · have : L = [] := List.eq_nil_of_length_eq_zero h0
    subst this
    exact ⟨none, 0, rfl, Nat.le_refl _, by simp [maxLen], fun i hi => absurd hi (by simp)⟩
  · refine ⟨some ⟨g, 0, none⟩, cap, rfl, hc, hm, fun i hi => ⟨g, rfl, hb, (Array.getElem?_eq_some_iff.1 hg).1, ?_, World.ownsRow.frozenAt h i⟩⟩
    have := World.ownsRow.cells h (g := g) rfl i (.int .i64 L[i]) (by simp [hi])
    simpa [Addr.add_lit] using this
end Go.Proofs.YtjnjnccfojfghaaGreatDoor

/-! A slice of bytes in a block of the call's own that may be written; over any program. No condition. -/
namespace Go.Proofs.YtjnjnccfojfghaaGreatDoor
open Go.RowKit
set_option linter.unusedVariables false
/-- v reads as l, in a block from base on whose bytes may be written -/
def OwnW (w : World) (base : Nat) (v : Value) (l : List UInt8) : Prop :=
  ∃ A c, v = .slice A l.length c ∧ l.length ≤ c ∧ c ≤ maxLen ∧ (l = [] ∨ ∃ g, A = some ⟨g, 0, none⟩ ∧ base ≤ g ∧ g < w.heap.size ∧ ∀ i, i < l.length → w.cell? ⟨g, i, none⟩ = some (.int .u8 (bt l i)) ∧ w.frozen? ⟨g, i, none⟩ = false)
section
variable {w w' : World} {base base' : Nat} {v : Value} {l : List UInt8}
theorem OwnW.out (h : OwnW w base v l) : Out w v l := by
  obtain ⟨A, c, rfl, h1, h2, h3⟩ := h
  refine ⟨A, c, rfl, h1, h2, ?_⟩
  rcases h3 with h3 | ⟨g, rfl, _, hg, hc⟩
  · exact .inl h3
  · exact .inr ⟨g, 0, rfl, hg, fun i hi => by rw [Nat.zero_add]; exact (hc i hi).1⟩
theorem OwnW.blocks (h : OwnW w base v l) (hs : w.heap.size ≤ w'.heap.size) (hk : ∀ g, v.ownBlock = some g → w'.heap[g]? = w.heap[g]?) : OwnW w' base v l := by
  obtain ⟨A, c, rfl, h1, h2, h3⟩ := h
  refine ⟨A, c, rfl, h1, h2, ?_⟩
  rcases h3 with h3 | ⟨g, rfl, hb, hg, hc⟩
  · exact .inl h3
  · have e := hk g rfl
    refine .inr ⟨g, rfl, hb, by omega, fun i hi => ?_⟩
    have := hc i hi
    simp only [World.cell?, World.frozen?] at this ⊢
    rw [e]
    exact this
theorem OwnW.lt (h : OwnW w base v l) (hl : 0 < l.length) : ∃ g c, v = .slice (some ⟨g, 0, none⟩) l.length c ∧ l.length ≤ c ∧ c ≤ maxLen ∧ base ≤ g ∧ g < w.heap.size ∧ ∀ i, i < l.length → w.cell? ⟨g, i, none⟩ = some (.int .u8 (bt l i)) ∧ w.frozen? ⟨g, i, none⟩ = false := by
  obtain ⟨A, c, rfl, h1, h2, h3⟩ := h
  rcases h3 with h3 | ⟨g, rfl, hb, hg, hc⟩
  · subst h3; simp at hl
  · exact ⟨g, c, rfl, h1, h2, hb, hg, hc⟩
theorem OwnW.nilv (h : OwnW w base v []) (w' : World) (base' : Nat) : OwnW w' base' v [] := by
  obtain ⟨A, c, rfl, h1, h2, h3⟩ := h
  exact ⟨A, c, rfl, h1, h2, .inl rfl⟩
theorem OwnW.mono (h : OwnW w base v l) (hb : base' ≤ base) : OwnW w base' v l := by
  obtain ⟨A, c, rfl, h1, h2, h3⟩ := h
  refine ⟨A, c, rfl, h1, h2, ?_⟩
  rcases h3 with h3 | ⟨g, rfl, hb', hg, hc⟩
  · exact .inl h3
  · exact .inr ⟨g, rfl, by omega, hg, hc⟩
theorem OwnW.below (h : OwnW w base v l) (hb : Below w.heap.size w w') : OwnW w' base v l := by
  obtain ⟨A, c, rfl, h1, h2, h3⟩ := h
  refine ⟨A, c, rfl, h1, h2, ?_⟩
  rcases h3 with h3 | ⟨g, rfl, hb', hg, hc⟩
  · exact .inl h3
  · refine .inr ⟨g, rfl, hb', Nat.lt_of_lt_of_le hg hb.size, fun i hi => ?_⟩
    have := hc i hi
    simp only [World.cell?, World.frozen?] at this ⊢
    rw [hb.block g hg]
    exact this
/-- another block alone is written -/
theorem OwnW.only {k : Nat} (h : OwnW w base v l) (ho : Only k w w') (hk : k < base) : OwnW w' base v l := by
  obtain ⟨A, c, rfl, h1, h2, h3⟩ := h
  refine ⟨A, c, rfl, h1, h2, ?_⟩
  rcases h3 with h3 | ⟨g, rfl, hb', hg, hc⟩
  · exact .inl h3
  · refine .inr ⟨g, rfl, hb', Nat.lt_of_lt_of_le hg ho.size, fun i hi => ?_⟩
    have := hc i hi
    simp only [World.cell?, World.frozen?] at this ⊢
    rw [ho.block g hg (fun e => by injection e; omega)]
    exact this
theorem OwnW.far (h : OwnW w base v l) {p : Addr} (hp : p.block < base) (u : Value) : OwnW (w.setCell p u) base v l :=
  h.only (k := p.block) ⟨rfl, rfl, rfl, by simp, fun i hi hne => Below.heap_setCell w p u i (fun e => hne (by rw [e]))⟩ hp
theorem OwnW.of_own {E : Nat} (h : OwnB w base E v l) : OwnW w base v l := by
  rcases Nat.eq_zero_or_pos l.length with h0 | h0
  · obtain rfl := List.eq_nil_of_length_eq_zero h0
    obtain ⟨A, c, rfl, h1, h2, _⟩ := h.out
    exact ⟨A, c, rfl, h1, h2, .inl rfl⟩
  · obtain ⟨g, c, rfl, h1, h2, h3, h4⟩ := h.form h0
    exact ⟨_, c, rfl, h3, h4, .inr ⟨g, rfl, h1, h2, fun i hi => ⟨h.cell hi, h.free i⟩⟩⟩
end
theorem OwnW.conv (w : World) (e : TypeId) (s : ByteArray) (base : Nat) (hs : s.size ≤ maxLen) (hb : base ≤ w.heap.size) :
    OwnW (Lib.bytesWorld w e s) base (.slice (some ⟨w.heap.size, 0, none⟩) s.size (grownCap w s.size 0 e)) s.data.toList := by
  refine ⟨_, _, rfl, grownCap_ge w _ _ _, grownCap_le_maxLen w _ _ _ hs, .inr ⟨w.heap.size, rfl, hb, by rw [Lib.bytesWorld_size]; omega, fun i hi => ?_⟩⟩
  have hc := Lib.bytesWorld_cell w e s i (by rw [size_len]; exact hi)
  refine ⟨hc, ?_⟩
  have hn := Lib.bytesWorld_at_new w e s
  simp only [World.cell?, World.frozen?] at hc ⊢
  rw [hn] at hc ⊢
  simp only [Option.isSome_none, Bool.false_eq_true, if_false] at hc
  have := (Array.getElem?_eq_some_iff.1 hc).1
  simp
  omega
end Go.Proofs.YtjnjnccfojfghaaGreatDoor

/-! Texts by their bytes and by their runes: a predicate on ASCII cuts both alike; lower letters. No program in sight. No condition. -/
namespace Go.Proofs.YtjnjnccfojfghaaGreatDoor
set_option linter.unusedVariables false

theorem decodeN_cont (n b0 b1 b2 b3 j : Nat) (h1 : 1 ≤ j) (h2 : j < (Lib.decodeN n b0 b1 b2 b3).2) :
    j < n ∧ ((j = 1 ∧ 128 ≤ b1) ∨ (j = 2 ∧ 128 ≤ b2) ∨ (j = 3 ∧ 128 ≤ b3)) := by
  unfold Lib.decodeN at h2
  split at h2
  · simp only [] at h2; omega
  split at h2
  · split at h2
    · simp only [] at h2; omega
    · simp only [] at h2; omega
  split at h2
  · split at h2
    · simp only [] at h2; omega
    · simp only [] at h2; omega
  split at h2
  · split at h2
    · simp only [] at h2; omega
    · simp only [] at h2; omega
  · simp only [] at h2; omega
/-- the bytes of a rune behind its first one are no ASCII -/
theorem cont_hi (s : ByteArray) (pos j : Nat) (h1 : 1 ≤ j) (h2 : j < (Utf8.decode s pos).2) : pos + j < s.size ∧ 128 ≤ (s.data.toList.getD (pos + j) 0).toNat := by
  rw [Lib.decode_N] at h2
  obtain ⟨h3, h4⟩ := decodeN_cont _ _ _ _ _ j h1 h2
  refine ⟨by rw [Lib.size_eq]; omega, ?_⟩
  rcases h4 with ⟨rfl, h⟩ | ⟨rfl, h⟩ | ⟨rfl, h⟩ <;> exact h
theorem width_one (s : ByteArray) (pos : Nat) : 1 ≤ (Utf8.decode s pos).2 := Lib.width_pos s pos
/-- spans by bytes: what stands between the bytes that q has -/
def spB (q : UInt8 → Bool) : List UInt8 → Nat → Option Nat → List (Nat × Nat) → List (Nat × Nat) × Option Nat
  | [], _, st, acc => (acc, st)
  | c :: r, pos, st, acc => if q c then (match st with
      | some a => spB q r (pos + 1) none (acc ++ [(a, pos)])
      | none => spB q r (pos + 1) none acc) else spB q r (pos + 1) (some (st.getD pos)) acc
theorem spB_no {q : UInt8 → Bool} {c : UInt8} (h : q c = false) (r : List UInt8) (pos : Nat) (st : Option Nat) (acc : List (Nat × Nat)) : spB q (c :: r) pos st acc = spB q r (pos + 1) (some (st.getD pos)) acc := by
  rw [spB.eq_def]; simp [h]
theorem spB_end {q : UInt8 → Bool} {c : UInt8} (h : q c = true) (r : List UInt8) (pos a : Nat) (acc : List (Nat × Nat)) : spB q (c :: r) pos (some a) acc = spB q r (pos + 1) none (acc ++ [(a, pos)]) := by
  rw [spB.eq_def]; simp [h]
theorem spB_sep {q : UInt8 → Bool} {c : UInt8} (h : q c = true) (r : List UInt8) (pos : Nat) (acc : List (Nat × Nat)) : spB q (c :: r) pos none acc = spB q r (pos + 1) none acc := by
  rw [spB.eq_def]; simp [h]
theorem spB_run (q : UInt8 → Bool) : ∀ (m : List UInt8) (r : List UInt8) (pos a : Nat) (acc : List (Nat × Nat)), (∀ c ∈ m, q c = false) → spB q (m ++ r) pos (some a) acc = spB q r (pos + m.length) (some a) acc
  | [], r, pos, a, acc, h => by simp
  | c :: m, r, pos, a, acc, h => by
    rw [List.cons_append, spB_no (h c (by simp)), Option.getD_some, spB_run q m r (pos + 1) a acc (fun c hc => h c (by simp [hc]))]
    congr 1
    simp; omega
theorem getD_at (s : ByteArray) {pos : Nat} (h : pos < s.size) : s.data.toList.getD pos 0 = s[pos] := by
  have hl : pos < s.data.toList.length := by rw [← Lib.size_eq]; exact h
  rw [List.getD_eq_getElem?_getD, List.getElem?_eq_getElem hl]
  rfl
theorem drop_at (s : ByteArray) {pos : Nat} (h : pos < s.size) : s.data.toList.drop pos = s[pos] :: s.data.toList.drop (pos + 1) := by
  have hl : pos < s.data.toList.length := by rw [← Lib.size_eq]; exact h
  rw [List.drop_eq_getElem_cons hl]
  rfl
theorem dec_lo (s : ByteArray) {pos : Nat} (h : pos < s.size) (hb : s[pos].toNat < 128) : Utf8.decode s pos = (s[pos].toNat, 1) := decode_ascii s pos h hb
theorem dec_hi (s : ByteArray) {pos : Nat} (h : pos < s.size) (hb : 128 ≤ s[pos].toNat) : 128 ≤ (Utf8.decode s pos).1 := (decode_high s pos h hb).1
theorem cont_mem (s : ByteArray) {pos : Nat} (k : Nat) (hk : pos + k ≤ s.size) (h : ∀ j, 1 ≤ j → j < k → 128 ≤ (s.data.toList.getD (pos + j) 0).toNat) : ∀ c ∈ (s.data.toList.drop (pos + 1)).take (k - 1), 128 ≤ c.toNat := by
  intro c hc
  obtain ⟨i, hi, rfl⟩ := List.getElem_of_mem hc
  rw [List.length_take, List.length_drop] at hi
  have := h (i + 1) (by omega) (by omega)
  rw [List.getElem_take, List.getElem_drop]
  rw [List.getD_eq_getElem?_getD, List.getElem?_eq_getElem (by rw [← Lib.size_eq]; omega), Option.getD_some] at this
  simpa only [show pos + (i + 1) = pos + 1 + i by omega] using this
/-- a predicate that holds of ASCII alone: by runes as by bytes -/
theorem spans_bytes (p : Nat → Bool) (hp : ∀ x, p x = true → x < 128) (s : ByteArray) : ∀ (f pos : Nat) (st : Option Nat) (acc : List (Nat × Nat)), s.size ≤ pos + f →
    Lib.spansFromP p s f pos st acc = spB (fun c => p c.toNat) (s.data.toList.drop pos) pos st acc
  | 0, pos, st, acc, h => by
    rw [List.drop_of_length_le (by rw [← Lib.size_eq]; omega)]
    rfl
  | f + 1, pos, st, acc, h => by
    by_cases hlt : pos < s.size
    · rw [drop_at s hlt, Lib.spansFromP.eq_def]
      simp only [hlt, if_true]
      by_cases hb : s[pos].toNat < 128
      · rw [dec_lo s hlt hb]
        simp only []
        cases hq : p s[pos].toNat
        · rw [spB_no hq, if_neg Bool.false_ne_true]
          cases st with
          | none => exact spans_bytes p hp s f (pos + 1) _ acc (by omega)
          | some a => exact spans_bytes p hp s f (pos + 1) _ acc (by omega)
        · rw [if_pos rfl]
          cases st with
          | none => rw [spB_sep hq]; exact spans_bytes p hp s f (pos + 1) _ acc (by omega)
          | some a => rw [spB_end hq]; exact spans_bytes p hp s f (pos + 1) _ _ (by omega)
      · have hr := dec_hi s hlt (by omega)
        have hn : p (Utf8.decode s pos).1 = false := by
          cases hq : p (Utf8.decode s pos).1
          · rfl
          · have := hp _ hq; omega
        have hn0 : p s[pos].toNat = false := by
          cases hq : p s[pos].toNat
          · rfl
          · have := hp _ hq; omega
        have hw := width_one s pos
        have hc := fun j h1 h2 => cont_hi s pos j h1 h2
        generalize (Utf8.decode s pos).2 = k at *
        rw [hn, if_neg Bool.false_ne_true, spB_no hn0]
        have hk : pos + k ≤ s.size := by
          rcases Nat.lt_or_ge 1 k with h1 | h1
          · have := (hc (k - 1) (by omega) (by omega)).1; omega
          · omega
        have hm := cont_mem s k hk (fun j h1 h2 => (hc j h1 h2).2)
        have hsp : s.data.toList.drop (pos + 1) = (s.data.toList.drop (pos + 1)).take (k - 1) ++ s.data.toList.drop (pos + k) := by
          have := List.take_append_drop (k - 1) (s.data.toList.drop (pos + 1))
          rw [List.drop_drop, show pos + 1 + (k - 1) = pos + k by omega] at this
          exact this.symm
        have hlen : ((s.data.toList.drop (pos + 1)).take (k - 1)).length = k - 1 := by
          rw [List.length_take, List.length_drop, ← Lib.size_eq]; omega
        rw [hsp, spB_run _ _ _ _ _ _ (fun c hc' => by
          have := hm c hc'
          cases hq : p c.toNat
          · rfl
          · have := hp _ hq; omega), hlen, show pos + 1 + (k - 1) = pos + k by omega]
        cases st with
        | none => exact spans_bytes p hp s f (pos + k) _ acc (by omega)
        | some a => exact spans_bytes p hp s f (pos + k) _ acc (by omega)
    · rw [Lib.spansFromP_end _ _ _ _ _ _ hlt, List.drop_of_length_le (by rw [← Lib.size_eq]; omega)]
      rfl

/-! ### lower letters -/
def lowU (x : Int) : Int := if 65 ≤ x ∧ x ≤ 90 then x + 32 else x
def lowC (c : UInt8) : UInt8 := if 65 ≤ c.toNat ∧ c.toNat ≤ 90 then c + 32 else c
theorem lowC_nat (c : UInt8) : (lowC c).toNat = if 65 ≤ c.toNat ∧ c.toNat ≤ 90 then c.toNat + 32 else c.toNat := by
  unfold lowC
  split
  · rw [UInt8.toNat_add]
    have : (32 : UInt8).toNat = 32 := rfl
    omega
  · rfl
theorem dec_cons (c : UInt8) (r : List UInt8) (h : c.toNat < 128) : Lib.decodeL (c :: r) = (c.toNat, 1) := by
  rw [Lib.decodeL_N]
  unfold Lib.decodeN
  rw [show (c :: r).getD 0 0 = c from rfl, if_pos h]
theorem dec_cons_hi (c : UInt8) (r : List UInt8) (h : ¬ c.toNat < 128) : 128 ≤ (Lib.decodeL (c :: r)).1 := by
  have := dec_hi ⟨(c :: r).toArray⟩ (pos := 0) (by rw [Lib.size_eq]; simp) (by show 128 ≤ c.toNat; omega)
  rw [← Lib.decodeL_drop] at this
  exact this
theorem enc_lo {x : Nat} (h : x < 128) : Lib.encodeRune (x : Int) = [UInt8.ofNat x] := by
  unfold Lib.encodeRune
  rw [Lib.encodeRuneZ_one (by omega) (by omega)]
  rfl
theorem u8_of {x : Int} (h0 : 128 ≤ x) (h1 : x ≤ 255) : 128 ≤ (x.toNat.toUInt8).toNat := by
  show 128 ≤ (UInt8.ofNat x.toNat).toNat
  rw [UInt8.toNat_ofNat']
  omega
theorem enc_hi {x : Int} (h : 128 ≤ x) : ∃ b ∈ Lib.encodeRune x, 128 ≤ b.toNat := by
  unfold Lib.encodeRune
  by_cases h1 : x ≤ 2047
  · rw [Lib.encodeRuneZ_two h h1]
    exact ⟨_, List.mem_cons_self, u8_of (by omega) (by omega)⟩
  by_cases h2 : (2048 ≤ x ∧ x < 55296) ∨ (57343 < x ∧ x ≤ 65535)
  · rw [Lib.encodeRuneZ_three h2]
    exact ⟨_, List.mem_cons_self, u8_of (by omega) (by omega)⟩
  by_cases h3 : 65536 ≤ x ∧ x ≤ 1114111
  · rw [Lib.encodeRuneZ_four h3.1 h3.2]
    exact ⟨_, List.mem_cons_self, u8_of (by omega) (by omega)⟩
  · rw [Lib.encodeRuneZ_bad (by omega)]
    exact ⟨_, List.mem_cons_self, u8_of (by omega) (by omega)⟩
theorem lowU_nat {x : Nat} (h : x < 128) : ∃ y : Nat, lowU (x : Int) = y ∧ y < 128 ∧ UInt8.ofNat y = lowC (UInt8.ofNat x) := by
  unfold lowU
  have hx : (UInt8.ofNat x).toNat = x := by rw [UInt8.toNat_ofNat']; omega
  split
  · refine ⟨x + 32, by omega, by omega, ?_⟩
    apply UInt8.toNat_inj.1
    rw [lowC_nat, hx, if_pos (by omega), UInt8.toNat_ofNat']
    omega
  · refine ⟨x, rfl, h, ?_⟩
    apply UInt8.toNat_inj.1
    rw [lowC_nat, hx, if_neg (by omega)]
theorem mapLow_lo : ∀ l : List UInt8, (∀ b ∈ l, b.toNat < 128) → Lib.mapD lowU l = l.map lowC
  | [], _ => rfl
  | c :: r, h => by
    have hc := h c (by simp)
    obtain ⟨y, h1, h2, h3⟩ := lowU_nat hc
    rw [Lib.mapD_step _ _ (by simp), dec_cons c r hc]
    simp only []
    rw [h1, if_pos (by omega), enc_lo h2, h3]
    show [lowC (UInt8.ofNat c.toNat)] ++ Lib.mapD lowU r = _
    rw [mapLow_lo r (fun b hb => h b (by simp [hb])), UInt8.ofNat_toNat]
    rfl
theorem mapLow_hi : ∀ l : List UInt8, (∃ b ∈ l, 128 ≤ b.toNat) → ∃ b ∈ Lib.mapD lowU l, 128 ≤ b.toNat
  | [], h => by obtain ⟨b, hb, _⟩ := h; cases hb
  | c :: r, h => by
    rw [Lib.mapD_step _ _ (by simp)]
    by_cases hc : c.toNat < 128
    · rw [dec_cons c r hc]
      obtain ⟨b, hb, h1⟩ := h
      rcases List.mem_cons.1 hb with rfl | hb
      · omega
      · obtain ⟨b', hb', h2⟩ := mapLow_hi r ⟨b, hb, h1⟩
        exact ⟨b', List.mem_append_right _ hb', h2⟩
    · have hr := dec_cons_hi c r hc
      have e : lowU ((Lib.decodeL (c :: r)).1 : Int) = ((Lib.decodeL (c :: r)).1 : Int) := by unfold lowU; rw [if_neg (by omega)]
      rw [e, if_pos (by omega)]
      obtain ⟨b, hb, h1⟩ := enc_hi (x := ((Lib.decodeL (c :: r)).1 : Int)) (by omega)
      exact ⟨b, List.mem_append_left _ hb, h1⟩
theorem lowC_lo (c : UInt8) : (lowC c).toNat < 128 ↔ c.toNat < 128 := by rw [lowC_nat]; split <;> omega
/-- lower letters by runes and by bytes are alike, where a text of ASCII is asked for -/
theorem mapLow (l t : List UInt8) (ht : ∀ b ∈ t, b.toNat < 128) : Lib.mapD lowU l = t ↔ l.map lowC = t := by
  by_cases h : ∀ b ∈ l, b.toNat < 128
  · rw [mapLow_lo l h]
  · have h' : ∃ b ∈ l, 128 ≤ b.toNat := by
      apply Classical.byContradiction
      intro hn
      exact h fun b hb => Nat.lt_of_not_le fun h2 => hn ⟨b, hb, h2⟩
    constructor
    · intro e
      obtain ⟨b, hb, h1⟩ := mapLow_hi l h'
      have := ht b (e ▸ hb)
      omega
    · intro e
      obtain ⟨b, hb, h1⟩ := h'
      have := ht (lowC b) (e ▸ List.mem_map_of_mem hb)
      rw [lowC_lo] at this
      omega
end Go.Proofs.YtjnjnccfojfghaaGreatDoor

/-! The walk of waybillref06's Lower: a text with a to z in the place of A to Z, byte by byte. Condition: the text's length. -/
namespace Go.Proofs.YtjnjnccfojfghaaGreatDoor
open Go.RowKit
set_option linter.unusedVariables false

theorem OwnW.put {w : World} {base g n c : Nat} {l : List UInt8} (h : OwnW w base (.slice (some ⟨g, 0, none⟩) n c) l) {k : Nat} (hk : k < l.length) (z : UInt8) :
    OwnW (w.setCell ⟨g, k, none⟩ (.int .u8 (z.toNat : Int))) base (.slice (some ⟨g, 0, none⟩) n c) (l.set k z) := by
  obtain ⟨A, c', e, h1, h2, h3⟩ := h
  injection e with e1 e2 e3
  subst e1 e2 e3
  refine ⟨_, _, by rw [List.length_set], by rw [List.length_set]; exact h1, h2, ?_⟩
  rcases h3 with h3 | ⟨g', hA, hb, hg, hc⟩
  · subst h3; simp at hk
  · injection hA with hA
    injection hA with hA
    subst hA
    refine .inr ⟨g, rfl, hb, by simpa using hg, fun i hi => ?_⟩
    rw [List.length_set] at hi
    obtain ⟨c1, c2⟩ := hc i hi
    refine ⟨?_, by rw [World.frozen?_setCell]; exact c2⟩
    by_cases hik : i = k
    · subst hik
      rw [World.cell?_setCell_same w _ _ c1, bt_getElem (by rw [List.length_set]; exact hi), List.getElem_set_self]
    · rw [World.cell?_setCell_other w _ _ _ (fun e => hik (by injection e with _ e2; exact e2.symm)), c1]
      unfold bt
      rw [List.getD_eq_getElem?_getD, List.getD_eq_getElem?_getD, List.getElem?_set_ne (Ne.symm hik)]
theorem OwnW.byte {w : World} {base n c : Nat} {A : Option Addr} {l : List UInt8} (h : OwnW w base (.slice A n c) l) {k : Nat} (hk : k < l.length) :
    ∃ g, A = some ⟨g, 0, none⟩ ∧ base ≤ g ∧ w.cell? ⟨g, k, none⟩ = some (.int .u8 (bt l k)) ∧ w.frozen? ⟨g, k, none⟩ = false := by
  obtain ⟨A', c', e, h1, h2, h3⟩ := h
  injection e with e1 e2 e3
  subst e1
  rcases h3 with h3 | ⟨g, hA, hb, hg, hc⟩
  · subst h3; simp at hk
  · exact ⟨g, hA, hb, (hc k hk).1, (hc k hk).2⟩
/-- the first k bytes lowered -/
def lowK (l : List UInt8) (k : Nat) : List UInt8 := (l.take k).map lowC ++ l.drop k
theorem lowK_len (l : List UInt8) (k : Nat) : (lowK l k).length = l.length := by unfold lowK; simp; omega
theorem lowK_at (l : List UInt8) {k : Nat} (h : k < l.length) : bt (lowK l k) k = (l[k].toNat : Int) := by
  rw [bt_getElem (by rw [lowK_len]; exact h)]
  unfold lowK
  rw [List.getElem_append_right (by simp; omega)]
  simp
  congr 3
  omega
theorem lowK_set (l : List UInt8) {k : Nat} (h : k < l.length) : (lowK l k).set k (lowC l[k]) = lowK l (k + 1) := by
  unfold lowK
  have hl : ((l.take k).map lowC).length = k := by simp; omega
  have e1 : (l.drop k).set 0 (lowC l[k]) = lowC l[k] :: l.drop (k + 1) := by rw [List.drop_eq_getElem_cons h]; rfl
  rw [List.set_append, if_neg (by rw [hl]; omega), hl, Nat.sub_self, e1, List.take_succ_eq_append_getElem h, List.map_append, List.append_assoc]
  rfl
theorem lowK_same (l : List UInt8) {k : Nat} (h : k < l.length) (hc : lowC l[k] = l[k]) : lowK l k = lowK l (k + 1) := by
  rw [← lowK_set l h, hc]
  have := lowK_at l h
  have e : (lowK l k)[k]'(by rw [lowK_len]; exact h) = l[k] := by
    rw [bt_getElem (by rw [lowK_len]; exact h)] at this
    exact UInt8.toNat_inj.1 (by omega)
  rw [← e, List.set_getElem_self]
theorem lowK_end (l : List UInt8) : lowK l l.length = l.map lowC := by unfold lowK; simp
theorem lowK_zero (l : List UInt8) : lowK l 0 = l := by unfold lowK; simp
theorem conv_sb6 : ∀ (W : World) (s : ByteArray), (convert 9 25 (.string s)).run Tryz.prog W = .ok (.slice (some ⟨W.heap.size, 0, none⟩) s.size (grownCap W s.size 0 5)) (Lib.bytesWorld W 5 s) :=
  fun W s => Lib.run_convert_string_bytes W _ _ _ s Tryz.underlying9 Tryz.underlying25 Tryz.underlying5
set_option maxHeartbeats 1000000 in
theorem rlower_walk (s : ByteArray) (w : World) (hs : s.size ≤ maxLen) :
    Calls Tryz.prog 66 #[.string s] w fun e w' => Below w.heap.size w w' ∧ e = .returned (.string ⟨(s.data.toList.map lowC).toArray⟩) := by
  have hcv := conv_sb6 w s
  have ho := OwnW.conv w 5 s w.heap.size hs (Nat.le_refl _)
  have hb := below_bytesWorld w 5 s
  have hmx : s.size ≤ 9223372036854775807 := by unfold maxLen at hs; omega
  have hsz : s.size = s.data.toList.length := Lib.size_eq s
  generalize grownCap w s.size 0 5 = cp at *
  rw [← lowK_zero s.data.toList] at ho
  rw [hsz] at ho hcv hmx
  generalize s.data.toList = l at *
  have hR : l.map lowC = lowK l l.length := (lowK_end l).symm
  rw [hR]
  have OW := Lib.hid ho
  have HB := Lib.hid hb
  clear ho hb hs hsz hR
  have hcl := fun (W : World) (h : RB W W.heap.size (some ⟨w.heap.size, 0, none⟩) (lowK l l.length)) => run_convRB (P := Tryz.prog) 25 9 5 Tryz.underlying25 Tryz.underlying5 Tryz.underlying9 h l.length cp (lowK_len l _).symm
  have HCL := Lib.hid hcl
  clear hcl
  go_enter Tryz.func66, Tryz.ntmps66
  go_upto_region 2 with fail
  generalize hW : Lib.bytesWorld w 5 s = W at *
  clear hW hcv
  go_wp2_with fail
  go_loopg [4] l.length (fun k i wr => ∃ (j : Nat), j + k = l.length ∧ i = .int .i64 j ∧ Hid (Below w.heap.size w wr) ∧ Hid (OwnW wr w.heap.size (.slice (some ⟨w.heap.size, 0, none⟩) l.length cp) (lowK l j)))
  case atStart => exact ⟨0, by omega, rfl, HB, OW⟩
  case round =>
    obtain ⟨j, hj, rfl, HB2, OW2⟩ := hrel
    clear HB OW
    by_cases hlt : j < l.length
    · have hj1 : (j : Int) < (l.length : Int) := by omega
      obtain ⟨g, hg, -, hc, hf⟩ := OW2.out.byte (k := j) (by rw [lowK_len]; exact hlt)
      obtain rfl : w.heap.size = g := by injection hg with hg; injection hg
      rw [lowK_at l hlt] at hc
      have OS := fun (z : UInt8) => OW2.out.put (k := j) (by rw [lowK_len]; exact hlt) z
      have hlc := lowC_nat l[j]
      have HST := Lib.hid (lowK_set l hlt)
      have HSM := Lib.hid (fun h => lowK_same l hlt h)
      have h256 := l[j].toNat_lt
      have HLC : Hid (¬ (65 ≤ l[j].toNat ∧ l[j].toNat ≤ 90) → lowC l[j] = l[j]) := Lib.hid fun h => if_neg h
      generalize l[j] = x at *
      clear hg
      by_cases h65 : 65 ≤ x.toNat
      · have h65i : (65 : Int) ≤ (x.toNat : Int) := by omega
        by_cases h90 : x.toNat ≤ 90
        · have h90i : (x.toNat : Int) ≤ 90 := by omega
          rw [if_pos ⟨h65, h90⟩] at hlc
          have OP := OS (lowC x)
          rw [hlc, HST.out] at OP
          have OP2 := Lib.hid OP
          clear OS OP OW2 hlc HLC HSM
          go_wp2
          go_roundg (gk - 1)
          case rel => exact ⟨j + 1, by omega, by go_num, Lib.hid (HB2.out.setCell (Nat.le_refl _) _), OP2⟩
          case measure => omega
        · have h90i : ¬ (x.toNat : Int) ≤ 90 := by omega
          have HE := Lib.hid (HSM.out (HLC.out (by omega)))
          clear OS hlc HLC HSM HST
          go_wp2
          go_roundg (gk - 1)
          case rel => exact ⟨j + 1, by omega, by go_num, HB2, Lib.hid (HE.out ▸ OW2.out)⟩
          case measure => omega
      · have h65i : ¬ (65 : Int) ≤ (x.toNat : Int) := by omega
        have HE := Lib.hid (HSM.out (HLC.out (by omega)))
        clear OS hlc HLC HSM HST
        go_wp2
        go_roundg (gk - 1)
        case rel => exact ⟨j + 1, by omega, by go_num, HB2, Lib.hid (HE.out ▸ OW2.out)⟩
        case measure => omega
    · have hj1 : ¬ (j : Int) < (l.length : Int) := by omega
      obtain rfl : j = l.length := by omega
      obtain ⟨A, c, e, -, -, hr⟩ := OW2.out.out
      injection e with e1 e2 e3
      subst e1
      have hcl := HCL.out wr hr
      clear hr HCL hj hlt e2 e3
      go_wp2
      go_ret
      exact ⟨HB2.out, rfl⟩
end Go.Proofs.YtjnjnccfojfghaaGreatDoor
