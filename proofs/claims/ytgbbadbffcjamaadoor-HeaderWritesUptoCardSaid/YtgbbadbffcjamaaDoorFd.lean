/-
  Rows of fields in memory. No condition but the sizes.
-/
import Derived.Test.YtgbbadbffcjamaaDoorHdL
import Derived.Test.YtgbbadbffcjamaaDoorHdB
import Derived.Deep.MidRow
import Derived.Laws.OwnMore
import Derived.Deep.DeepAppendWide
namespace Go.Proofs.YtgbbadbffcjamaaDoor
open Go.RowKit
set_option linter.unusedVariables false
def sv (l : List UInt8) : Value := .string ⟨l.toArray⟩
/-- a field's cells -/
def fdc (g : Fd) : List Value := [sv g.nm, sv g.bd, .int .i64 (g.fr : Int), .int .i64 (g.tt : Int)]
def cellsF (L : List Fd) : List Value := L.flatMap fdc
theorem cellsF_len : ∀ L : List Fd, (cellsF L).length = L.length * 4
  | [] => rfl
  | g :: L => by
    have := cellsF_len L
    unfold cellsF at this ⊢
    rw [List.flatMap_cons, List.length_append, this, List.length_cons]
    simp [fdc]
    omega
theorem cellsF_snoc (L : List Fd) (g : Fd) : cellsF (L ++ [g]) = cellsF L ++ fdc g := by simp [cellsF]
theorem cellsF_at : ∀ {L : List Fd} {i : Nat} {g : Fd} (j : Nat), L[i]? = some g → j < 4 → (cellsF L)[i * 4 + j]? = (fdc g)[j]?
  | [], i, g, j, h, _ => by simp at h
  | x :: L, 0, g, j, h, hj => by
    obtain rfl : x = g := by simpa using h
    unfold cellsF
    rw [List.flatMap_cons, Nat.zero_mul, Nat.zero_add, List.getElem?_append_left (by simpa [fdc] using hj)]
  | x :: L, i + 1, g, j, h, hj => by
    have ih := cellsF_at (L := L) (i := i) (g := g) j (by simpa using h) hj
    unfold cellsF at ih ⊢
    rw [List.flatMap_cons, List.getElem?_append_right (by simp [fdc]; omega)]
    rw [← ih]
    congr 1
    simp [fdc]
    omega
theorem fdc_one (g : Fd) : ∀ u ∈ fdc g, u.oneCell' = true := by
  intro u hu
  simp only [fdc, sv, List.mem_cons, List.not_mem_nil, or_false] at hu
  rcases hu with rfl | rfl | rfl | rfl <;> rfl
/-- v owns a row of fields, from block base on -/
def OwnF (w : World) (base : Nat) (v : Value) (L : List Fd) : Prop := w.ownsRow base 29 4 v L.length (cellsF L)
section
variable {w w' : World} {base : Nat} {v : Value} {L : List Fd} {g : Fd}
theorem OwnF.nil (w : World) (base : Nat) : OwnF w base (.slice none 0 0) [] := World.ownsRow_nil w base _ 4
theorem OwnF.kept {row : Option Nat} (h : OwnF w base v L) (hg : w.grownBy w' row) (hne : v.ownBlock = none ∨ v.ownBlock ≠ row) : OwnF w' base v L := World.ownsRow.kept h hg hne
theorem OwnF.below (h : OwnF w base v L) (hb : Below w.heap.size w w') : OwnF w' base v L := h.kept (grownBy_of_below hb none) (by cases v.ownBlock <;> simp)
theorem OwnF.sl (h : OwnF w base v L) : ∃ A c, v = .slice A L.length c ∧ L.length ≤ c ∧ c ≤ maxLen := by
  rcases h.2 with ⟨rfl, h0⟩ | ⟨g, cap, cur, rfl, hb, hg, hc, hm, hs, ht⟩
  · exact ⟨none, 0, by rw [h0], by omega, by simp [maxLen]⟩
  · exact ⟨_, cap, rfl, hc, hm⟩
theorem OwnF.form (h : OwnF w base v L) (hl : 0 < L.length) : ∃ b c, v = .slice (some ⟨b, 0, none⟩) L.length c ∧ base ≤ b ∧ b < w.heap.size ∧ L.length ≤ c ∧ c ≤ maxLen := by
  rcases h.2 with ⟨rfl, h0⟩ | ⟨g, cap, cur, rfl, hb, hg, hc, hm, hs, ht⟩
  · omega
  · exact ⟨g, cap, rfl, hb, (Array.getElem?_eq_some_iff.1 hg).1, hc, hm⟩
theorem OwnF.cell {b c n : Nat} (h : OwnF w base (.slice (some ⟨b, 0, none⟩) n c) L) (hn : n = L.length) {i j : Nat} (hi : L[i]? = some g) (hj : j < 4) : w.cell? ⟨b, i * 4 + j, none⟩ = (fdc g)[j]? := by
  subst hn
  have hlt := (List.getElem?_eq_some_iff.1 hi).1
  rw [World.ownsRow.cellAt h (i * 4 + j) (by omega), cellsF_at j hi hj]
theorem OwnF.free {b c n : Nat} (h : OwnF w base (.slice (some ⟨b, 0, none⟩) n c) L) (hn : n = L.length) (k : Nat) : w.frozen? ⟨b, k, none⟩ = false := by
  subst hn
  exact World.ownsRow.frozenAt h k
theorem cellsF_set (L : List Fd) (g g' : Fd) (j : Nat) (u : Value) (hj : j < 4) (hs : (fdc g).set j u = fdc g') : (cellsF (L ++ [g])).set (L.length * 4 + j) u = cellsF (L ++ [g']) := by
  rw [cellsF_snoc, cellsF_snoc, List.set_append_right _ _ (by rw [cellsF_len]; omega), cellsF_len, Nat.add_sub_cancel_left, hs]
/-- a store into the last field -/
theorem OwnF.set_ {b c n : Nat} (h : OwnF w base (.slice (some ⟨b, 0, none⟩) n c) (L ++ [g])) (hn : n = (L ++ [g]).length) (g' : Fd) (j : Nat) (u : Value) (hj : j < 4) (hs : (fdc g).set j u = fdc g') :
    OwnF (w.setCell ⟨b, L.length * 4 + j, none⟩ u) base (.slice (some ⟨b, 0, none⟩) n c) (L ++ [g']) := by
  subst hn
  have := (World.ownsRow.stored h (L.length * 4 + j) u).1
  rw [cellsF_set L g g' j u hj hs] at this
  unfold OwnF
  have e : (L ++ [g']).length = (L ++ [g]).length := by simp
  rw [e]
  exact this
end
theorem fd_info : ∃ i, Tryd.prog.info? 29 = some i ∧ i.size = 4 ∧ i.bytes = 48 ∧ ∃ z, i.zero = some z ∧ z.cells.size = 4 := by
  obtain ⟨i, h1, h2, h3, h4⟩ := info_parts (show (Tryd.prog.info? 29).map (fun i => (i.zero, i.size, i.bytes)) = some (some (.agg #[.string ⟨#[]⟩, .string ⟨#[]⟩, .int .i64 0, .int .i64 0]), 4, 48) by kernel_rfl)
  exact ⟨i, h1, h3, h4, _, h2, rfl⟩
theorem wpList_appF (w : World) {ops : Array Oper} {rest : List Oper} {o : Oper} {a : Act} {Q : Exit → Act → World → Prop} (s x : Operand)
    (ho : o.op = .call { callee := .builtin .append, args := #[s, x], argTypes := #[24, 24] }) (hgd : o.guard = none)
    (base : Nat) {v : Value} {L : List Fd} {g : Fd} (hs : a.eval s = v) (hown : OwnF w base v L) (ad : Nat) (c : Nat) (hx : a.eval x = .slice (some ⟨ad, 0, none⟩) 1 c) (hc : ∀ j, j < 4 → w.cell? ⟨ad, j, none⟩ = (fdc g)[j]?)
    (hbytes : L.length ≤ 1000000000000) (hbase : base ≤ w.heap.size)
    (h : ∀ v' w', OwnF w' base v' (L ++ [g]) → w.grownBy w' v.ownBlock → wpList Tryd.prog ops Q rest (a.put o.dst v') w') : wpList Tryd.prog ops Q (o :: rest) a w := by
  obtain ⟨i, h1, h2, h3, z, h4, h5⟩ := fd_info
  refine wpList_append_own_wide w hgd s x 24 ho base 29 i z 4 48 Tryd.underlying24 h1 h4 h2 h3 h5 (by omega) v L.length (cellsF L) hs hown ⟨ad, 0, none⟩ 1 c (fdc g) hx rfl (fun j u hu => ?_) (fdc_one g) (by unfold maxLen; omega) (by omega) hbase fun v' w' h6 h7 _ => h v' w' ?_ h7
  · have hj : j < 4 := by have := (List.getElem?_eq_some_iff.1 hu).1; simpa [fdc] using this
    rw [Addr.add_lit, Nat.zero_add, hc j hj]
    exact hu
  · unfold OwnF
    rw [cellsF_snoc, List.length_append]
    exact h6
/-- a slice's address reads as a list of fields, below block B -/
def RF (w : World) (B : Nat) (A : Option Addr) (L : List Fd) : Prop :=
  L = [] ∨ ∃ b off, A = some ⟨b, off, none⟩ ∧ b < B ∧ ∀ i g, L[i]? = some g → w.rangeAt b (off + i * 4) (fdc g)
section
variable {w w' : World} {B : Nat} {A : Option Addr} {L : List Fd}
theorem RF.below (h : RF w B A L) (hb : Below B w w') : RF w' B A L := by
  rcases h with h | ⟨b, off, rfl, hlt, hc⟩
  · exact .inl h
  · exact .inr ⟨b, off, rfl, hlt, fun i g hi j v hv => by rw [hb.cell (show b < B from hlt)]; exact hc i g hi j v hv⟩
theorem RF.mono {B' : Nat} (h : RF w B A L) (hB : B ≤ B') : RF w B' A L := by
  rcases h with h | ⟨b, off, rfl, hlt, hc⟩
  · exact .inl h
  · exact .inr ⟨b, off, rfl, by omega, hc⟩
theorem RF.at_ (h : RF w B A L) {i : Nat} {g : Fd} (hi : L[i]? = some g) : ∃ b off, A = some ⟨b, off, none⟩ ∧ b < B ∧ w.rangeAt b (off + i * 4) (fdc g) := by
  rcases h with rfl | ⟨b, off, rfl, hlt, hc⟩
  · simp at hi
  · exact ⟨b, off, rfl, hlt, hc i g hi⟩
theorem OwnF.rf {base n c : Nat} (h : OwnF w base (.slice A n c) L) : RF w w.heap.size A L ∧ n = L.length ∧ n ≤ c ∧ c ≤ maxLen := by
  obtain ⟨A', c', e, h1, h2⟩ := h.sl
  injection e with e1 e2 e3
  subst e1 e2 e3
  refine ⟨?_, rfl, h1, h2⟩
  rcases Nat.eq_zero_or_pos L.length with h0 | h0
  · exact .inl (List.eq_nil_of_length_eq_zero h0)
  · obtain ⟨b, c2, e, _, hlt, _⟩ := h.form h0
    injection e with e1 e2 e3
    subst e1
    exact .inr ⟨b, 0, rfl, hlt, fun i g hi j v hv => by
      have hj : j < 4 := by have := (List.getElem?_eq_some_iff.1 hv).1; simpa [fdc] using this
      rw [Nat.zero_add, h.cell rfl hi hj]; exact hv⟩
end
theorem rangeAt_cells {w : World} {b o : Nat} {g : Fd} (h : w.rangeAt b o (fdc g)) : w.cell? ⟨b, o, none⟩ = some (sv g.nm) ∧ w.cell? ⟨b, o + 1, none⟩ = some (sv g.bd) ∧ w.cell? ⟨b, o + 2, none⟩ = some (.int .i64 (g.fr : Int)) ∧ w.cell? ⟨b, o + 3, none⟩ = some (.int .i64 (g.tt : Int)) :=
  ⟨h 0 _ rfl, h 1 _ rfl, h 2 _ rfl, h 3 _ rfl⟩
end Go.Proofs.YtgbbadbffcjamaaDoor
