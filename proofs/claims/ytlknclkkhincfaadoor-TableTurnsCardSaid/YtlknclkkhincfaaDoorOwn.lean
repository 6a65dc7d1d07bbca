/-
  append onto a row of one-cell values that the call owns, the source a slice that reads as a list of values; a row of strings; over any program. No condition but the sizes.
-/
import Derived.Test.YtlknclkkhincfaaDoorApp
import Derived.Test.YtlknclkkhincfaaDoorStrs
namespace Go.Proofs.YtlknclkkhincfaaDoor
open Go.RowKit
set_option linter.unusedVariables false

/-- t is a type of slices of E, E of one cell and at most 64 bytes -/
structure UE (P : Program) (t E : TypeId) : Prop where
  ht : P.underlying t = some (.slice E)
  hi : ∃ i z, P.info? E = some i ∧ i.zero = some z ∧ z.cells.size = 1 ∧ i.size = 1 ∧ i.bytes ≤ 64

theorem cell_new (w : World) (E : TypeId) (x : Value) {g : Nat} (hg : w.heap.size = g) : (w.alloc (.cells #[x] E)).cell? ⟨g, 0, none⟩ = some x := by subst hg; simp
theorem below_of_grown {w w' : World} {base E n : Nat} {v : Value} {xs : List Value} (h : w.ownsRow base E 1 v n xs) (hg : w.grownBy w' v.ownBlock) (hb : base ≤ w.heap.size) : Below base w w' :=
  ⟨hg.os, hg.tape, hg.output, hg.size, fun k hk => hg.block k (by omega) (fun e => by have := (World.ownsRow.lt h k e.symm).1; omega)⟩

section
variable {P : Program} (w : World)
theorem run_appV {t E : TypeId} (hU : UE P t E) (base : Nat) (ty : TypeId) {v : Value} {n : Nat} {xs : List Value} (hown : w.ownsRow base E 1 v n xs) (ad : Addr) (m c : Nat) (news : List Value) (hl : news.length = m)
    (hnews : ∀ j u, news[j]? = some u → w.cell? (ad.add j) = some u) (h1 : ∀ u ∈ news, u.oneCell' = true) (hbytes : n + m ≤ 1000000000000) (hbase : base ≤ w.heap.size) :
    ∃ v' w', (Builtin.append_ #[t, t] ty #[v, .slice (some ad) m c]).run P w = .ok v' w' ∧ w'.ownsRow base E 1 v' (n + m) (xs ++ news) ∧ w.grownBy w' v.ownBlock := by
  obtain ⟨i, z, hi, hz, hzs, hs, hb⟩ := hU.hi
  have hmul : ((n + m) + (n + m) / 4 + 192) * i.bytes ≤ 281474976710656 := by
    have h2 : (n + m) + (n + m) / 4 + 192 ≤ 1250000000192 := by omega
    exact Nat.le_trans (Nat.mul_le_mul h2 hb) (by decide)
  obtain ⟨v', w', hrun, h3, h4, _⟩ := run_append_own_wide (P := P) w base t ty E i z 1 i.bytes hU.ht hi hz hs rfl hzs (by omega) v n xs hown ad m c news (by omega) hnews h1 (by simp only [maxLen]; omega) hmul hbase
  exact ⟨v', w', hrun, h3, h4⟩

theorem wpList_appV {ops : Array Oper} {rest : List Oper} {o : Oper} {a : Act} {Q : Exit → Act → World → Prop} {t E : TypeId} (hU : UE P t E) (s x : Operand)
    (ho : o.op = .call { callee := .builtin .append, args := #[s, x], argTypes := #[t, t] }) (hgd : o.guard = none)
    (base : Nat) {v : Value} {n : Nat} {xs : List Value} (hs : a.eval s = v) (hown : w.ownsRow base E 1 v n xs) (ad : Addr) (m c : Nat) (hx : a.eval x = .slice (some ad) m c) (news : List Value) (hl : news.length = m)
    (hnews : ∀ j u, news[j]? = some u → w.cell? (ad.add j) = some u) (h1 : ∀ u ∈ news, u.oneCell' = true) (hbytes : n + m ≤ 1000000000000) (hbase : base ≤ w.heap.size)
    (h : ∀ v' w', w'.ownsRow base E 1 v' (n + m) (xs ++ news) → Below base w w' → wpList P ops Q rest (a.put o.dst v') w') : wpList P ops Q (o :: rest) a w := by
  refine wpList_plain hgd fun K hK => ?_
  obtain ⟨v', w', hrun, h2, h3⟩ := run_appV (P := P) w hU base o.type hown ad m c news hl hnews h1 hbytes hbase
  unfold Oper.wp execOp
  simp only [ho, resolve, invoke, builtin, Sem.run_bind, Sem.run_pure, Result.andThen_ok, List.map_toArray, List.map_cons, List.map_nil, hs, hx, hrun]
  exact hK _ _ (h v' w' h2 (below_of_grown hown h3 hbase))
end

/-- v owns a row of strings, from block base on -/
def OwnS (w : World) (base E : Nat) (v : Value) (L : List ByteArray) : Prop := w.ownsRow base E 1 v L.length (L.map Value.string)
theorem OwnS.nil (w : World) (base E : Nat) : OwnS w base E (.slice none 0 0) [] := World.ownsRow_nil w base E 1
theorem OwnS.alloc {w : World} {base E : Nat} {v : Value} {L : List ByteArray} (h : OwnS w base E v L) (o : Obj) : OwnS (w.alloc o) base E v L := World.ownsRow.alloc h o
theorem OwnS.below {w w' : World} {base E : Nat} {v : Value} {L : List ByteArray} (h : OwnS w base E v L) (hb : Below w.heap.size w w') : OwnS w' base E v L :=
  World.ownsRow.kept h (grownBy_of_below hb none) (by cases v.ownBlock <;> simp)
theorem OwnS.far {w : World} {base E : Nat} {v : Value} {L : List ByteArray} (h : OwnS w base E v L) {p : Addr} (hp : p.block < base) (u : Value) : OwnS (w.setCell p u) base E v L := by
  refine World.ownsRow.kept h (row := some p.block) ⟨rfl, rfl, rfl, by simp, fun i hi hne => Below.heap_setCell w p u i (fun e => hne (by rw [e]))⟩ ?_
  by_cases hb : v.ownBlock = some p.block
  · have := (World.ownsRow.lt h _ hb).1; omega
  · exact .inr hb
theorem OwnS.mono {w : World} {base base' E : Nat} {v : Value} {L : List ByteArray} (h : OwnS w base E v L) (hb : base' ≤ base) : OwnS w base' E v L := by
  refine ⟨h.1, ?_⟩
  rcases h.2 with h1 | ⟨g, cap, cur, hv, hg, r⟩
  · exact .inl h1
  · exact .inr ⟨g, cap, cur, hv, by omega, r⟩
theorem OwnS.out {w : World} {base E : Nat} {v : Value} {L : List ByteArray} (h : OwnS w base E v L) : ∃ A c, v = .slice A L.length c ∧ L.length ≤ c ∧ c ≤ maxLen ∧ RS w w.heap.size A L := by
  rcases h.2 with ⟨rfl, h0⟩ | ⟨g, cap, cur, rfl, hb, hg, hc, hm, hs, ht⟩
  · obtain rfl : L = [] := List.eq_nil_of_length_eq_zero h0
    exact ⟨none, 0, rfl, Nat.le_refl _, by simp [maxLen], .inl rfl⟩
  · refine ⟨some ⟨g, 0, none⟩, cap, rfl, hc, hm, .inr ⟨g, 0, rfl, (Array.getElem?_eq_some_iff.1 hg).1, fun i hi => ?_⟩⟩
    have := World.ownsRow.cells h (g := g) rfl i (.string L[i]) (by simp [hi])
    rw [st_getElem hi, ← this, Addr.add_lit, Nat.zero_add]
theorem OwnS.rs {w : World} {base E n c : Nat} {A : Option Addr} {L : List ByteArray} (h : OwnS w base E (.slice A n c) L) : RS w w.heap.size A L := by
  obtain ⟨A', c', e, _, _, hr⟩ := h.out
  injection e with e1
  subst e1
  exact hr
theorem wpList_appOneS {P : Program} (w : World) {ops : Array Oper} {rest : List Oper} {o : Oper} {a : Act} {Q : Exit → Act → World → Prop} {t E : TypeId} (hU : UE P t E) (s x : Operand)
    (ho : o.op = .call { callee := .builtin .append, args := #[s, x], argTypes := #[t, t] }) (hgd : o.guard = none)
    (base : Nat) {v : Value} {L : List ByteArray} (hs : a.eval s = v) (hown : OwnS w base E v L) (g c : Nat) (hx : a.eval x = .slice (some ⟨g, 0, none⟩) 1 c) (y : ByteArray)
    (hc : w.cell? ⟨g, 0, none⟩ = some (.string y)) (hbytes : L.length + 1 ≤ 1000000000000) (hbase : base ≤ w.heap.size)
    (h : ∀ v' w', OwnS w' base E v' (L ++ [y]) → Below base w w' → wpList P ops Q rest (a.put o.dst v') w') : wpList P ops Q (o :: rest) a w := by
  refine wpList_appV w hU s x ho hgd base hs hown ⟨g, 0, none⟩ 1 c hx [.string y] rfl ?_ (by simp [Value.oneCell']) hbytes hbase fun v' w' h1 h2 => h v' w' ?_ h2
  · intro j u hu
    have hj : j = 0 := by
      have := (List.getElem?_eq_some_iff.1 hu).1
      simpa using this
    subst hj
    simp at hu
    subst hu
    rw [Addr.add_lit]
    exact hc
  · unfold OwnS
    rw [List.length_append, List.map_append]
    exact h1
end Go.Proofs.YtlknclkkhincfaaDoor
