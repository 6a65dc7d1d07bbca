/-
  append onto one of several rows that the call owns: what it leaves as it is; rows of numbers; over any program. No condition but the sizes.
-/
import Derived.Test.YtlknclkkhincfaaDoorOwn
import Derived.Test.YtlknclkkhincfaaDoorOnly
namespace Go.Proofs.YtlknclkkhincfaaDoor
open Go.RowKit
set_option linter.unusedVariables false

section
variable {P : Program} (w : World)
theorem wpList_appBg {ops : Array Oper} {rest : List Oper} {o : Oper} {a : Act} {Q : Exit → Act → World → Prop} {t E : TypeId} (hU : U8 P t E) (s x : Operand)
    (ho : o.op = .call { callee := .builtin .append, args := #[s, x], argTypes := #[t, t] }) (hgd : o.guard = none)
    (base : Nat) {v : Value} {l k : List UInt8} (hs : a.eval s = v) (hown : OwnB w base E v l) {B : Nat} {A : Option Addr} (m c : Nat) (hx : a.eval x = .slice A m c) (hm : m = k.length) (hr : RB w B A k)
    (hbytes : l.length + k.length ≤ 200000000000000) (hbase : base ≤ w.heap.size)
    (h : ∀ v' w', OwnB w' base E v' (l ++ k) → w.grownBy w' v.ownBlock → wpList P ops Q rest (a.put o.dst v') w') : wpList P ops Q (o :: rest) a w := by
  subst hm
  refine wpList_plain hgd fun K hK => ?_
  obtain ⟨v', w', hrun, h2, h3⟩ := run_appB (P := P) w hU base o.type hown c hr hbytes hbase
  unfold Oper.wp execOp
  simp only [ho, resolve, invoke, builtin, Sem.run_bind, Sem.run_pure, Result.andThen_ok, List.map_toArray, List.map_cons, List.map_nil, hs, hx, hrun]
  exact hK _ _ (h v' w' h2 h3)
theorem wpList_appSg {ops : Array Oper} {rest : List Oper} {o : Oper} {a : Act} {Q : Exit → Act → World → Prop} {t E u : TypeId} (hU : U8 P t E) (hu : P.underlying u = some .string) (s x : Operand)
    (ho : o.op = .call { callee := .builtin .append, args := #[s, x], argTypes := #[t, u] }) (hgd : o.guard = none)
    (base : Nat) {v : Value} {l : List UInt8} (hs : a.eval s = v) (hown : OwnB w base E v l) (tx : ByteArray) (hx : a.eval x = .string tx)
    (hbytes : l.length + tx.size ≤ 140737488355328) (hbase : base ≤ w.heap.size)
    (h : ∀ v' w', OwnB w' base E v' (l ++ tx.data.toList) → w.grownBy w' v.ownBlock → wpList P ops Q rest (a.put o.dst v') w') : wpList P ops Q (o :: rest) a w := by
  refine wpList_plain hgd fun K hK => ?_
  obtain ⟨v', w', hrun, h2, h3⟩ := run_appS (P := P) w hU hu base o.type hown tx hbytes hbase
  unfold Oper.wp execOp
  simp only [ho, resolve, invoke, builtin, Sem.run_bind, Sem.run_pure, Result.andThen_ok, List.map_toArray, List.map_cons, List.map_nil, hs, hx, hrun]
  exact hK _ _ (h v' w' h2 h3)
theorem wpList_appVg {ops : Array Oper} {rest : List Oper} {o : Oper} {a : Act} {Q : Exit → Act → World → Prop} {t E : TypeId} (hU : UE P t E) (s x : Operand)
    (ho : o.op = .call { callee := .builtin .append, args := #[s, x], argTypes := #[t, t] }) (hgd : o.guard = none)
    (base : Nat) {v : Value} {n : Nat} {xs : List Value} (hs : a.eval s = v) (hown : w.ownsRow base E 1 v n xs) (ad : Addr) (m c : Nat) (hx : a.eval x = .slice (some ad) m c) (news : List Value) (hl : news.length = m)
    (hnews : ∀ j u, news[j]? = some u → w.cell? (ad.add j) = some u) (h1 : ∀ u ∈ news, u.oneCell' = true) (hbytes : n + m ≤ 1000000000000) (hbase : base ≤ w.heap.size)
    (h : ∀ v' w', w'.ownsRow base E 1 v' (n + m) (xs ++ news) → w.grownBy w' v.ownBlock → wpList P ops Q rest (a.put o.dst v') w') : wpList P ops Q (o :: rest) a w := by
  refine wpList_plain hgd fun K hK => ?_
  obtain ⟨v', w', hrun, h2, h3⟩ := run_appV (P := P) w hU base o.type hown ad m c news hl hnews h1 hbytes hbase
  unfold Oper.wp execOp
  simp only [ho, resolve, invoke, builtin, Sem.run_bind, Sem.run_pure, Result.andThen_ok, List.map_toArray, List.map_cons, List.map_nil, hs, hx, hrun]
  exact hK _ _ (h v' w' h2 h3)
end
/-- rows of two types are two rows -/
theorem own_ne {w : World} {b1 b2 E1 E2 s1 s2 n1 n2 : Nat} {v1 v2 : Value} {x1 x2 : List Value} (h1 : w.ownsRow b1 E1 s1 v1 n1 x1) (h2 : w.ownsRow b2 E2 s2 v2 n2 x2) (hne : E1 ≠ E2) : v1.ownBlock = none ∨ v1.ownBlock ≠ v2.ownBlock := by
  rcases h1.2 with ⟨rfl, _⟩ | ⟨g, cap, cur, rfl, _, hg, _⟩
  · exact .inl rfl
  · refine .inr fun e => ?_
    rcases h2.2 with ⟨rfl, _⟩ | ⟨g', cap', cur', rfl, _, hg', _⟩
    · simp [Value.ownBlock] at e
    · simp only [Value.ownBlock, Option.some.injEq] at e
      subst e
      rw [hg] at hg'
      injection hg' with hg'
      injection hg' with _ ht
      exact hne ht
/-- a row below whose block a thing lies -/
theorem own_base {w : World} {b E s n k : Nat} {v : Value} {x : List Value} (h : w.ownsRow b E s v n x) (hk : k < b) : some k ≠ v.ownBlock := fun e => by
  have := (World.ownsRow.lt h k e.symm).1; omega
theorem Blk.own {w w' : World} {g t : Nat} {cs : Array Value} {b E s n : Nat} {v : Value} {x : List Value} (h : Blk w g t cs) (hw : w.ownsRow b E s v n x) (hg : w.grownBy w' v.ownBlock) (hb : g < b) : Blk w' g t cs :=
  h.grown hg (own_base hw hb)
theorem below_of_own {w w' : World} {b E s n : Nat} {v : Value} {x : List Value} (h : w.ownsRow b E s v n x) (hg : w.grownBy w' v.ownBlock) (hb : b ≤ w.heap.size) : Below b w w' :=
  ⟨hg.os, hg.tape, hg.output, hg.size, fun k hk => hg.block k (by omega) (fun e => by have := (World.ownsRow.lt h k e.symm).1; omega)⟩
theorem OwnB.far {w : World} {base E : Nat} {v : Value} {l : List UInt8} (h : OwnB w base E v l) {p : Addr} (hp : p.block < base) (u : Value) : OwnB (w.setCell p u) base E v l := by
  refine h.kept (row := some p.block) ⟨rfl, rfl, rfl, by simp, fun i hi hne => Below.heap_setCell w p u i (fun e => hne (by rw [e]))⟩ ?_
  by_cases hb : v.ownBlock = some p.block
  · have := (World.ownsRow.lt h _ hb).1; omega
  · exact .inr hb
/-- a row that is younger than another -/
theorem own_young {w w1 : World} {b1 b2 E1 E2 s1 s2 n1 n2 : Nat} {v1 v2 : Value} {x1 x2 : List Value} (h1 : w1.ownsRow b1 E1 s1 v1 n1 x1) (h2 : w.ownsRow b2 E2 s2 v2 n2 x2) (hb : w.heap.size ≤ b1) : v1.ownBlock = none ∨ v1.ownBlock ≠ v2.ownBlock := by
  rcases h1.2 with ⟨rfl, _⟩ | ⟨g, cap, cur, rfl, hg, _⟩
  · exact .inl rfl
  · refine .inr fun e => ?_
    have := (World.ownsRow.lt h2 g e.symm).2
    omega
theorem OwnB.rb {w : World} {base E n c : Nat} {A : Option Addr} {l : List UInt8} (h : OwnB w base E (.slice A n c) l) : RB w w.heap.size A l := by
  obtain ⟨A', c', e, _, _, hr⟩ := h.out
  injection e with e1
  subst e1
  exact hr
theorem OwnB.sl {w : World} {base E : Nat} {v : Value} {l : List UInt8} (h : OwnB w base E v l) : ∃ A n c, v = .slice A n c := by
  obtain ⟨A, c, e, _⟩ := h.out
  exact ⟨A, _, c, e⟩
/-- v owns a row of numbers -/
def OwnI (w : World) (base E : Nat) (v : Value) (L : List Int) : Prop := w.ownsRow base E 1 v L.length (L.map (Value.int .i64))
theorem OwnI.nil (w : World) (base E : Nat) : OwnI w base E (.slice none 0 0) [] := World.ownsRow_nil w base E 1
theorem OwnI.alloc {w : World} {base E : Nat} {v : Value} {L : List Int} (h : OwnI w base E v L) (o : Obj) : OwnI (w.alloc o) base E v L := World.ownsRow.alloc h o
theorem OwnI.kept {w w' : World} {base E : Nat} {v : Value} {L : List Int} {row : Option Nat} (h : OwnI w base E v L) (hg : w.grownBy w' row) (hne : v.ownBlock = none ∨ v.ownBlock ≠ row) : OwnI w' base E v L := World.ownsRow.kept h hg hne
theorem OwnI.below {w w' : World} {base E : Nat} {v : Value} {L : List Int} (h : OwnI w base E v L) (hb : Below w.heap.size w w') : OwnI w' base E v L :=
  h.kept (grownBy_of_below hb none) (by cases v.ownBlock <;> simp)
theorem OwnI.far {w : World} {base E : Nat} {v : Value} {L : List Int} (h : OwnI w base E v L) {p : Addr} (hp : p.block < base) (u : Value) : OwnI (w.setCell p u) base E v L := by
  refine h.kept (row := some p.block) ⟨rfl, rfl, rfl, by simp, fun i hi hne => Below.heap_setCell w p u i (fun e => hne (by rw [e]))⟩ ?_
  by_cases hb : v.ownBlock = some p.block
  · have := (World.ownsRow.lt h _ hb).1; omega
  · exact .inr hb
theorem OwnI.form {w : World} {base E : Nat} {v : Value} {L : List Int} (h : OwnI w base E v L) :
    ∃ A c, v = .slice A L.length c ∧ L.length ≤ c ∧ c ≤ maxLen ∧ ∀ i (hi : i < L.length), ∃ g, A = some ⟨g, 0, none⟩ ∧ base ≤ g ∧ g < w.heap.size ∧ w.cell? ⟨g, i, none⟩ = some (.int .i64 L[i]) ∧ w.frozen? ⟨g, i, none⟩ = false := by
  rcases h.2 with ⟨rfl, h0⟩ | ⟨g, cap, cur, rfl, hb, hg, hc, hm, hs, ht⟩
  · have : L = [] := List.eq_nil_of_length_eq_zero h0
    subst this
    exact ⟨none, 0, rfl, Nat.le_refl _, by simp [maxLen], fun i hi => absurd hi (by simp)⟩
  · refine ⟨some ⟨g, 0, none⟩, cap, rfl, hc, hm, fun i hi => ⟨g, rfl, hb, (Array.getElem?_eq_some_iff.1 hg).1, ?_, World.ownsRow.frozenAt h i⟩⟩
    have := World.ownsRow.cells h (g := g) rfl i (.int .i64 L[i]) (by simp [hi])
    simpa [Addr.add_lit] using this
end Go.Proofs.YtlknclkkhincfaaDoor
