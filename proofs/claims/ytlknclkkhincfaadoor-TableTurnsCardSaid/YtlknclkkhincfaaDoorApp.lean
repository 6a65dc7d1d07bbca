/-
  append onto a row of bytes that the call owns, the source a slice (nil, empty or not) or a string; over any program. No condition but the sizes.
-/
import Derived.Test.YtlknclkkhincfaaDoorLib
import Derived.Maps.AppendAt
import Derived.Deep.DeepAppendWide
import Derived.Deep.AppendLies
import Derived.Lib.AppendStr
import Derived.RegionTactic
import Derived.OwnWalk
namespace Go.Proofs.YtlknclkkhincfaaDoor
open Go.RowKit
set_option linter.unusedVariables false

/-- t is a type of slices of E, E one of bytes -/
structure U8 (P : Program) (t E : TypeId) : Prop where
  ht : P.underlying t = some (.slice E)
  he : P.underlying E = some (.int .u8)
  hi : ∃ i, P.info? E = some i ∧ i.zero = some (.int .u8 0) ∧ i.size = 1 ∧ i.bytes = 1

/-- v owns a row of bytes, from block base on, that begins with l -/
def OwnB (w : World) (base E : Nat) (v : Value) (l : List UInt8) : Prop := w.ownsRow base E 1 v l.length (Lib.byteCells l)

theorem OwnB.nil (w : World) (base E : Nat) : OwnB w base E (.slice none 0 0) [] := World.ownsRow_nil w base E 1
theorem OwnB.of {w : World} {base E n : Nat} {v : Value} {l : List UInt8} (h : w.ownsRow base E 1 v n (Lib.byteCells l)) : OwnB w base E v l := by
  have := (RB.of_own h).1
  unfold OwnB; rw [← this]; exact h
theorem OwnB.out {w : World} {base E : Nat} {v : Value} {l : List UInt8} (h : OwnB w base E v l) : Out w v l := (RB.of_own h).2
theorem OwnB.alloc {w : World} {base E : Nat} {v : Value} {l : List UInt8} (h : OwnB w base E v l) (o : Obj) : OwnB (w.alloc o) base E v l := World.ownsRow.alloc h o
theorem OwnB.kept {w w' : World} {base E : Nat} {v : Value} {l : List UInt8} {row : Option Nat} (h : OwnB w base E v l) (hg : w.grownBy w' row) (hne : v.ownBlock = none ∨ v.ownBlock ≠ row) : OwnB w' base E v l := World.ownsRow.kept h hg hne
theorem grownBy_of_below {w w' : World} (hb : Below w.heap.size w w') (row : Option Nat) : w.grownBy w' row := ⟨hb.os, hb.tape, hb.output, hb.size, fun i hi _ => hb.block i hi⟩
theorem OwnB.below {w w' : World} {base E : Nat} {v : Value} {l : List UInt8} (h : OwnB w base E v l) (hb : Below w.heap.size w w') : OwnB w' base E v l :=
  h.kept (grownBy_of_below hb none) (by cases v.ownBlock <;> simp)
theorem below_of_grownBy {w w' : World} {base E : Nat} {v : Value} {l : List UInt8} (h : OwnB w base E v l) (hg : w.grownBy w' v.ownBlock) (hb : base ≤ w.heap.size) : Below base w w' :=
  ⟨hg.os, hg.tape, hg.output, hg.size, fun k hk => hg.block k (by omega) (fun e => by have := (World.ownsRow.lt h k e.symm).1; omega)⟩
theorem OwnB.mono {w : World} {base base' E : Nat} {v : Value} {l : List UInt8} (h : OwnB w base E v l) (hb : base' ≤ base) : OwnB w base' E v l := by
  refine ⟨h.1, ?_⟩
  rcases h.2 with h1 | ⟨g, cap, cur, hv, hg, r⟩
  · exact .inl h1
  · exact .inr ⟨g, cap, cur, hv, by omega, r⟩
theorem OwnB.made (w : World) (base E : Nat) (hb : base ≤ w.heap.size) : OwnB (w.alloc (.cells #[] E)) base E (.slice (some ⟨w.heap.size, 0, none⟩) 0 0) [] :=
  World.ownsRow_made (size := 1) w #[] 0 hb (by simp [maxLen]) (by simp)
theorem RB.alloc {w : World} {B : Nat} {A : Option Addr} {l : List UInt8} (h : RB w B A l) (hB : B ≤ w.heap.size) (o : Obj) : RB (w.alloc o) B A l :=
  h.below ((Below.refl _ _).alloc hB _)
theorem OwnB.form {w : World} {base E : Nat} {v : Value} {l : List UInt8} (h : OwnB w base E v l) (hl : 0 < l.length) :
    ∃ g c, v = .slice (some ⟨g, 0, none⟩) l.length c ∧ base ≤ g ∧ g < w.heap.size ∧ l.length ≤ c ∧ c ≤ maxLen := by
  obtain ⟨g, c, hv, h1, h2⟩ := World.ownsRow.form h hl
  obtain ⟨A', c', e, h3, h4, _⟩ := h.out
  rw [hv] at e
  injection e with _ _ e3
  subst e3
  exact ⟨g, c, hv, h1, h2, h3, h4⟩
theorem OwnB.cell {w : World} {base E g c : Nat} {l : List UInt8} (h : OwnB w base E (.slice (some ⟨g, 0, none⟩) l.length c) l) {k : Nat} (hk : k < l.length) :
    w.cell? ⟨g, k, none⟩ = some (.int .u8 (bt l k)) := by
  rw [World.ownsRow.cellAt h k (by omega), bt_getElem hk]
  simp [Lib.byteCells, hk]
theorem OwnB.free {w : World} {base E g c : Nat} {l : List UInt8} (h : OwnB w base E (.slice (some ⟨g, 0, none⟩) l.length c) l) (k : Nat) : w.frozen? ⟨g, k, none⟩ = false := World.ownsRow.frozenAt h k
theorem OwnB.set_ {w : World} {base E g c : Nat} {l : List UInt8} (h : OwnB w base E (.slice (some ⟨g, 0, none⟩) l.length c) l) (k : Nat) (z : UInt8) :
    OwnB (w.setCell ⟨g, k, none⟩ (.int .u8 (z.toNat : Int))) base E (.slice (some ⟨g, 0, none⟩) l.length c) (l.set k z) := by
  have := (World.ownsRow.stored h k (.int .u8 (z.toNat : Int))).1
  unfold OwnB
  rw [List.length_set]
  have e : Lib.byteCells (l.set k z) = (Lib.byteCells l).set k (.int .u8 (z.toNat : Int)) := by simp [Lib.byteCells, List.map_set]
  rw [e]
  exact this
/-- one new cell reads as one byte -/
theorem RB.one (w : World) (E : TypeId) (x : UInt8) (z : Int) (hz : z = (x.toNat : Int)) : RB (w.alloc (.cells #[.int .u8 z] E)) (w.heap.size + 1) (some ⟨w.heap.size, 0, none⟩) [x] := by
  subst hz
  refine .inr ⟨_, _, rfl, by omega, fun i hi => ?_⟩
  obtain rfl : i = 0 := by simpa using hi
  simp [bt]

/-- 'a[lo:]' of an array variable of n bytes -/
theorem run_sliceAt_lo {P : Program} (t E : TypeId) (n : Nat) (ht : P.underlying t = some (.array n E)) (hE : ∃ i, P.info? E = some i ∧ i.size = 1) (g lo : Nat) (z : Int) (k : IntKind) (hz : z = (lo : Int)) (hlo : lo < n) (W : World) :
    (Instr.sliceAt t (.pointer (some ⟨g, 0, none⟩)) (some (.int k z)) none none).run P W = .ok (.slice (some ⟨g, lo, none⟩) (n - lo) (n - lo)) W := by
  subst hz
  obtain ⟨i, hi, hs⟩ := hE
  have hne : ¬ n = lo := by omega
  have h1 : (lo : Int) ≤ (n : Int) := by omega
  simp [Instr.sliceAt, Instr.sureAddr, run_underlying ht, Instr.sliceBounds, run_sliceBound, sizeOf, typeInfo, hi, hs, hne, h1, Addr.add_lit]

section
variable {P : Program} (w : World)

theorem run_append_of_nil (base : Nat) (t ty e : TypeId) (i : TypeInfo) (size : Nat) (ht : P.underlying t = some (.slice e)) (hi : P.info? e = some i)
    (v : Value) (n : Nat) (xs : List Value) (hown : w.ownsRow base e size v n xs) (c : Nat) : (Builtin.append_ #[t, t] ty #[v, .slice none 0 c]).run P w = .ok v w := by
  rcases hown.2 with ⟨rfl, rfl⟩ | ⟨g, cap, cur, rfl, _, _, hnc, _⟩
  · simp [Builtin.append_, run_underlying ht, sizeOf, typeInfo, hi, Builtin.lenOf, Builtin.firstCells]
  · simp [Builtin.append_, run_underlying ht, sizeOf, typeInfo, hi, Builtin.lenOf, Builtin.firstCells, hnc, storeCells]

theorem run_appB {t E : TypeId} (hU : U8 P t E) (base : Nat) (ty : TypeId) {v : Value} {l k : List UInt8} (hown : OwnB w base E v l) {B : Nat} {A : Option Addr} (c : Nat) (hr : RB w B A k)
    (hbytes : l.length + k.length ≤ 200000000000000) (hbase : base ≤ w.heap.size) :
    ∃ v' w', (Builtin.append_ #[t, t] ty #[v, .slice A k.length c]).run P w = .ok v' w' ∧ OwnB w' base E v' (l ++ k) ∧ w.grownBy w' v.ownBlock := by
  obtain ⟨i, hi, hz, h1, h2⟩ := hU.hi
  have hone : ∀ u ∈ Lib.byteCells k, u.oneCell' = true := by
    intro u hu
    simp only [Lib.byteCells, List.mem_map] at hu
    obtain ⟨b, _, rfl⟩ := hu
    rfl
  rcases A with _ | ad
  · obtain rfl : k = [] := by
      rcases hr with hr | ⟨_, _, hA, _⟩
      · exact hr
      · cases hA
    exact ⟨v, w, run_append_of_nil w base t ty E i 1 hU.ht hi v l.length _ hown c, by simpa using hown, World.grownBy.refl w _⟩
  · have hcells : ∀ j u, (Lib.byteCells k)[j]? = some u → w.cell? (ad.add j) = some u := by
      intro j u hu
      have hj : j < k.length := by
        have := (List.getElem?_eq_some_iff.1 hu).1
        simpa [Lib.byteCells] using this
      obtain ⟨b, off, hA, _, hc⟩ := hr.at_ hj
      injection hA with hA
      subst hA
      rw [Addr.add_lit, hc j hj, ← hu]
      simp [Lib.byteCells, hj, bt_getElem hj]
    obtain ⟨v', w', hrun, h3, h4, _⟩ := run_append_own_wide (P := P) w base t ty E i (.int .u8 0) 1 1 hU.ht hi hz h1 h2 rfl (by omega) v l.length (Lib.byteCells l) hown ad k.length c (Lib.byteCells k)
      (by simp [Lib.byteCells]) hcells hone (by simp only [maxLen]; omega) (by omega) hbase
    refine ⟨v', w', hrun, ?_, h4⟩
    unfold OwnB
    rw [List.length_append, Lib.byteCells_append]
    exact h3

theorem run_appS {t E u : TypeId} (hU : U8 P t E) (hu : P.underlying u = some .string) (base : Nat) (ty : TypeId) {v : Value} {l : List UInt8} (hown : OwnB w base E v l) (s : ByteArray)
    (hbytes : l.length + s.size ≤ 140737488355328) (hbase : base ≤ w.heap.size) :
    ∃ v' w', (Builtin.append_ #[t, u] ty #[v, .string s]).run P w = .ok v' w' ∧ OwnB w' base E v' (l ++ s.data.toList) ∧ w.grownBy w' v.ownBlock := by
  obtain ⟨i, hi, hz, h1, h2⟩ := hU.hi
  obtain ⟨v', w', hrun, h3, h4, _⟩ := Lib.run_append_own_string (P := P) w base t u ty E i hU.ht hu hi hz h1 h2 v l.length (Lib.byteCells l) hown s (by simp only [maxLen]; omega) hbytes hbase
  refine ⟨v', w', hrun, ?_, h4⟩
  unfold OwnB
  rw [List.length_append, Lib.byteCells_append, ← size_len, ← Lib.strCells_eq]
  exact h3

theorem wpList_appB {ops : Array Oper} {rest : List Oper} {o : Oper} {a : Act} {Q : Exit → Act → World → Prop} {t E : TypeId} (hU : U8 P t E) (s x : Operand)
    (ho : o.op = .call { callee := .builtin .append, args := #[s, x], argTypes := #[t, t] }) (hgd : o.guard = none)
    (base : Nat) {v : Value} {l k : List UInt8} (hs : a.eval s = v) (hown : OwnB w base E v l) {B : Nat} {A : Option Addr} (m c : Nat) (hx : a.eval x = .slice A m c) (hm : m = k.length) (hr : RB w B A k)
    (hbytes : l.length + k.length ≤ 200000000000000) (hbase : base ≤ w.heap.size)
    (h : ∀ v' w', OwnB w' base E v' (l ++ k) → Below base w w' → wpList P ops Q rest (a.put o.dst v') w') : wpList P ops Q (o :: rest) a w := by
  subst hm
  refine wpList_plain hgd fun K hK => ?_
  obtain ⟨v', w', hrun, h2, h3⟩ := run_appB (P := P) w hU base o.type hown c hr hbytes hbase
  unfold Oper.wp execOp
  simp only [ho, resolve, invoke, builtin, Sem.run_bind, Sem.run_pure, Result.andThen_ok, List.map_toArray, List.map_cons, List.map_nil, hs, hx, hrun]
  exact hK _ _ (h v' w' h2 (below_of_grownBy hown h3 hbase))

theorem wpList_appS {ops : Array Oper} {rest : List Oper} {o : Oper} {a : Act} {Q : Exit → Act → World → Prop} {t E u : TypeId} (hU : U8 P t E) (hu : P.underlying u = some .string) (s x : Operand)
    (ho : o.op = .call { callee := .builtin .append, args := #[s, x], argTypes := #[t, u] }) (hgd : o.guard = none)
    (base : Nat) {v : Value} {l : List UInt8} (hs : a.eval s = v) (hown : OwnB w base E v l) (tx : ByteArray) (hx : a.eval x = .string tx)
    (hbytes : l.length + tx.size ≤ 140737488355328) (hbase : base ≤ w.heap.size)
    (h : ∀ v' w', OwnB w' base E v' (l ++ tx.data.toList) → Below base w w' → wpList P ops Q rest (a.put o.dst v') w') : wpList P ops Q (o :: rest) a w := by
  refine wpList_plain hgd fun K hK => ?_
  obtain ⟨v', w', hrun, h2, h3⟩ := run_appS (P := P) w hU hu base o.type hown tx hbytes hbase
  unfold Oper.wp execOp
  simp only [ho, resolve, invoke, builtin, Sem.run_bind, Sem.run_pure, Result.andThen_ok, List.map_toArray, List.map_cons, List.map_nil, hs, hx, hrun]
  exact hK _ _ (h v' w' h2 (below_of_grownBy hown h3 hbase))
end
end Go.Proofs.YtlknclkkhincfaaDoor
