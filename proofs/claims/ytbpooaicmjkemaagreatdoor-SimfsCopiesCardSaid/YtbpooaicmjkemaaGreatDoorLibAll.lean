/-
  Several texts in one (merge.py): Lib, App, Blk, Strs, Own, Only, App2, Wri, Que, RowX, Turn, Flat, Chg, Bs, CopyX, Ins, Safe, StepC, Scope, More, Open, Open2, OpenI, OpenR, StepA, AppY. Conditions: each part names its own.
-/
import Derived.WalkKit
import Derived.Handy
import Derived.BigQuiet
import Derived.Deep.QuietTactic
import Derived.Deep.LoopGhost
import Derived.Deep.Light
import Derived.Lib.Hide
import Derived.Lib.ItoaNum
import Derived.Lib.ConvBytes
import Derived.Lib.AppendIntMem
import Derived.Maps.AppendAt
import Derived.Deep.DeepAppendWide
import Derived.Deep.AppendLies
import Derived.Lib.AppendStr
import Derived.RegionTactic
import Derived.OwnWalk
import Derived.Laws.OwnMore
import Derived.Deep.Draws
import Derived.Laws.Rows
import Derived.WideShapes
import Derived.Laws.Strings
import Derived.ArgAppend
import Derived.Deep.Upon
import Derived.Sort.Walk0
import Derived.Laws.IdiomCopy
import Derived.Lib.AppendZerosOnto
import Derived.ScopeJumps
import Derived.WalkMore
import Derived.SliceStrings
import Derived.ProofKit
import Derived.OpenShut
import Derived.ShutString
import Derived.ChangeOld
import Derived.Below
import Derived.LaidMore
import Derived.Lay
import Derived.LaidSub
import Derived.Deep.DeepHandedRow
import Derived.Lib.LaidTab
import Derived.SizedLaws
import Derived.SevenTiedAt
import Derived.Deep.Slices
/-! Words for bytes in memory, over any program: a slice that reads as a list of bytes. No condition. -/
namespace Go.Proofs.YtbpooaicmjkemaaGreatDoor
open Go.RowKit
set_option linter.unusedVariables false

/-- byte i of a list, as a number; 0 behind its end -/
def bt (l : List UInt8) (i : Nat) : Int := ((l.getD i 0).toNat : Int)
theorem bt_lo (l : List UInt8) (i : Nat) : 0 ≤ bt l i := by unfold bt; omega
theorem bt_hi (l : List UInt8) (i : Nat) : bt l i ≤ 255 := by
  unfold bt; have := (l.getD i 0).toNat_lt; omega
theorem drop_bt {l : List UInt8} {j : Nat} (h : j < l.length) : ∃ c, l.drop j = c :: l.drop (j + 1) ∧ (c.toNat : Int) = bt l j := by
  refine ⟨l[j], List.drop_eq_getElem_cons h, ?_⟩
  unfold bt; rw [List.getD_eq_getElem?_getD, List.getElem?_eq_getElem h]; rfl

/-- a slice's address reads as a list of bytes, below block B -/
def RB (w : World) (B : Nat) (A : Option Addr) (l : List UInt8) : Prop :=
  l = [] ∨ ∃ b off, A = some ⟨b, off, none⟩ ∧ b < B ∧ ∀ i, i < l.length → w.cell? ⟨b, off + i, none⟩ = some (.int .u8 (bt l i))
theorem RB.at_ {w : World} {B : Nat} {A : Option Addr} {l : List UInt8} (h : RB w B A l) {j : Nat} (hj : j < l.length) :
    ∃ b off, A = some ⟨b, off, none⟩ ∧ b < B ∧ ∀ i, i < l.length → w.cell? ⟨b, off + i, none⟩ = some (.int .u8 (bt l i)) := by
  rcases h with h | h
  · rw [h] at hj; simp at hj
  · exact h

/-- a test, laid ahead of a walk as a rule for '==' alone -/
theorem on_eq (x y : Int) {p : Prop} (f : Hid (x = y) → Hid ((x == y) = true) → p) (g : Hid (¬ x = y) → Hid ((x == y) = false) → p) : p := by
  by_cases hx : x = y
  · exact f hx (by unfold Hid; simpa using hx)
  · exact g hx (by unfold Hid; simpa using hx)

/-- the same, '!=' too -/
theorem on_ne (x y : Int) {p : Prop} (f : Hid (x = y) → Hid ((x == y) = true ∧ (x != y) = false) → p) (g : Hid (¬ x = y) → Hid ((x == y) = false ∧ (x != y) = true) → p) : p := by
  by_cases hx : x = y
  · exact f hx (by unfold Hid; simpa using hx)
  · exact g hx (by unfold Hid; simpa using hx)
theorem ret3 {T : Int × Int × Int} {a b c : Int} (h : T = (a, b, c)) :
    Ending.returned (.tuple #[.int .i64 a, .int .i64 b, .int .i64 c]) = .returned (.tuple #[.int .i64 T.1, .int .i64 T.2.1, .int .i64 T.2.2]) := by rw [h]
theorem pow10_le {j : Nat} (h : j ≤ 16) : (10 : Int) ^ j ≤ 10000000000000000 := by
  have : (10 : Nat) ^ j ≤ 10 ^ 16 := Nat.pow_le_pow_right (by omega) h
  have e : ((10 : Nat) ^ j : Nat) = ((10 : Int) ^ j) := by simp
  omega

/-! ### strings -/
theorem str_eq {s : ByteArray} {l : List UInt8} (h : s.data.toList = l) : s = ⟨l.toArray⟩ := by
  subst h; cases s; rfl
theorem ret_str {s : ByteArray} {l : List UInt8} (h : s.data.toList = l) : Ending.returned (.string s) = .returned (.string ⟨l.toArray⟩) := by rw [str_eq h]
theorem size_len (s : ByteArray) : s.size = s.data.toList.length := rfl
theorem app_list (s t : ByteArray) : (s ++ t).data.toList = s.data.toList ++ t.data.toList := by simp [ByteArray.data_append]
/-- 'string([]byte{x})' -/
theorem run_conv1 {P : Program} (src dst e : TypeId) (hs : P.underlying src = some (.slice e)) (he : P.underlying e = some (.int .u8)) (hd : P.underlying dst = some .string) (W : World) (x : Int) :
    (convert src dst (.slice (some ⟨W.heap.size, 0, none⟩) 1 1)).run P (W.alloc (.cells #[.int .u8 x] e)) = .ok (.string (strOfNums [x])) (W.alloc (.cells #[.int .u8 x] e)) := by
  refine run_convert_bytes_arg _ src e hs he _ _ 1 1 [x] rfl ?_ dst hd
  intro i hi
  obtain rfl : i = 0 := by omega
  simp

theorem decDigits_len {u : Nat} (h : u < 10 ^ 19) : (Lib.decDigits u).length ≤ 19 := by
  rw [Lib.decDigits_length]
  by_cases h0 : u = 0
  · subst h0; rw [Lib.nDigits_small (by omega)]; omega
  · rcases Nat.lt_or_ge 19 (Lib.nDigits u) with h1 | h1
    · exfalso
      have key : ∀ (k v : Nat), 10 ^ k ≤ 10 ^ k * (v + 1) := fun k v => Nat.le_mul_of_pos_right _ (by omega)
      have : ∀ (k v : Nat), v < 10 ^ (k + 1) → Lib.nDigits v ≤ k + 1 := by
        intro k
        induction k with
        | zero => intro v hv; rw [Lib.nDigits_small (by omega)]; omega
        | succ k ih =>
          intro v hv
          by_cases hv10 : v < 10
          · rw [Lib.nDigits_small hv10]; omega
          · rw [Lib.nDigits_big hv10]
            have := ih (v / 10) (by rw [Nat.pow_succ] at hv; omega)
            omega
      have := this 18 u h
      omega
    · exact h1

/-! ### slices of bytes that come back -/
/-- v is a slice that reads as l -/
def Out (w : World) (v : Value) (l : List UInt8) : Prop :=
  ∃ A c, v = .slice A l.length c ∧ l.length ≤ c ∧ c ≤ maxLen ∧ RB w w.heap.size A l
theorem Out.nil (w : World) : Out w (.slice none 0 0) [] := ⟨none, 0, rfl, Nat.le_refl _, by simp [maxLen], .inl rfl⟩
theorem RB.keep {w w' : World} {B B' : Nat} {A : Option Addr} {l : List UInt8} (h : RB w B A l) (hB : B ≤ B') (hk : ∀ p : Addr, p.block < B → w'.cell? p = w.cell? p) : RB w' B' A l := by
  rcases h with h | ⟨b, off, hA, hb, hc⟩
  · exact .inl h
  · exact .inr ⟨b, off, hA, by omega, fun i hi => (hk _ hb).trans (hc i hi)⟩
theorem RB.below {w w' : World} {B : Nat} {A : Option Addr} {l : List UInt8} (h : RB w B A l) (hb : Below B w w') : RB w' B A l := h.keep (Nat.le_refl _) fun _ hp => hb.cell hp
theorem RB.mono {w : World} {B B' : Nat} {A : Option Addr} {l : List UInt8} (h : RB w B A l) (hB : B ≤ B') : RB w B' A l := h.keep hB fun _ _ => rfl
theorem bt_getElem {l : List UInt8} {i : Nat} (h : i < l.length) : bt l i = (l[i].toNat : Int) := by
  unfold bt; rw [List.getD_eq_getElem?_getD, List.getElem?_eq_getElem h]; rfl
theorem RB.of_own {w : World} {base E n : Nat} {v : Value} {l : List UInt8} (h : w.ownsRow base E 1 v n (Lib.byteCells l)) : n = l.length ∧ Out w v l := by
  have hn : l.length = n := by have := h.1; rw [Nat.mul_one] at this; rw [← this]; simp [Lib.byteCells]
  refine ⟨hn.symm, ?_⟩
  subst hn
  rcases h.2 with ⟨rfl, h0⟩ | ⟨g, cap, cur, rfl, hb, hg, hc, hm, hs, ht⟩
  · obtain rfl : l = [] := List.eq_nil_of_length_eq_zero h0
    exact Out.nil w
  · refine ⟨some ⟨g, 0, none⟩, cap, rfl, hc, hm, .inr ⟨g, 0, rfl, ?_, fun i hi => ?_⟩⟩
    · exact (Array.getElem?_eq_some_iff.1 hg).1
    · have := h.cells (g := g) rfl i (.int .u8 (l[i].toNat : Int)) (by simp [Lib.byteCells, hi])
      rw [bt_getElem hi, ← this, Addr.add_lit, Nat.zero_add]
theorem RB.of_out' {w : World} {A : Option Addr} {n c : Nat} {l : List UInt8} (h : Out w (.slice A n c) l) (hn : l.length = n) : RB w w.heap.size A l := by
  obtain ⟨A', c', e, _, _, hr⟩ := h
  injection e with e1 e2 e3
  subst e1
  exact hr
theorem RB.of_out {w : World} {A : Option Addr} {c : Nat} {l : List UInt8} (h : Out w (.slice A l.length c) l) : RB w w.heap.size A l := RB.of_out' h rfl
theorem below_bytesWorld (w : World) (e : TypeId) (s : ByteArray) : Below w.heap.size w (Lib.bytesWorld w e s) :=
  ⟨rfl, rfl, rfl, by rw [Lib.bytesWorld_size]; omega, fun k hk => Lib.bytesWorld_at_old w e s k hk⟩
theorem out_bytesWorld (w : World) (e : TypeId) (s : ByteArray) (hs : s.size ≤ maxLen) :
    Out (Lib.bytesWorld w e s) (.slice (some ⟨w.heap.size, 0, none⟩) s.size (grownCap w s.size 0 e)) s.data.toList := by
  refine ⟨_, _, rfl, grownCap_ge w _ _ _, grownCap_le_maxLen w _ _ _ hs, .inr ⟨w.heap.size, 0, rfl, by rw [Lib.bytesWorld_size]; omega, fun i hi => ?_⟩⟩
  rw [Nat.zero_add, Lib.bytesWorld_cell w e s i (by rw [size_len]; exact hi)]
  rfl
/-- 'string(b)' of a slice that reads as l -/
theorem run_convRB {P : Program} (src dst e : TypeId) (hs : P.underlying src = some (.slice e)) (he : P.underlying e = some (.int .u8)) (hd : P.underlying dst = some .string)
    {w : World} {B : Nat} {A : Option Addr} {l : List UInt8} (h : RB w B A l) (n c : Nat) (hn : n = l.length) :
    (convert src dst (.slice A n c)).run P w = .ok (.string ⟨l.toArray⟩) w := by
  subst hn
  rcases h with rfl | ⟨b, off, rfl, _, hc⟩
  · rw [run_convert_bytes_string w src dst e _ _ c hs he hd]
    rcases A with _ | a
    · simp [Conv.bytesToString]; rfl
    · have hl := run_loadCells_list (P := P) w a [] (fun j v hj => by simp at hj)
      simp at hl
      simp [Conv.bytesToString, hl]; rfl
  · refine run_convert_bytes_back w src dst e ⟨b, off, none⟩ c l hs he hd fun j hj => ?_
    rw [Addr.add_lit, hc j hj, bt_getElem hj]
theorem RB.sub {w : World} {B : Nat} {b off : Nat} {l : List UInt8} (hb : b < B) (hc : ∀ i, i < l.length → w.cell? ⟨b, off + i, none⟩ = some (.int .u8 (bt l i))) (i n : Nat) (hn : i + n ≤ l.length) :
    RB w B (some ⟨b, off + i, none⟩) ((l.drop i).take n) := by
  refine .inr ⟨b, off + i, rfl, hb, fun k hk => ?_⟩
  rw [List.length_take, List.length_drop] at hk
  rw [Nat.add_assoc, hc (i + k) (by omega)]
  unfold bt
  rw [List.getD_eq_getElem?_getD, List.getD_eq_getElem?_getD, List.getElem?_take_of_lt (by omega), List.getElem?_drop]
theorem take_drop_len {l : List UInt8} {i n : Nat} (h : i + n ≤ l.length) : n = ((l.drop i).take n).length := by
  rw [List.length_take, List.length_drop]; omega
theorem out_conv (w : World) (e : TypeId) (s : ByteArray) {l : List UInt8} {n : Nat} (h : s.data.toList = l) (hn : l.length = n) (hm : n ≤ maxLen) :
    Out (Lib.bytesWorld w e s) (.slice (some ⟨w.heap.size, 0, none⟩) n (grownCap w n 0 e)) l := by
  subst hn; subst h
  exact out_bytesWorld w e s hm
end Go.Proofs.YtbpooaicmjkemaaGreatDoor

/-! append onto a row of bytes that the call owns, the source a slice (nil, empty or not) or a string; over any program. No condition but the sizes. -/
namespace Go.Proofs.YtbpooaicmjkemaaGreatDoor
open Go.RowKit
set_option linter.unusedVariables false

/-- t is a type of slices of E, E one of bytes -/
structure U8 (P : Program) (t E : TypeId) : Prop where
  ht : P.underlying t = some (.slice E)
  he : P.underlying E = some (.int .u8)
  hi : ∃ i, P.info? E = some i ∧ i.zero = some (.int .u8 0) ∧ i.size = 1 ∧ i.bytes = 1

/-- v owns a row of bytes, from block base on, that begins with l -/
def OwnB (w : World) (base E : Nat) (v : Value) (l : List UInt8) : Prop := w.ownsRow base E 1 v l.length (Lib.byteCells l)

theorem OwnB.nil (w : World) (base E : Nat) : OwnB w base E (.slice none 0 0) [] := World.ownsRow_nil w base E 1
theorem OwnB.of {w : World} {base E n : Nat} {v : Value} {l : List UInt8} (h : w.ownsRow base E 1 v n (Lib.byteCells l)) : OwnB w base E v l := by
  have := (RB.of_own h).1
  unfold OwnB; rw [← this]; exact h
theorem OwnB.out {w : World} {base E : Nat} {v : Value} {l : List UInt8} (h : OwnB w base E v l) : Out w v l := (RB.of_own h).2
theorem OwnB.alloc {w : World} {base E : Nat} {v : Value} {l : List UInt8} (h : OwnB w base E v l) (o : Obj) : OwnB (w.alloc o) base E v l := World.ownsRow.alloc h o
theorem OwnB.kept {w w' : World} {base E : Nat} {v : Value} {l : List UInt8} {row : Option Nat} (h : OwnB w base E v l) (hg : w.grownBy w' row) (hne : v.ownBlock = none ∨ v.ownBlock ≠ row) : OwnB w' base E v l := World.ownsRow.kept h hg hne
theorem grownBy_of_below {w w' : World} (hb : Below w.heap.size w w') (row : Option Nat) : w.grownBy w' row := ⟨hb.os, hb.tape, hb.output, hb.size, fun i hi _ => hb.block i hi⟩
theorem OwnB.below {w w' : World} {base E : Nat} {v : Value} {l : List UInt8} (h : OwnB w base E v l) (hb : Below w.heap.size w w') : OwnB w' base E v l :=
  h.kept (grownBy_of_below hb none) (by cases v.ownBlock <;> simp)
theorem below_of_grownBy {w w' : World} {base E : Nat} {v : Value} {l : List UInt8} (h : OwnB w base E v l) (hg : w.grownBy w' v.ownBlock) (hb : base ≤ w.heap.size) : Below base w w' :=
  ⟨hg.os, hg.tape, hg.output, hg.size, fun k hk => hg.block k (by omega) (fun e => by have := (World.ownsRow.lt h k e.symm).1; omega)⟩
theorem OwnB.mono {w : World} {base base' E : Nat} {v : Value} {l : List UInt8} (h : OwnB w base E v l) (hb : base' ≤ base) : OwnB w base' E v l := by
  refine ⟨h.1, ?_⟩
  rcases h.2 with h1 | ⟨g, cap, cur, hv, hg, r⟩
  · exact .inl h1
  · exact .inr ⟨g, cap, cur, hv, by omega, r⟩
theorem OwnB.made (w : World) (base E : Nat) (hb : base ≤ w.heap.size) : OwnB (w.alloc (.cells #[] E)) base E (.slice (some ⟨w.heap.size, 0, none⟩) 0 0) [] :=
  World.ownsRow_made (size := 1) w #[] 0 hb (by simp [maxLen]) (by simp)
theorem RB.alloc {w : World} {B : Nat} {A : Option Addr} {l : List UInt8} (h : RB w B A l) (hB : B ≤ w.heap.size) (o : Obj) : RB (w.alloc o) B A l :=
  h.below ((Below.refl _ _).alloc hB _)
theorem OwnB.form {w : World} {base E : Nat} {v : Value} {l : List UInt8} (h : OwnB w base E v l) (hl : 0 < l.length) :
    ∃ g c, v = .slice (some ⟨g, 0, none⟩) l.length c ∧ base ≤ g ∧ g < w.heap.size ∧ l.length ≤ c ∧ c ≤ maxLen := by
  obtain ⟨g, c, hv, h1, h2⟩ := World.ownsRow.form h hl
  obtain ⟨A', c', e, h3, h4, _⟩ := h.out
  rw [hv] at e
  injection e with _ _ e3
  subst e3
  exact ⟨g, c, hv, h1, h2, h3, h4⟩
theorem OwnB.cell {w : World} {base E g c : Nat} {l : List UInt8} (h : OwnB w base E (.slice (some ⟨g, 0, none⟩) l.length c) l) {k : Nat} (hk : k < l.length) :
    w.cell? ⟨g, k, none⟩ = some (.int .u8 (bt l k)) := by
  rw [World.ownsRow.cellAt h k (by omega), bt_getElem hk]
  simp [Lib.byteCells, hk]
theorem OwnB.free {w : World} {base E g c : Nat} {l : List UInt8} (h : OwnB w base E (.slice (some ⟨g, 0, none⟩) l.length c) l) (k : Nat) : w.frozen? ⟨g, k, none⟩ = false := World.ownsRow.frozenAt h k
theorem OwnB.set_ {w : World} {base E g c : Nat} {l : List UInt8} (h : OwnB w base E (.slice (some ⟨g, 0, none⟩) l.length c) l) (k : Nat) (z : UInt8) :
    OwnB (w.setCell ⟨g, k, none⟩ (.int .u8 (z.toNat : Int))) base E (.slice (some ⟨g, 0, none⟩) l.length c) (l.set k z) := by
  have := (World.ownsRow.stored h k (.int .u8 (z.toNat : Int))).1
  unfold OwnB
  rw [List.length_set]
  have e : Lib.byteCells (l.set k z) = (Lib.byteCells l).set k (.int .u8 (z.toNat : Int)) := by simp [Lib.byteCells, List.map_set]
  rw [e]
  exact this
/-- one new cell reads as one byte -/
theorem RB.one (w : World) (E : TypeId) (x : UInt8) (z : Int) (hz : z = (x.toNat : Int)) : RB (w.alloc (.cells #[.int .u8 z] E)) (w.heap.size + 1) (some ⟨w.heap.size, 0, none⟩) [x] := by
  subst hz
  refine .inr ⟨_, _, rfl, by omega, fun i hi => ?_⟩
  obtain rfl : i = 0 := by simpa using hi
  simp [bt]

/-- 'a[lo:]' of an array variable of n bytes -/
theorem run_sliceAt_lo {P : Program} (t E : TypeId) (n : Nat) (ht : P.underlying t = some (.array n E)) (hE : ∃ i, P.info? E = some i ∧ i.size = 1) (g lo : Nat) (z : Int) (k : IntKind) (hz : z = (lo : Int)) (hlo : lo < n) (W : World) :
    (Instr.sliceAt t (.pointer (some ⟨g, 0, none⟩)) (some (.int k z)) none none).run P W = .ok (.slice (some ⟨g, lo, none⟩) (n - lo) (n - lo)) W := by
  subst hz
  obtain ⟨i, hi, hs⟩ := hE
  have hne : ¬ n = lo := by omega
  have h1 : (lo : Int) ≤ (n : Int) := by omega
  simp [Instr.sliceAt, Instr.sureAddr, run_underlying ht, Instr.sliceBounds, run_sliceBound, sizeOf, typeInfo, hi, hs, hne, h1, Addr.add_lit]

section
variable {P : Program} (w : World)

theorem run_append_of_nil (base : Nat) (t ty e : TypeId) (i : TypeInfo) (size : Nat) (ht : P.underlying t = some (.slice e)) (hi : P.info? e = some i)
    (v : Value) (n : Nat) (xs : List Value) (hown : w.ownsRow base e size v n xs) (c : Nat) : (Builtin.append_ #[t, t] ty #[v, .slice none 0 c]).run P w = .ok v w := by
  rcases hown.2 with ⟨rfl, rfl⟩ | ⟨g, cap, cur, rfl, _, _, hnc, _⟩
  · simp [Builtin.append_, run_underlying ht, sizeOf, typeInfo, hi, Builtin.lenOf, Builtin.firstCells]
  · simp [Builtin.append_, run_underlying ht, sizeOf, typeInfo, hi, Builtin.lenOf, Builtin.firstCells, hnc, storeCells]

theorem run_appB {t E : TypeId} (hU : U8 P t E) (base : Nat) (ty : TypeId) {v : Value} {l k : List UInt8} (hown : OwnB w base E v l) {B : Nat} {A : Option Addr} (c : Nat) (hr : RB w B A k)
    (hbytes : l.length + k.length ≤ 200000000000000) (hbase : base ≤ w.heap.size) :
    ∃ v' w', (Builtin.append_ #[t, t] ty #[v, .slice A k.length c]).run P w = .ok v' w' ∧ OwnB w' base E v' (l ++ k) ∧ w.grownBy w' v.ownBlock := by
  obtain ⟨i, hi, hz, h1, h2⟩ := hU.hi
  have hone : ∀ u ∈ Lib.byteCells k, u.oneCell' = true := by
    intro u hu
    simp only [Lib.byteCells, List.mem_map] at hu
    obtain ⟨b, _, rfl⟩ := hu
    rfl
  rcases A with _ | ad
  · obtain rfl : k = [] := by
      rcases hr with hr | ⟨_, _, hA, _⟩
      · exact hr
      · cases hA
    exact ⟨v, w, run_append_of_nil w base t ty E i 1 hU.ht hi v l.length _ hown c, by simpa using hown, World.grownBy.refl w _⟩
  · have hcells : ∀ j u, (Lib.byteCells k)[j]? = some u → w.cell? (ad.add j) = some u := by
      intro j u hu
      have hj : j < k.length := by
        have := (List.getElem?_eq_some_iff.1 hu).1
        simpa [Lib.byteCells] using this
      obtain ⟨b, off, hA, _, hc⟩ := hr.at_ hj
      injection hA with hA
      subst hA
      rw [Addr.add_lit, hc j hj, ← hu]
      simp [Lib.byteCells, hj, bt_getElem hj]
    obtain ⟨v', w', hrun, h3, h4, _⟩ := run_append_own_wide (P := P) w base t ty E i (.int .u8 0) 1 1 hU.ht hi hz h1 h2 rfl (by omega) v l.length (Lib.byteCells l) hown ad k.length c (Lib.byteCells k)
      (by simp [Lib.byteCells]) hcells hone (by simp only [maxLen]; omega) (by omega) hbase
    refine ⟨v', w', hrun, ?_, h4⟩
    unfold OwnB
    rw [List.length_append, Lib.byteCells_append]
    exact h3

theorem run_appS {t E u : TypeId} (hU : U8 P t E) (hu : P.underlying u = some .string) (base : Nat) (ty : TypeId) {v : Value} {l : List UInt8} (hown : OwnB w base E v l) (s : ByteArray)
    (hbytes : l.length + s.size ≤ 140737488355328) (hbase : base ≤ w.heap.size) :
    ∃ v' w', (Builtin.append_ #[t, u] ty #[v, .string s]).run P w = .ok v' w' ∧ OwnB w' base E v' (l ++ s.data.toList) ∧ w.grownBy w' v.ownBlock := by
  obtain ⟨i, hi, hz, h1, h2⟩ := hU.hi
  obtain ⟨v', w', hrun, h3, h4, _⟩ := Lib.run_append_own_string (P := P) w base t u ty E i hU.ht hu hi hz h1 h2 v l.length (Lib.byteCells l) hown s (by simp only [maxLen]; omega) hbytes hbase
  refine ⟨v', w', hrun, ?_, h4⟩
  unfold OwnB
  rw [List.length_append, Lib.byteCells_append, ← size_len, ← Lib.strCells_eq]
  exact h3

theorem wpList_appB {ops : Array Oper} {rest : List Oper} {o : Oper} {a : Act} {Q : Exit → Act → World → Prop} {t E : TypeId} (hU : U8 P t E) (s x : Operand)
    (ho : o.op = .call { callee := .builtin .append, args := #[s, x], argTypes := #[t, t] }) (hgd : o.guard = none)
    (base : Nat) {v : Value} {l k : List UInt8} (hs : a.eval s = v) (hown : OwnB w base E v l) {B : Nat} {A : Option Addr} (m c : Nat) (hx : a.eval x = .slice A m c) (hm : m = k.length) (hr : RB w B A k)
    (hbytes : l.length + k.length ≤ 200000000000000) (hbase : base ≤ w.heap.size)
    (h : ∀ v' w', OwnB w' base E v' (l ++ k) → Below base w w' → wpList P ops Q rest (a.put o.dst v') w') : wpList P ops Q (o :: rest) a w := by
  subst hm
  refine wpList_plain hgd fun K hK => ?_
  obtain ⟨v', w', hrun, h2, h3⟩ := run_appB (P := P) w hU base o.type hown c hr hbytes hbase
  unfold Oper.wp execOp
  simp only [ho, resolve, invoke, builtin, Sem.run_bind, Sem.run_pure, Result.andThen_ok, List.map_toArray, List.map_cons, List.map_nil, hs, hx, hrun]
  exact hK _ _ (h v' w' h2 (below_of_grownBy hown h3 hbase))

theorem wpList_appS {ops : Array Oper} {rest : List Oper} {o : Oper} {a : Act} {Q : Exit → Act → World → Prop} {t E u : TypeId} (hU : U8 P t E) (hu : P.underlying u = some .string) (s x : Operand)
    (ho : o.op = .call { callee := .builtin .append, args := #[s, x], argTypes := #[t, u] }) (hgd : o.guard = none)
    (base : Nat) {v : Value} {l : List UInt8} (hs : a.eval s = v) (hown : OwnB w base E v l) (tx : ByteArray) (hx : a.eval x = .string tx)
    (hbytes : l.length + tx.size ≤ 140737488355328) (hbase : base ≤ w.heap.size)
    (h : ∀ v' w', OwnB w' base E v' (l ++ tx.data.toList) → Below base w w' → wpList P ops Q rest (a.put o.dst v') w') : wpList P ops Q (o :: rest) a w := by
  refine wpList_plain hgd fun K hK => ?_
  obtain ⟨v', w', hrun, h2, h3⟩ := run_appS (P := P) w hU hu base o.type hown tx hbytes hbase
  unfold Oper.wp execOp
  simp only [ho, resolve, invoke, builtin, Sem.run_bind, Sem.run_pure, Result.andThen_ok, List.map_toArray, List.map_cons, List.map_nil, hs, hx, hrun]
  exact hK _ _ (h v' w' h2 (below_of_grownBy hown h3 hbase))
end
end Go.Proofs.YtbpooaicmjkemaaGreatDoor

/-! A block that is known whole; over any program. No condition. -/
namespace Go.Proofs.YtbpooaicmjkemaaGreatDoor
open Go.RowKit
set_option linter.unusedVariables false
/-- block g is just the cells cs of element type t, none frozen -/
def Blk (w : World) (g : Nat) (t : TypeId) (cs : Array Value) : Prop := w.heap[g]? = some (.cells cs t (0, 0))
section
variable {w w' : World} {g : Nat} {t : TypeId} {cs : Array Value}
theorem Blk.lt (h : Blk w g t cs) : g < w.heap.size := by
  rcases Nat.lt_or_ge g w.heap.size with hlt | hge
  · exact hlt
  · unfold Blk at h; rw [Array.getElem?_eq_none hge] at h; cases h
theorem Blk.cell (h : Blk w g t cs) (i : Nat) : w.cell? ⟨g, i, none⟩ = cs[i]? := cell_of_row w g i cs t (0, 0) h
theorem Blk.frozen (h : Blk w g t cs) (i : Nat) : w.frozen? ⟨g, i, none⟩ = false := by
  unfold Blk at h
  simp [World.frozen?, h]
theorem Blk.new (w : World) (t : TypeId) (cs : Array Value) : Blk (w.alloc (.cells cs t)) w.heap.size t cs := heap_alloc_new w _
theorem Blk.drew (h : Blk w g t cs) : Blk w.drew g t cs := h
theorem Blk.alloc (h : Blk w g t cs) (o : Obj) : Blk (w.alloc o) g t cs := (Below.heap_alloc w o g h.lt).trans h
theorem Blk.set_ (h : Blk w g t cs) (i : Nat) (u : Value) : Blk (w.setCell ⟨g, i, none⟩ u) g t (cs.setIfInBounds i u) := by
  unfold Blk at h ⊢
  simp [World.setCell, Array.getElem?_modify, h]
theorem Blk.far (h : Blk w g t cs) {p : Addr} (hp : g ≠ p.block) (u : Value) : Blk (w.setCell p u) g t cs := (Below.heap_setCell w p u g hp).trans h
theorem Blk.below {B : Nat} (h : Blk w g t cs) (hb : Below B w w') (hg : g < B) : Blk w' g t cs := (hb.block g hg).trans h
theorem Blk.keep (h : Blk w g t cs) (hb : Below w.heap.size w w') : Blk w' g t cs := h.below hb h.lt
theorem Blk.grown {row : Option Nat} (h : Blk w g t cs) (hb : w.grownBy w' row) (hg : some g ≠ row) : Blk w' g t cs := (hb.block g h.lt hg).trans h
theorem Blk.ne_ {g' : Nat} {t' : TypeId} {cs' : Array Value} (h : Blk w g t cs) (h' : Blk w g' t' cs') (hne : t ≠ t') : g ≠ g' := by
  rintro rfl
  unfold Blk at h h'
  rw [h] at h'
  injection h' with h'
  injection h' with _ ht
  exact hne ht
/-- a store at a place of a row whose rest reads as l: the rest from there reads as c :: l -/
theorem drop_set (cs : Array Value) (i : Nat) (u : Value) (hi : i < cs.size) : (cs.setIfInBounds i u).toList.drop i = u :: cs.toList.drop (i + 1) := by
  rw [Array.toList_setIfInBounds]
  rw [List.drop_eq_getElem_cons (by simpa using hi), List.drop_set_of_lt (by omega)]
  simp
/-- the rest of a block reads as bytes -/
theorem Blk.rb (h : Blk w g t cs) (i : Nat) {l : List UInt8} (hl : cs.toList.drop i = Lib.byteCells l) {B : Nat} (hB : g < B) : RB w B (some ⟨g, i, none⟩) l := by
  refine .inr ⟨g, i, rfl, hB, fun k hk => ?_⟩
  rw [h.cell, ← Array.getElem?_toList, ← List.getElem?_drop, hl, bt_getElem hk]
  simp [Lib.byteCells, hk]
end
theorem RB.drewN {w : World} {B : Nat} {A : Option Addr} {l : List UInt8} (h : RB w B A l) (n : Nat) : RB (w.drewN n) B A l := h
theorem bdrewN {B : Nat} {a w : World} (h : Below B a w) (n : Nat) : Below B a (w.drewN n) := ⟨h.os, h.tape, h.output, h.size, h.block⟩
end Go.Proofs.YtbpooaicmjkemaaGreatDoor

/-! Words for slices of strings; over any program. No condition. -/
namespace Go.Proofs.YtbpooaicmjkemaaGreatDoor
open Go.RowKit
set_option linter.unusedVariables false
/-- string i of a list; the empty one behind its end -/
def st (L : List ByteArray) (i : Nat) : ByteArray := L.getD i ⟨#[]⟩
theorem st_getElem {L : List ByteArray} {i : Nat} (h : i < L.length) : st L i = L[i] := by
  unfold st; rw [List.getD_eq_getElem?_getD, List.getElem?_eq_getElem h]; rfl
theorem drop_st {L : List ByteArray} {j : Nat} (h : j < L.length) : L.drop j = st L j :: L.drop (j + 1) := by
  rw [st_getElem h]; exact List.drop_eq_getElem_cons h
theorem st_mem {L : List ByteArray} {i : Nat} (h : i < L.length) : st L i ∈ L := by rw [st_getElem h]; exact List.getElem_mem h
/-- a slice's address reads as a list of strings, below block B -/
def RS (w : World) (B : Nat) (A : Option Addr) (L : List ByteArray) : Prop :=
  L = [] ∨ ∃ b off, A = some ⟨b, off, none⟩ ∧ b < B ∧ ∀ i, i < L.length → w.cell? ⟨b, off + i, none⟩ = some (.string (st L i))
theorem RS.at_ {w : World} {B : Nat} {A : Option Addr} {L : List ByteArray} (h : RS w B A L) {j : Nat} (hj : j < L.length) :
    ∃ b off, A = some ⟨b, off, none⟩ ∧ b < B ∧ ∀ i, i < L.length → w.cell? ⟨b, off + i, none⟩ = some (.string (st L i)) := by
  rcases h with h | h
  · rw [h] at hj; simp at hj
  · exact h
theorem RS.keep {w w' : World} {B B' : Nat} {A : Option Addr} {L : List ByteArray} (h : RS w B A L) (hB : B ≤ B') (hk : ∀ p : Addr, p.block < B → w'.cell? p = w.cell? p) : RS w' B' A L := by
  rcases h with h | ⟨b, off, hA, hb, hc⟩
  · exact .inl h
  · exact .inr ⟨b, off, hA, by omega, fun i hi => (hk _ hb).trans (hc i hi)⟩
theorem RS.below {w w' : World} {B : Nat} {A : Option Addr} {L : List ByteArray} (h : RS w B A L) (hb : Below B w w') : RS w' B A L := h.keep (Nat.le_refl _) fun _ hp => hb.cell hp
theorem RS.mono {w : World} {B B' : Nat} {A : Option Addr} {L : List ByteArray} (h : RS w B A L) (hB : B ≤ B') : RS w B' A L := h.keep hB fun _ _ => rfl
/-- '==' of strings, as the walk spells it -/
theorem str_ne {s t : ByteArray} (h : ¬ s = t) : (s.toList == t.toList) = false := by
  rw [beq_eq_false_iff_ne, ByteArray.toList_eq, ByteArray.toList_eq]
  exact fun e => h (WideShapes.bytes_inj e)
end Go.Proofs.YtbpooaicmjkemaaGreatDoor

/-! append onto a row of one-cell values that the call owns, the source a slice that reads as a list of values; a row of strings; over any program. No condition but the sizes. -/
namespace Go.Proofs.YtbpooaicmjkemaaGreatDoor
open Go.RowKit
set_option linter.unusedVariables false

/-- t is a type of slices of E, E of one cell and at most 64 bytes -/
structure UE (P : Program) (t E : TypeId) : Prop where
  ht : P.underlying t = some (.slice E)
  hi : ∃ i z, P.info? E = some i ∧ i.zero = some z ∧ z.cells.size = 1 ∧ i.size = 1 ∧ i.bytes ≤ 64

theorem cell_new (w : World) (E : TypeId) (x : Value) {g : Nat} (hg : w.heap.size = g) : (w.alloc (.cells #[x] E)).cell? ⟨g, 0, none⟩ = some x := by subst hg; simp
theorem below_of_grown {w w' : World} {base E n : Nat} {v : Value} {xs : List Value} (h : w.ownsRow base E 1 v n xs) (hg : w.grownBy w' v.ownBlock) (hb : base ≤ w.heap.size) : Below base w w' :=
  ⟨hg.os, hg.tape, hg.output, hg.size, fun k hk => hg.block k (by omega) (fun e => by have := (World.ownsRow.lt h k e.symm).1; omega)⟩

section
variable {P : Program} (w : World)
theorem run_appV {t E : TypeId} (hU : UE P t E) (base : Nat) (ty : TypeId) {v : Value} {n : Nat} {xs : List Value} (hown : w.ownsRow base E 1 v n xs) (ad : Addr) (m c : Nat) (news : List Value) (hl : news.length = m)
    (hnews : ∀ j u, news[j]? = some u → w.cell? (ad.add j) = some u) (h1 : ∀ u ∈ news, u.oneCell' = true) (hbytes : n + m ≤ 1000000000000) (hbase : base ≤ w.heap.size) :
    ∃ v' w', (Builtin.append_ #[t, t] ty #[v, .slice (some ad) m c]).run P w = .ok v' w' ∧ w'.ownsRow base E 1 v' (n + m) (xs ++ news) ∧ w.grownBy w' v.ownBlock := by
  obtain ⟨i, z, hi, hz, hzs, hs, hb⟩ := hU.hi
  have hmul : ((n + m) + (n + m) / 4 + 192) * i.bytes ≤ 281474976710656 := by
    have h2 : (n + m) + (n + m) / 4 + 192 ≤ 1250000000192 := by omega
    exact Nat.le_trans (Nat.mul_le_mul h2 hb) (by decide)
  obtain ⟨v', w', hrun, h3, h4, _⟩ := run_append_own_wide (P := P) w base t ty E i z 1 i.bytes hU.ht hi hz hs rfl hzs (by omega) v n xs hown ad m c news (by omega) hnews h1 (by simp only [maxLen]; omega) hmul hbase
  exact ⟨v', w', hrun, h3, h4⟩

theorem wpList_appV {ops : Array Oper} {rest : List Oper} {o : Oper} {a : Act} {Q : Exit → Act → World → Prop} {t E : TypeId} (hU : UE P t E) (s x : Operand)
    (ho : o.op = .call { callee := .builtin .append, args := #[s, x], argTypes := #[t, t] }) (hgd : o.guard = none)
    (base : Nat) {v : Value} {n : Nat} {xs : List Value} (hs : a.eval s = v) (hown : w.ownsRow base E 1 v n xs) (ad : Addr) (m c : Nat) (hx : a.eval x = .slice (some ad) m c) (news : List Value) (hl : news.length = m)
    (hnews : ∀ j u, news[j]? = some u → w.cell? (ad.add j) = some u) (h1 : ∀ u ∈ news, u.oneCell' = true) (hbytes : n + m ≤ 1000000000000) (hbase : base ≤ w.heap.size)
    (h : ∀ v' w', w'.ownsRow base E 1 v' (n + m) (xs ++ news) → Below base w w' → wpList P ops Q rest (a.put o.dst v') w') : wpList P ops Q (o :: rest) a w := by
  refine wpList_plain hgd fun K hK => ?_
  obtain ⟨v', w', hrun, h2, h3⟩ := run_appV (P := P) w hU base o.type hown ad m c news hl hnews h1 hbytes hbase
  unfold Oper.wp execOp
  simp only [ho, resolve, invoke, builtin, Sem.run_bind, Sem.run_pure, Result.andThen_ok, List.map_toArray, List.map_cons, List.map_nil, hs, hx, hrun]
  exact hK _ _ (h v' w' h2 (below_of_grown hown h3 hbase))
end

/-- v owns a row of strings, from block base on -/
def OwnS (w : World) (base E : Nat) (v : Value) (L : List ByteArray) : Prop := w.ownsRow base E 1 v L.length (L.map Value.string)
theorem OwnS.nil (w : World) (base E : Nat) : OwnS w base E (.slice none 0 0) [] := World.ownsRow_nil w base E 1
theorem OwnS.alloc {w : World} {base E : Nat} {v : Value} {L : List ByteArray} (h : OwnS w base E v L) (o : Obj) : OwnS (w.alloc o) base E v L := World.ownsRow.alloc h o
theorem OwnS.below {w w' : World} {base E : Nat} {v : Value} {L : List ByteArray} (h : OwnS w base E v L) (hb : Below w.heap.size w w') : OwnS w' base E v L :=
  World.ownsRow.kept h (grownBy_of_below hb none) (by cases v.ownBlock <;> simp)
theorem OwnS.far {w : World} {base E : Nat} {v : Value} {L : List ByteArray} (h : OwnS w base E v L) {p : Addr} (hp : p.block < base) (u : Value) : OwnS (w.setCell p u) base E v L := by
  refine World.ownsRow.kept h (row := some p.block) ⟨rfl, rfl, rfl, by simp, fun i hi hne => Below.heap_setCell w p u i (fun e => hne (by rw [e]))⟩ ?_
  by_cases hb : v.ownBlock = some p.block
  · have := (World.ownsRow.lt h _ hb).1; omega
  · exact .inr hb
theorem OwnS.mono {w : World} {base base' E : Nat} {v : Value} {L : List ByteArray} (h : OwnS w base E v L) (hb : base' ≤ base) : OwnS w base' E v L := by
  refine ⟨h.1, ?_⟩
  rcases h.2 with h1 | ⟨g, cap, cur, hv, hg, r⟩
  · exact .inl h1
  · exact .inr ⟨g, cap, cur, hv, by omega, r⟩
theorem OwnS.out {w : World} {base E : Nat} {v : Value} {L : List ByteArray} (h : OwnS w base E v L) : ∃ A c, v = .slice A L.length c ∧ L.length ≤ c ∧ c ≤ maxLen ∧ RS w w.heap.size A L := by
  rcases h.2 with ⟨rfl, h0⟩ | ⟨g, cap, cur, rfl, hb, hg, hc, hm, hs, ht⟩
  · obtain rfl : L = [] := List.eq_nil_of_length_eq_zero h0
    exact ⟨none, 0, rfl, Nat.le_refl _, by simp [maxLen], .inl rfl⟩
  · refine ⟨some ⟨g, 0, none⟩, cap, rfl, hc, hm, .inr ⟨g, 0, rfl, (Array.getElem?_eq_some_iff.1 hg).1, fun i hi => ?_⟩⟩
    have := World.ownsRow.cells h (g := g) rfl i (.string L[i]) (by simp [hi])
    rw [st_getElem hi, ← this, Addr.add_lit, Nat.zero_add]
theorem OwnS.rs {w : World} {base E n c : Nat} {A : Option Addr} {L : List ByteArray} (h : OwnS w base E (.slice A n c) L) : RS w w.heap.size A L := by
  obtain ⟨A', c', e, _, _, hr⟩ := h.out
  injection e with e1
  subst e1
  exact hr
theorem wpList_appOneS {P : Program} (w : World) {ops : Array Oper} {rest : List Oper} {o : Oper} {a : Act} {Q : Exit → Act → World → Prop} {t E : TypeId} (hU : UE P t E) (s x : Operand)
    (ho : o.op = .call { callee := .builtin .append, args := #[s, x], argTypes := #[t, t] }) (hgd : o.guard = none)
    (base : Nat) {v : Value} {L : List ByteArray} (hs : a.eval s = v) (hown : OwnS w base E v L) (g c : Nat) (hx : a.eval x = .slice (some ⟨g, 0, none⟩) 1 c) (y : ByteArray)
    (hc : w.cell? ⟨g, 0, none⟩ = some (.string y)) (hbytes : L.length + 1 ≤ 1000000000000) (hbase : base ≤ w.heap.size)
    (h : ∀ v' w', OwnS w' base E v' (L ++ [y]) → Below base w w' → wpList P ops Q rest (a.put o.dst v') w') : wpList P ops Q (o :: rest) a w := by
  refine wpList_appV w hU s x ho hgd base hs hown ⟨g, 0, none⟩ 1 c hx [.string y] rfl ?_ (by simp [Value.oneCell']) hbytes hbase fun v' w' h1 h2 => h v' w' ?_ h2
  · intro j u hu
    have hj : j = 0 := by
      have := (List.getElem?_eq_some_iff.1 hu).1
      simpa using this
    subst hj
    simp at hu
    subst hu
    rw [Addr.add_lit]
    exact hc
  · unfold OwnS
    rw [List.length_append, List.map_append]
    exact h1
end Go.Proofs.YtbpooaicmjkemaaGreatDoor

/-! A world in which one block alone has changed, and new ones have come; over any program. No condition. -/
namespace Go.Proofs.YtbpooaicmjkemaaGreatDoor
open Go.RowKit
set_option linter.unusedVariables false
/-- only block g may have changed -/
abbrev Only (g : Nat) (w w' : World) : Prop := w.grownBy w' (some g)
section
variable {g : Nat} {w w' w2 : World}
theorem Only.refl (w : World) : Only g w w := World.grownBy.refl w _
theorem Only.trans (h : Only g w w') (k : Only g w' w2) : Only g w w2 :=
  ⟨k.os.trans h.os, k.tape.trans h.tape, k.output.trans h.output, Nat.le_trans h.size k.size, fun i hi hne => (k.block i (Nat.lt_of_lt_of_le hi h.size) hne).trans (h.block i hi hne)⟩
theorem Only.set_ (h : Only g w w') (i : Nat) (v : Value) : Only g w (w'.setCell ⟨g, i, none⟩ v) :=
  ⟨h.os, h.tape, h.output, by simpa using h.size, fun k hk hne => (Below.heap_setCell w' ⟨g, i, none⟩ v k (fun e => hne (congrArg some e))).trans (h.block k hk hne)⟩
theorem Only.drew (h : Only g w w') (n : Nat) : Only g w (w'.drewN n) := ⟨h.os, h.tape, h.output, h.size, h.block⟩
theorem Only.below (h : Only g w w') : Below g w w' ∨ w.heap.size < g := by
  rcases Nat.lt_or_ge w.heap.size g with h1 | h1
  · exact .inr h1
  · exact .inl ⟨h.os, h.tape, h.output, h.size, fun k hk => h.block k (by omega) (fun e => by injection e; omega)⟩
theorem Only.of_below (h : Below w.heap.size w w') : Only g w w' := grownBy_of_below h _
theorem Only.to_below (h : Only g w w') (hg : g < w.heap.size) {B : Nat} (hB : B ≤ g) : Below B w w' :=
  ⟨h.os, h.tape, h.output, h.size, fun k hk => h.block k (by omega) (fun e => by injection e; omega)⟩
theorem Only.alloc (h : Only g w w') (hg : w.heap.size ≤ w'.heap.size) (o : Obj) : Only g w (w'.alloc o) :=
  ⟨h.os, h.tape, h.output, by simp; omega, fun k hk hne => (Below.heap_alloc w' o k (by omega)).trans (h.block k hk hne)⟩
theorem RB.only {B : Nat} {A : Option Addr} {l : List UInt8} (h : RB w B A l) (ho : Only g w w') (hB : B ≤ g) (hw : g < w.heap.size) : RB w' B A l :=
  h.below (ho.to_below hw hB)
theorem Blk.only {k : Nat} {t : TypeId} {cs : Array Value} (h : Blk w k t cs) (ho : Only g w w') (hk : k ≠ g) : Blk w' k t cs := (ho.block k h.lt (fun e => hk (by injection e))).trans h
theorem OwnB.only {base E : Nat} {v : Value} {l : List UInt8} (h : OwnB w base E v l) (ho : Only g w w') (hne : v.ownBlock ≠ some g) : OwnB w' base E v l := h.kept ho (.inr hne)
end
end Go.Proofs.YtbpooaicmjkemaaGreatDoor

/-! append onto one of several rows that the call owns: what it leaves as it is; rows of numbers; over any program. No condition but the sizes. -/
namespace Go.Proofs.YtbpooaicmjkemaaGreatDoor
open Go.RowKit
set_option linter.unusedVariables false

section
variable {P : Program} (w : World)
theorem wpList_appBg {ops : Array Oper} {rest : List Oper} {o : Oper} {a : Act} {Q : Exit → Act → World → Prop} {t E : TypeId} (hU : U8 P t E) (s x : Operand)
    (ho : o.op = .call { callee := .builtin .append, args := #[s, x], argTypes := #[t, t] }) (hgd : o.guard = none)
    (base : Nat) {v : Value} {l k : List UInt8} (hs : a.eval s = v) (hown : OwnB w base E v l) {B : Nat} {A : Option Addr} (m c : Nat) (hx : a.eval x = .slice A m c) (hm : m = k.length) (hr : RB w B A k)
    (hbytes : l.length + k.length ≤ 200000000000000) (hbase : base ≤ w.heap.size)
    (h : ∀ v' w', OwnB w' base E v' (l ++ k) → w.grownBy w' v.ownBlock → wpList P ops Q rest (a.put o.dst v') w') : wpList P ops Q (o :: rest) a w := by
  subst hm
  refine wpList_plain hgd fun K hK => ?_
  obtain ⟨v', w', hrun, h2, h3⟩ := run_appB (P := P) w hU base o.type hown c hr hbytes hbase
  unfold Oper.wp execOp
  simp only [ho, resolve, invoke, builtin, Sem.run_bind, Sem.run_pure, Result.andThen_ok, List.map_toArray, List.map_cons, List.map_nil, hs, hx, hrun]
  exact hK _ _ (h v' w' h2 h3)
theorem wpList_appSg {ops : Array Oper} {rest : List Oper} {o : Oper} {a : Act} {Q : Exit → Act → World → Prop} {t E u : TypeId} (hU : U8 P t E) (hu : P.underlying u = some .string) (s x : Operand)
    (ho : o.op = .call { callee := .builtin .append, args := #[s, x], argTypes := #[t, u] }) (hgd : o.guard = none)
    (base : Nat) {v : Value} {l : List UInt8} (hs : a.eval s = v) (hown : OwnB w base E v l) (tx : ByteArray) (hx : a.eval x = .string tx)
    (hbytes : l.length + tx.size ≤ 140737488355328) (hbase : base ≤ w.heap.size)
    (h : ∀ v' w', OwnB w' base E v' (l ++ tx.data.toList) → w.grownBy w' v.ownBlock → wpList P ops Q rest (a.put o.dst v') w') : wpList P ops Q (o :: rest) a w := by
  refine wpList_plain hgd fun K hK => ?_
  obtain ⟨v', w', hrun, h2, h3⟩ := run_appS (P := P) w hU hu base o.type hown tx hbytes hbase
  unfold Oper.wp execOp
  simp only [ho, resolve, invoke, builtin, Sem.run_bind, Sem.run_pure, Result.andThen_ok, List.map_toArray, List.map_cons, List.map_nil, hs, hx, hrun]
  exact hK _ _ (h v' w' h2 h3)
theorem wpList_appVg {ops : Array Oper} {rest : List Oper} {o : Oper} {a : Act} {Q : Exit → Act → World → Prop} {t E : TypeId} (hU : UE P t E) (s x : Operand)
    (ho : o.op = .call { callee := .builtin .append, args := #[s, x], argTypes := #[t, t] }) (hgd : o.guard = none)
    (base : Nat) {v : Value} {n : Nat} {xs : List Value} (hs : a.eval s = v) (hown : w.ownsRow base E 1 v n xs) (ad : Addr) (m c : Nat) (hx : a.eval x = .slice (some ad) m c) (news : List Value) (hl : news.length = m)
    (hnews : ∀ j u, news[j]? = some u → w.cell? (ad.add j) = some u) (h1 : ∀ u ∈ news, u.oneCell' = true) (hbytes : n + m ≤ 1000000000000) (hbase : base ≤ w.heap.size)
    (h : ∀ v' w', w'.ownsRow base E 1 v' (n + m) (xs ++ news) → w.grownBy w' v.ownBlock → wpList P ops Q rest (a.put o.dst v') w') : wpList P ops Q (o :: rest) a w := by
  refine wpList_plain hgd fun K hK => ?_
  obtain ⟨v', w', hrun, h2, h3⟩ := run_appV (P := P) w hU base o.type hown ad m c news hl hnews h1 hbytes hbase
  unfold Oper.wp execOp
  simp only [ho, resolve, invoke, builtin, Sem.run_bind, Sem.run_pure, Result.andThen_ok, List.map_toArray, List.map_cons, List.map_nil, hs, hx, hrun]
  exact hK _ _ (h v' w' h2 h3)
end
/-- rows of two types are two rows -/
theorem own_ne {w : World} {b1 b2 E1 E2 s1 s2 n1 n2 : Nat} {v1 v2 : Value} {x1 x2 : List Value} (h1 : w.ownsRow b1 E1 s1 v1 n1 x1) (h2 : w.ownsRow b2 E2 s2 v2 n2 x2) (hne : E1 ≠ E2) : v1.ownBlock = none ∨ v1.ownBlock ≠ v2.ownBlock := by
  rcases h1.2 with ⟨rfl, _⟩ | ⟨g, cap, cur, rfl, _, hg, _⟩
  · exact .inl rfl
  · refine .inr fun e => ?_
    rcases h2.2 with ⟨rfl, _⟩ | ⟨g', cap', cur', rfl, _, hg', _⟩
    · simp [Value.ownBlock] at e
    · simp only [Value.ownBlock, Option.some.injEq] at e
      subst e
      rw [hg] at hg'
      injection hg' with hg'
      injection hg' with _ ht
      exact hne ht
/-- a row below whose block a thing lies -/
theorem own_base {w : World} {b E s n k : Nat} {v : Value} {x : List Value} (h : w.ownsRow b E s v n x) (hk : k < b) : some k ≠ v.ownBlock := fun e => by
  have := (World.ownsRow.lt h k e.symm).1; omega
theorem Blk.own {w w' : World} {g t : Nat} {cs : Array Value} {b E s n : Nat} {v : Value} {x : List Value} (h : Blk w g t cs) (hw : w.ownsRow b E s v n x) (hg : w.grownBy w' v.ownBlock) (hb : g < b) : Blk w' g t cs :=
  h.grown hg (own_base hw hb)
theorem below_of_own {w w' : World} {b E s n : Nat} {v : Value} {x : List Value} (h : w.ownsRow b E s v n x) (hg : w.grownBy w' v.ownBlock) (hb : b ≤ w.heap.size) : Below b w w' :=
  ⟨hg.os, hg.tape, hg.output, hg.size, fun k hk => hg.block k (by omega) (fun e => by have := (World.ownsRow.lt h k e.symm).1; omega)⟩
theorem OwnB.far {w : World} {base E : Nat} {v : Value} {l : List UInt8} (h : OwnB w base E v l) {p : Addr} (hp : p.block < base) (u : Value) : OwnB (w.setCell p u) base E v l := by
  refine h.kept (row := some p.block) ⟨rfl, rfl, rfl, by simp, fun i hi hne => Below.heap_setCell w p u i (fun e => hne (by rw [e]))⟩ ?_
  by_cases hb : v.ownBlock = some p.block
  · have := (World.ownsRow.lt h _ hb).1; omega
  · exact .inr hb
/-- a row that is younger than another -/
theorem own_young {w w1 : World} {b1 b2 E1 E2 s1 s2 n1 n2 : Nat} {v1 v2 : Value} {x1 x2 : List Value} (h1 : w1.ownsRow b1 E1 s1 v1 n1 x1) (h2 : w.ownsRow b2 E2 s2 v2 n2 x2) (hb : w.heap.size ≤ b1) : v1.ownBlock = none ∨ v1.ownBlock ≠ v2.ownBlock := by
  rcases h1.2 with ⟨rfl, _⟩ | ⟨g, cap, cur, rfl, hg, _⟩
  · exact .inl rfl
  · refine .inr fun e => ?_
    have := (World.ownsRow.lt h2 g e.symm).2
    omega
theorem OwnB.rb {w : World} {base E n c : Nat} {A : Option Addr} {l : List UInt8} (h : OwnB w base E (.slice A n c) l) : RB w w.heap.size A l := by
  obtain ⟨A', c', e, _, _, hr⟩ := h.out
  injection e with e1
  subst e1
  exact hr
theorem OwnB.sl {w : World} {base E : Nat} {v : Value} {l : List UInt8} (h : OwnB w base E v l) : ∃ A n c, v = .slice A n c := by
  obtain ⟨A, c, e, _⟩ := h.out
  exact ⟨A, _, c, e⟩
/-- v owns a row of numbers -/
def OwnI (w : World) (base E : Nat) (v : Value) (L : List Int) : Prop := w.ownsRow base E 1 v L.length (L.map (Value.int .i64))
theorem OwnI.nil (w : World) (base E : Nat) : OwnI w base E (.slice none 0 0) [] := World.ownsRow_nil w base E 1
theorem OwnI.alloc {w : World} {base E : Nat} {v : Value} {L : List Int} (h : OwnI w base E v L) (o : Obj) : OwnI (w.alloc o) base E v L := World.ownsRow.alloc h o
theorem OwnI.kept {w w' : World} {base E : Nat} {v : Value} {L : List Int} {row : Option Nat} (h : OwnI w base E v L) (hg : w.grownBy w' row) (hne : v.ownBlock = none ∨ v.ownBlock ≠ row) : OwnI w' base E v L := World.ownsRow.kept h hg hne
theorem OwnI.below {w w' : World} {base E : Nat} {v : Value} {L : List Int} (h : OwnI w base E v L) (hb : Below w.heap.size w w') : OwnI w' base E v L :=
  h.kept (grownBy_of_below hb none) (by cases v.ownBlock <;> simp)
theorem OwnI.far {w : World} {base E : Nat} {v : Value} {L : List Int} (h : OwnI w base E v L) {p : Addr} (hp : p.block < base) (u : Value) : OwnI (w.setCell p u) base E v L := by
  refine h.kept (row := some p.block) ⟨rfl, rfl, rfl, by simp, fun i hi hne => Below.heap_setCell w p u i (fun e => hne (by rw [e]))⟩ ?_
  by_cases hb : v.ownBlock = some p.block
  · have := (World.ownsRow.lt h _ hb).1; omega
  · exact .inr hb
theorem OwnI.form {w : World} {base E : Nat} {v : Value} {L : List Int} (h : OwnI w base E v L) :
    ∃ A c, v = .slice A L.length c ∧ L.length ≤ c ∧ c ≤ maxLen ∧ ∀ i (hi : i < L.length), ∃ g, A = some ⟨g, 0, none⟩ ∧ base ≤ g ∧ g < w.heap.size ∧ w.cell? ⟨g, i, none⟩ = some (.int .i64 L[i]) ∧ w.frozen? ⟨g, i, none⟩ = false := by
  rcases h.2 with ⟨rfl, h0⟩ | ⟨g, cap, cur, rfl, hb, hg, hc, hm, hs, ht⟩
  · have : L = [] := List.eq_nil_of_length_eq_zero h0
    subst this
    exact ⟨none, 0, rfl, Nat.le_refl _, by simp [maxLen], fun i hi => absurd hi (by simp)⟩
  · refine ⟨some ⟨g, 0, none⟩, cap, rfl, hc, hm, fun i hi => ⟨g, rfl, hb, (Array.getElem?_eq_some_iff.1 hg).1, ?_, World.ownsRow.frozenAt h i⟩⟩
    have := World.ownsRow.cells h (g := g) rfl i (.int .i64 L[i]) (by simp [hi])
    simpa [Addr.add_lit] using this
end Go.Proofs.YtbpooaicmjkemaaGreatDoor

/-! A slice of bytes in a block of the call's own that may be written; over any program. No condition. -/
namespace Go.Proofs.YtbpooaicmjkemaaGreatDoor
open Go.RowKit
set_option linter.unusedVariables false
/-- v reads as l, in a block from base on whose bytes may be written -/
def OwnW (w : World) (base : Nat) (v : Value) (l : List UInt8) : Prop :=
  ∃ A c, v = .slice A l.length c ∧ l.length ≤ c ∧ c ≤ maxLen ∧ (l = [] ∨ ∃ g, A = some ⟨g, 0, none⟩ ∧ base ≤ g ∧ g < w.heap.size ∧ ∀ i, i < l.length → w.cell? ⟨g, i, none⟩ = some (.int .u8 (bt l i)) ∧ w.frozen? ⟨g, i, none⟩ = false)
section
variable {w w' : World} {base base' : Nat} {v : Value} {l : List UInt8}
theorem OwnW.out (h : OwnW w base v l) : Out w v l := by
  obtain ⟨A, c, rfl, h1, h2, h3⟩ := h
  refine ⟨A, c, rfl, h1, h2, ?_⟩
  rcases h3 with h3 | ⟨g, rfl, _, hg, hc⟩
  · exact .inl h3
  · exact .inr ⟨g, 0, rfl, hg, fun i hi => by rw [Nat.zero_add]; exact (hc i hi).1⟩
theorem OwnW.blocks (h : OwnW w base v l) (hs : w.heap.size ≤ w'.heap.size) (hk : ∀ g, v.ownBlock = some g → w'.heap[g]? = w.heap[g]?) : OwnW w' base v l := by
  obtain ⟨A, c, rfl, h1, h2, h3⟩ := h
  refine ⟨A, c, rfl, h1, h2, ?_⟩
  rcases h3 with h3 | ⟨g, rfl, hb, hg, hc⟩
  · exact .inl h3
  · have e := hk g rfl
    refine .inr ⟨g, rfl, hb, by omega, fun i hi => ?_⟩
    have := hc i hi
    simp only [World.cell?, World.frozen?] at this ⊢
    rw [e]
    exact this
theorem OwnW.lt (h : OwnW w base v l) (hl : 0 < l.length) : ∃ g c, v = .slice (some ⟨g, 0, none⟩) l.length c ∧ l.length ≤ c ∧ c ≤ maxLen ∧ base ≤ g ∧ g < w.heap.size ∧ ∀ i, i < l.length → w.cell? ⟨g, i, none⟩ = some (.int .u8 (bt l i)) ∧ w.frozen? ⟨g, i, none⟩ = false := by
  obtain ⟨A, c, rfl, h1, h2, h3⟩ := h
  rcases h3 with h3 | ⟨g, rfl, hb, hg, hc⟩
  · subst h3; simp at hl
  · exact ⟨g, c, rfl, h1, h2, hb, hg, hc⟩
theorem OwnW.nilv (h : OwnW w base v []) (w' : World) (base' : Nat) : OwnW w' base' v [] := by
  obtain ⟨A, c, rfl, h1, h2, h3⟩ := h
  exact ⟨A, c, rfl, h1, h2, .inl rfl⟩
theorem OwnW.mono (h : OwnW w base v l) (hb : base' ≤ base) : OwnW w base' v l := by
  obtain ⟨A, c, rfl, h1, h2, h3⟩ := h
  refine ⟨A, c, rfl, h1, h2, ?_⟩
  rcases h3 with h3 | ⟨g, rfl, hb', hg, hc⟩
  · exact .inl h3
  · exact .inr ⟨g, rfl, by omega, hg, hc⟩
theorem OwnW.below (h : OwnW w base v l) (hb : Below w.heap.size w w') : OwnW w' base v l := by
  obtain ⟨A, c, rfl, h1, h2, h3⟩ := h
  refine ⟨A, c, rfl, h1, h2, ?_⟩
  rcases h3 with h3 | ⟨g, rfl, hb', hg, hc⟩
  · exact .inl h3
  · refine .inr ⟨g, rfl, hb', Nat.lt_of_lt_of_le hg hb.size, fun i hi => ?_⟩
    have := hc i hi
    simp only [World.cell?, World.frozen?] at this ⊢
    rw [hb.block g hg]
    exact this
/-- another block alone is written -/
theorem OwnW.only {k : Nat} (h : OwnW w base v l) (ho : Only k w w') (hk : k < base) : OwnW w' base v l := by
  obtain ⟨A, c, rfl, h1, h2, h3⟩ := h
  refine ⟨A, c, rfl, h1, h2, ?_⟩
  rcases h3 with h3 | ⟨g, rfl, hb', hg, hc⟩
  · exact .inl h3
  · refine .inr ⟨g, rfl, hb', Nat.lt_of_lt_of_le hg ho.size, fun i hi => ?_⟩
    have := hc i hi
    simp only [World.cell?, World.frozen?] at this ⊢
    rw [ho.block g hg (fun e => by injection e; omega)]
    exact this
theorem OwnW.far (h : OwnW w base v l) {p : Addr} (hp : p.block < base) (u : Value) : OwnW (w.setCell p u) base v l :=
  h.only (k := p.block) ⟨rfl, rfl, rfl, by simp, fun i hi hne => Below.heap_setCell w p u i (fun e => hne (by rw [e]))⟩ hp
theorem OwnW.of_own {E : Nat} (h : OwnB w base E v l) : OwnW w base v l := by
  rcases Nat.eq_zero_or_pos l.length with h0 | h0
  · obtain rfl := List.eq_nil_of_length_eq_zero h0
    obtain ⟨A, c, rfl, h1, h2, _⟩ := h.out
    exact ⟨A, c, rfl, h1, h2, .inl rfl⟩
  · obtain ⟨g, c, rfl, h1, h2, h3, h4⟩ := h.form h0
    exact ⟨_, c, rfl, h3, h4, .inr ⟨g, rfl, h1, h2, fun i hi => ⟨h.cell hi, h.free i⟩⟩⟩
end
theorem OwnW.conv (w : World) (e : TypeId) (s : ByteArray) (base : Nat) (hs : s.size ≤ maxLen) (hb : base ≤ w.heap.size) :
    OwnW (Lib.bytesWorld w e s) base (.slice (some ⟨w.heap.size, 0, none⟩) s.size (grownCap w s.size 0 e)) s.data.toList := by
  refine ⟨_, _, rfl, grownCap_ge w _ _ _, grownCap_le_maxLen w _ _ _ hs, .inr ⟨w.heap.size, rfl, hb, by rw [Lib.bytesWorld_size]; omega, fun i hi => ?_⟩⟩
  have hc := Lib.bytesWorld_cell w e s i (by rw [size_len]; exact hi)
  refine ⟨hc, ?_⟩
  have hn := Lib.bytesWorld_at_new w e s
  simp only [World.cell?, World.frozen?] at hc ⊢
  rw [hn] at hc ⊢
  simp only [Option.isSome_none, Bool.false_eq_true, if_false] at hc
  have := (Array.getElem?_eq_some_iff.1 hc).1
  simp
  omega
end Go.Proofs.YtbpooaicmjkemaaGreatDoor

/-! A slice of bytes that begins anywhere in a block of the call's own, and append onto it; over any program. No condition but the sizes. -/
namespace Go.Proofs.YtbpooaicmjkemaaGreatDoor
open Go.RowKit
set_option linter.unusedVariables false

/-- v reads as l; if it has room for a byte, its cells up to its capacity lie in block own, from base on, and may be written -/
def OwnQ (w : World) (base : Nat) (own : Option Nat) (v : Value) (l : List UInt8) : Prop :=
  ∃ A c, v = .slice A l.length c ∧ l.length ≤ c ∧ c ≤ maxLen ∧ ((c = 0 ∧ own = none) ∨ ∃ g off, own = some g ∧ A = some ⟨g, off, none⟩ ∧ base ≤ g ∧ g < w.heap.size ∧ (∀ i, i < l.length → w.cell? ⟨g, off + i, none⟩ = some (.int .u8 (bt l i))) ∧ ∀ i, i < c → (w.cell? ⟨g, off + i, none⟩).isSome = true ∧ w.frozen? ⟨g, off + i, none⟩ = false)
section
variable {w w' : World} {base base' : Nat} {own : Option Nat} {v : Value} {l : List UInt8}
theorem OwnQ.nil (w : World) (base : Nat) (A : Option Addr) : OwnQ w base none (.slice A 0 0) [] := ⟨A, 0, rfl, Nat.le_refl _, by simp [maxLen], .inl ⟨rfl, rfl⟩⟩
theorem OwnQ.out (h : OwnQ w base own v l) : Out w v l := by
  obtain ⟨A, c, rfl, h1, h2, h3⟩ := h
  refine ⟨A, c, rfl, h1, h2, ?_⟩
  rcases h3 with ⟨h3, _⟩ | ⟨g, off, _, rfl, _, hg, hc, _⟩
  · exact .inl (List.eq_nil_of_length_eq_zero (by omega))
  · exact .inr ⟨g, off, rfl, hg, hc⟩
theorem OwnQ.kept {row : Option Nat} (h : OwnQ w base own v l) (hg : w.grownBy w' row) (hne : own = none ∨ own ≠ row) : OwnQ w' base own v l := by
  obtain ⟨A, c, rfl, h1, h2, h3⟩ := h
  refine ⟨A, c, rfl, h1, h2, ?_⟩
  rcases h3 with h3 | ⟨g, off, rfl, rfl, hb, hlt, hc, hf⟩
  · exact .inl h3
  · have e := hg.block g hlt (by rcases hne with h | h; · cases h
                                 · exact h)
    refine .inr ⟨g, off, rfl, rfl, hb, Nat.lt_of_lt_of_le hlt hg.size, fun i hi => ?_, fun i hi => ?_⟩
    · rw [← hc i hi]; exact World.cell?_of_block e
    · rw [World.cell?_of_block (w := w) e, World.frozen?_of_block (w := w) e]; exact hf i hi
theorem OwnQ.below (h : OwnQ w base own v l) (hb : Below w.heap.size w w') : OwnQ w' base own v l :=
  h.kept (grownBy_of_below hb none) (by cases own <;> simp)
theorem OwnQ.alloc (h : OwnQ w base own v l) (o : Obj) : OwnQ (w.alloc o) base own v l := h.kept (World.grownBy_alloc w o none) (by cases own <;> simp)
theorem OwnQ.far (h : OwnQ w base own v l) {p : Addr} (hp : own ≠ some p.block) (u : Value) : OwnQ (w.setCell p u) base own v l :=
  h.kept (row := some p.block) ⟨rfl, rfl, rfl, by simp, fun i hi hne => Below.heap_setCell w p u i (fun e => hne (by rw [e]))⟩ (.inr hp)
theorem OwnQ.base_ (h : OwnQ w base own v l) {g : Nat} (hg : own = some g) : base ≤ g ∧ g < w.heap.size := by
  obtain ⟨A, c, rfl, h1, h2, h3⟩ := h
  rcases h3 with ⟨_, h3⟩ | ⟨g', off, h3, rfl, hb, hlt, hc, hf⟩
  · rw [h3] at hg; cases hg
  · rw [h3] at hg; cases hg; exact ⟨hb, hlt⟩
theorem OwnQ.rb {A : Option Addr} {n c : Nat} (h : OwnQ w base own (.slice A n c) l) : RB w w.heap.size A l ∧ n = l.length ∧ n ≤ c ∧ c ≤ maxLen := by
  obtain ⟨A', c', e, h1, h2, hr⟩ := h.out
  injection e with e1 e2 e3
  subst e1; subst e2; subst e3
  exact ⟨hr, rfl, h1, h2⟩
/-- what is left of it behind some bytes -/
theorem OwnQ.tail {A : Option Addr} {n c : Nat} (h : OwnQ w base own (.slice A n c) l) (k : Nat) (hk : k ≤ l.length) :
    ∃ own', (own' = own ∨ own' = none) ∧ OwnQ w base own' (.slice (if c = k then A else A.map fun a => a.add k) (n - k) (c - k)) (l.drop k) := by
  obtain ⟨A', c', e, h1, h2, h3⟩ := h
  injection e with e1 e2 e3
  subst e1; subst e2; subst e3
  by_cases hck : c = k
  · refine ⟨none, .inr rfl, A, 0, ?_, ?_, by simp [maxLen], .inl ⟨rfl, rfl⟩⟩
    · rw [if_pos hck, List.length_drop, hck, Nat.sub_self]
    · rw [List.length_drop]; omega
  · rcases h3 with ⟨h3, h4⟩ | ⟨g, off, h3, rfl, hb, hlt, hc, hf⟩
    · omega
    · refine ⟨own, .inl rfl, some ⟨g, off + k, none⟩, c - k, ?_, ?_, by omega, .inr ⟨g, off + k, h3, rfl, hb, hlt, fun i hi => ?_, fun i hi => ?_⟩⟩
      · rw [if_neg hck, List.length_drop]
        simp [Addr.add_lit]
      · rw [List.length_drop]; omega
      · rw [List.length_drop] at hi
        rw [Nat.add_assoc, hc (k + i) (by omega)]
        unfold bt
        rw [List.getD_eq_getElem?_getD, List.getD_eq_getElem?_getD, List.getElem?_drop]
      · rw [Nat.add_assoc]; exact hf (k + i) (by omega)
end
theorem bt_app_l {l k : List UInt8} {i : Nat} (h : i < l.length) : bt (l ++ k) i = bt l i := by
  unfold bt; rw [List.getD_eq_getElem?_getD, List.getD_eq_getElem?_getD, List.getElem?_append_left h]
theorem bt_app_r {l k : List UInt8} {i : Nat} : bt (l ++ k) (l.length + i) = bt k i := by
  unfold bt; rw [List.getD_eq_getElem?_getD, List.getD_eq_getElem?_getD, List.getElem?_append_right (by omega), Nat.add_sub_cancel_left]
theorem keptBlk_setCells (b : Nat) : ∀ (vs : List Value) (o : Nat) (w : World), w.grownBy (w.setCells b o vs) (some b)
  | [], o, w => World.grownBy.refl w _
  | v :: r, o, w => by
    have ih := keptBlk_setCells b r (o + 1) (w.setCell ⟨b, o, none⟩ v)
    refine ⟨ih.os, ih.tape, ih.output, Nat.le_trans (by simp) ih.size, fun i hi hne => ?_⟩
    rw [World.setCells, ih.block i (by simpa using hi) hne]
    exact Below.heap_setCell w ⟨b, o, none⟩ v i (fun e => hne (by rw [e]))
theorem byteCells_at {k : List UInt8} {j : Nat} {u : Value} (h : (Lib.byteCells k)[j]? = some u) : j < k.length ∧ u = .int .u8 (bt k j) := by
  have hj : j < k.length := by
    have := (List.getElem?_eq_some_iff.1 h).1
    simpa [Lib.byteCells] using this
  refine ⟨hj, ?_⟩
  rw [bt_getElem hj]
  simpa [Lib.byteCells, hj] using h.symm
theorem byteCells_one (k : List UInt8) : ∀ u ∈ Lib.byteCells k, u.oneCell' = true := by
  intro u hu
  simp only [Lib.byteCells, List.mem_map] at hu
  obtain ⟨b, _, rfl⟩ := hu
  rfl
theorem byteCells_len (k : List UInt8) : (Lib.byteCells k).length = k.length := by simp [Lib.byteCells]
section
variable {P : Program} (w : World)
/-- the new block of an append that grows -/
theorem OwnQ.newRow {E : TypeId} (base : Nat) (l : List UInt8) (c : Nat) (z : Array Value) (hz : z.size = c - l.length) (hl : l.length ≤ c) (hm : c ≤ maxLen) (hb : base ≤ w.heap.size) (cs : Array Value) (hcs : cs = (Lib.byteCells l).toArray ++ z) :
    OwnQ (w.alloc (.cells cs E)) base (some w.heap.size) (.slice (some ⟨w.heap.size, 0, none⟩) l.length c) l := by
  subst hcs
  have hB := Blk.new w E ((Lib.byteCells l).toArray ++ z)
  refine ⟨_, c, rfl, hl, hm, .inr ⟨w.heap.size, 0, rfl, rfl, hb, by simp, fun i hi => ?_, fun i hi => ?_⟩⟩
  · rw [Nat.zero_add, hB.cell i, Array.getElem?_append_left (by simpa [byteCells_len] using hi), bt_getElem hi]
    simp [Lib.byteCells, hi]
  · rw [Nat.zero_add, hB.cell i]
    refine ⟨?_, hB.frozen i⟩
    rw [Array.getElem?_eq_getElem (by simp [byteCells_len]; omega)]
    rfl
theorem run_appQ {t E : TypeId} (hU : U8 P t E) (base : Nat) (ty : TypeId) {own : Option Nat} {v : Value} {l k : List UInt8} (hown : OwnQ w base own v l) {B : Nat} {A : Option Addr} (c : Nat) (hr : RB w B A k)
    (hbytes : l.length + k.length ≤ 140737488355328) (hbase : base ≤ w.heap.size) :
    ∃ v' own' w', (Builtin.append_ #[t, t] ty #[v, .slice A k.length c]).run P w = .ok v' w' ∧ OwnQ w' base own' v' (l ++ k) ∧ w.grownBy w' own ∧ (own' = own ∨ own' = some w.heap.size) := by
  obtain ⟨i, hi, hz, h1, h2⟩ := hU.hi
  obtain ⟨Av, cv, rfl, hle, hmx, hq⟩ := hown
  rcases Nat.eq_zero_or_pos k.length with h0 | h0
  · obtain rfl : k = [] := List.eq_nil_of_length_eq_zero h0
    refine ⟨.slice Av l.length cv, own, w, ?_, by rw [List.append_nil]; exact ⟨Av, cv, rfl, hle, hmx, hq⟩, World.grownBy.refl w _, .inl rfl⟩
    rcases A with _ | ad
    · cases Av <;> simp [Builtin.append_, run_underlying hU.ht, sizeOf, typeInfo, hi, Builtin.lenOf, Builtin.firstCells, hle, storeCells]
    · have hl := run_loadCells_list (P := P) w ad [] (fun j v hj => by simp at hj)
      simp at hl
      cases Av <;> simp [Builtin.append_, run_underlying hU.ht, sizeOf, typeInfo, hi, Builtin.lenOf, Builtin.firstCells, hle, storeCells, h1, hl]
  · obtain ⟨b, off, rfl, _, hc⟩ := hr.at_ h0
    have hnews : ∀ j u, (Lib.byteCells k)[j]? = some u → w.cell? ((⟨b, off, none⟩ : Addr).add j) = some u := fun j u hu => by
      obtain ⟨hj, rfl⟩ := byteCells_at hu
      rw [Addr.add_lit]; exact hc j hj
    have hgf : cv < l.length + k.length → Builtin.nextslicecap (l.length + k.length) cv * i.bytes ≤ 281474976710656 := fun hg => growslice_fits hg (by rw [h2]; omega)
    have hml : l.length + k.length ≤ maxLen := by simp only [maxLen]; omega
    have hmi : ((l.length + k.length : Nat) : Int) ≤ 9223372036854775807 := by omega
    by_cases hroom : l.length + k.length ≤ cv
    · rcases hq with ⟨hq, _⟩ | ⟨g, o, rfl, rfl, hb, hlt, hcl, hf⟩
      · omega
      · have hfit : ∀ j, j < (Lib.byteCells k).length → o + l.length * i.size + j = o + (l.length + j) := fun j _ => by rw [h1]; omega
        have hrun := run_append_room_cells (P := P) w t ty E i hU.ht hi g o l.length cv ⟨b, off, none⟩ k.length c (Lib.byteCells k) (by rw [byteCells_len, h1, Nat.mul_one]) hnews (byteCells_one k) hroom
          (fun j hj => by rw [hfit j hj]; rw [byteCells_len] at hj; exact (hf (l.length + j) (by omega)).1)
          (fun j hj => by rw [hfit j hj]; rw [byteCells_len] at hj; exact (hf (l.length + j) (by omega)).2)
        have hkb := keptBlk_setCells g (Lib.byteCells k) (o + l.length * i.size) w
        have ein : ∀ j, (hj : j < k.length) → (w.setCells g (o + l.length * i.size) (Lib.byteCells k)).cell? ⟨g, o + l.length * i.size + j, none⟩ = some (.int .u8 (bt k j)) := fun j hj => by
          rw [World.cell?_setCells_in g (Lib.byteCells k) (o + l.length * i.size) w (fun j hj => by rw [hfit j hj]; rw [byteCells_len] at hj; exact (hf (l.length + j) (by omega)).1) j (by rw [byteCells_len]; exact hj), bt_getElem hj]
          simp [Lib.byteCells]
        have eout : ∀ x, x < l.length ∨ l.length + k.length ≤ x → (w.setCells g (o + l.length * i.size) (Lib.byteCells k)).cell? ⟨g, o + x, none⟩ = w.cell? ⟨g, o + x, none⟩ := fun x hx =>
          World.cell?_setCells_out g (Lib.byteCells k) (o + l.length * i.size) w ⟨g, o + x, none⟩ (fun _ _ => by rw [byteCells_len, h1]; show o + x < _ ∨ _ ≤ o + x; omega)
        refine ⟨_, some g, _, hrun, ⟨_, cv, by rw [List.length_append], by rw [List.length_append]; exact hroom, hmx, .inr ⟨g, o, rfl, rfl, hb, Nat.lt_of_lt_of_le hlt hkb.size, fun x hx => ?_, fun x hx => ⟨?_, ?_⟩⟩⟩, hkb, .inl rfl⟩
        · rw [List.length_append] at hx
          rcases Nat.lt_or_ge x l.length with hxl | hxl
          · rw [eout x (.inl hxl), hcl x hxl, bt_app_l hxl]
          · have := ein (x - l.length) (by omega)
            rw [h1, show o + l.length * 1 + (x - l.length) = o + x by omega] at this
            rw [h1, this, ← bt_app_r (l := l), show l.length + (x - l.length) = x by omega]
        · by_cases hx2 : x < l.length ∨ l.length + k.length ≤ x
          · rw [eout x hx2]; exact (hf x hx).1
          · have := ein (x - l.length) (by omega)
            rw [h1, show o + l.length * 1 + (x - l.length) = o + x by omega] at this
            rw [h1, this]; rfl
        · rw [World.frozen?_setCells]; exact (hf x hx).2
    · rcases Av with _ | av
      · have hcv : cv = 0 ∧ own = none := by
          rcases hq with hq | ⟨g, o, _, hA, _⟩
          · exact hq
          · cases hA
        obtain ⟨rfl, rfl⟩ := hcv
        obtain rfl : l = [] := List.eq_nil_of_length_eq_zero (by omega)
        have hrun := run_append_nil (P := P) w t ty E i (.int .u8 0) hU.ht hi hz ⟨b, off, none⟩ k.length c (Lib.byteCells k) (by rw [byteCells_len, h1, Nat.mul_one]) hnews h0 (by simpa using hmi) (by rw [h2]; simp at hbytes; omega)
        refine ⟨_, some w.heap.size, _, hrun, ?_, ⟨rfl, rfl, rfl, by simp, fun x hx _ => Below.heap_alloc w.drew _ x hx⟩, .inr rfl⟩
        exact OwnQ.newRow w.drew base k (grownCap w k.length 0 E) _ (by rw [size_zeroCells]; exact Nat.mul_one _) (grownCap_ge w _ _ _) (grownCap_le_maxLen w _ _ _ (by simpa using hml)) hbase _ rfl
      · have hrun := run_append_grow (P := P) w t ty E i (.int .u8 0) hU.ht hi hz av l.length cv (Lib.byteCells l) (by rw [byteCells_len, h1, Nat.mul_one])
          (fun j u hu => by
            obtain ⟨hj, rfl⟩ := byteCells_at hu
            rcases hq with ⟨hq, _⟩ | ⟨g, o, _, hA, _, _, hcl, _⟩
            · omega
            · cases hA; rw [Addr.add_lit]; exact hcl j hj)
          ⟨b, off, none⟩ k.length c (Lib.byteCells k) (by rw [byteCells_len, h1, Nat.mul_one]) hnews (by omega) hmi (hgf (by omega))
        refine ⟨_, some w.heap.size, _, hrun, ?_, ⟨rfl, rfl, rfl, by simp, fun x hx _ => Below.heap_alloc w.drew _ x hx⟩, .inr rfl⟩
        have := OwnQ.newRow (E := E) w.drew base (l ++ k) (grownCap w (l.length + k.length) cv E) (Builtin.zeroCells (Value.int .u8 0).cells (grownCap w (l.length + k.length) cv E - (l.length + k.length)))
          (by rw [size_zeroCells, List.length_append]; exact Nat.mul_one _) (by rw [List.length_append]; exact grownCap_ge w _ _ _) (grownCap_le_maxLen w _ _ _ hml) hbase _ (by rw [Lib.byteCells_append, ← List.append_toArray])
        rw [List.length_append] at this
        exact this
theorem wpList_appQ {ops : Array Oper} {rest : List Oper} {o : Oper} {a : Act} {Q : Exit → Act → World → Prop} {t E : TypeId} (hU : U8 P t E) (s x : Operand)
    (ho : o.op = .call { callee := .builtin .append, args := #[s, x], argTypes := #[t, t] }) (hgd : o.guard = none)
    (base : Nat) {own : Option Nat} {v : Value} {l k : List UInt8} (hs : a.eval s = v) (hown : OwnQ w base own v l) {B : Nat} {A : Option Addr} (m c : Nat) (hx : a.eval x = .slice A m c) (hm : m = k.length) (hr : RB w B A k)
    (hbytes : l.length + k.length ≤ 140737488355328) (hbase : base ≤ w.heap.size)
    (h : ∀ v' own' w', OwnQ w' base own' v' (l ++ k) → w.grownBy w' own → (own' = own ∨ own' = some w.heap.size) → wpList P ops Q rest (a.put o.dst v') w') : wpList P ops Q (o :: rest) a w := by
  subst hm
  refine wpList_plain hgd fun K hK => ?_
  obtain ⟨v', own', w', hrun, h2, h3, h4⟩ := run_appQ (P := P) w hU base o.type hown c hr hbytes hbase
  unfold Oper.wp execOp
  simp only [ho, resolve, invoke, builtin, Sem.run_bind, Sem.run_pure, Result.andThen_ok, List.map_toArray, List.map_cons, List.map_nil, hs, hx, hrun]
  exact hK _ _ (h v' own' w' h2 h3 h4)
/-- at a step of a region that draws its order -/
theorem step_appQ {ops : Array Oper} {o : Oper} {a : Act} {K : Act → World → Prop} {Q : Exit → Act → World → Prop} {E' : Prop} (hgd : o.guard = none) {t E : TypeId} (hU : U8 P t E) (s x : Operand)
    (ho : o.op = .call { callee := .builtin .append, args := #[s, x], argTypes := #[t, t] })
    (base : Nat) {own : Option Nat} {v : Value} {l k : List UInt8} (hs : a.eval s = v) (hown : OwnQ w base own v l) {B : Nat} {A : Option Addr} (m c : Nat) (hx : a.eval x = .slice A m c) (hm : m = k.length) (hr : RB w B A k)
    (hbytes : l.length + k.length ≤ 140737488355328) (hbase : base ≤ w.heap.size)
    (h : ∀ v' own' w', OwnQ w' base own' v' (l ++ k) → w.grownBy w' own → (own' = own ∨ own' = some w.heap.size) → K (a.put o.dst v') w') :
    if Region.wanted o (yielded ops a.tmps) = true then Oper.wp P o a w K Q else E' := by
  subst hm
  have hw : Region.wanted o (yielded ops a.tmps) = true := by simp [Region.wanted, hgd]
  rw [if_pos hw]
  obtain ⟨v', own', w', hrun, h2, h3, h4⟩ := run_appQ (P := P) w hU base o.type hown c hr hbytes hbase
  unfold Oper.wp execOp
  simp only [ho, resolve, invoke, builtin, Sem.run_bind, Sem.run_pure, Result.andThen_ok, List.map_toArray, List.map_cons, List.map_nil, hs, hx, hrun]
  exact h v' own' w' h2 h3 h4
end
end Go.Proofs.YtbpooaicmjkemaaGreatDoor

/-! A slice of values, sz cells each, that begins anywhere in a block of its own, and append onto it; over any program. No condition but the sizes. -/
namespace Go.Proofs.YtbpooaicmjkemaaGreatDoor
open Go.RowKit
set_option linter.unusedVariables false

/-- v holds the cells xs, sz for each element; if it has room for an element, its cells up to its capacity lie in block own and may be written -/
def OwnX (sz : Nat) (w : World) (own : Option Nat) (v : Value) (xs : List Value) : Prop :=
  ∃ A n c, v = .slice A n c ∧ xs.length = n * sz ∧ n ≤ c ∧ c ≤ maxLen ∧ ((c = 0 ∧ own = none) ∨ ∃ g off, own = some g ∧ A = some ⟨g, off, none⟩ ∧ g < w.heap.size ∧ (∀ i, i < xs.length → w.cell? ⟨g, off + i, none⟩ = xs[i]?) ∧ ∀ i, i < c * sz → (w.cell? ⟨g, off + i, none⟩).isSome = true ∧ w.frozen? ⟨g, off + i, none⟩ = false)
/-- t is a type of slices of E, E of sz cells -/
structure UX (P : Program) (t E : TypeId) (sz : Nat) : Prop where
  ht : P.underlying t = some (.slice E)
  hi : ∃ i z, P.info? E = some i ∧ i.zero = some z ∧ z.cells.size = sz ∧ i.size = sz ∧ i.bytes ≤ 128
  h0 : 0 < sz
section
variable {sz : Nat} {w w' : World} {own : Option Nat} {v : Value} {xs : List Value}
theorem OwnX.nil (w : World) (A : Option Addr) : OwnX sz w none (.slice A 0 0) [] := ⟨A, 0, 0, rfl, by simp, Nat.le_refl _, by simp [maxLen], .inl ⟨rfl, rfl⟩⟩
theorem OwnX.same (h : OwnX sz w own v xs) (hs : w.heap.size ≤ w'.heap.size) (hb : ∀ g, own = some g → w'.heap[g]? = w.heap[g]?) : OwnX sz w' own v xs := by
  obtain ⟨A, n, c, rfl, h0, h1, h2, h3⟩ := h
  refine ⟨A, n, c, rfl, h0, h1, h2, ?_⟩
  rcases h3 with h3 | ⟨g, off, rfl, rfl, hlt, hc, hf⟩
  · exact .inl h3
  · have e := hb g rfl
    refine .inr ⟨g, off, rfl, rfl, Nat.lt_of_lt_of_le hlt hs, fun i hi => ?_, fun i hi => ?_⟩
    · rw [← hc i hi]; exact World.cell?_of_block e
    · rw [World.cell?_of_block (w := w) e, World.frozen?_of_block (w := w) e]; exact hf i hi
theorem OwnX.below (h : OwnX sz w own v xs) (hb : Below w.heap.size w w') (ho : ∀ g, own = some g → g < w.heap.size) : OwnX sz w' own v xs :=
  h.same hb.size fun g hg => hb.block g (ho g hg)
theorem OwnX.lt (h : OwnX sz w own v xs) {g : Nat} (hg : own = some g) : g < w.heap.size := by
  obtain ⟨A, n, c, rfl, h0, h1, h2, h3⟩ := h
  rcases h3 with ⟨_, h3⟩ | ⟨g', off, h3, rfl, hlt, hc, hf⟩
  · rw [h3] at hg; cases hg
  · rw [h3] at hg; cases hg; exact hlt
theorem OwnX.form {A : Option Addr} {n c : Nat} (h : OwnX sz w own (.slice A n c) xs) : xs.length = n * sz ∧ n ≤ c ∧ c ≤ maxLen := by
  obtain ⟨A', n', c', e, h0, h1, h2, h3⟩ := h
  injection e with e1 e2 e3
  subst e1 e2 e3
  exact ⟨h0, h1, h2⟩
theorem OwnX.sl (h : OwnX sz w own v xs) : ∃ A n c, v = .slice A n c ∧ xs.length = n * sz ∧ n ≤ c ∧ c ≤ maxLen := by
  obtain ⟨A, n, c, e, h0, h1, h2, h3⟩ := h
  exact ⟨A, n, c, e, h0, h1, h2⟩
/-- where its cells lie -/
theorem OwnX.at_ {A : Option Addr} {n c : Nat} (h : OwnX sz w own (.slice A n c) xs) (hc : 0 < c) : ∃ g off, own = some g ∧ A = some ⟨g, off, none⟩ ∧ g < w.heap.size ∧ (∀ i, i < xs.length → w.cell? ⟨g, off + i, none⟩ = xs[i]?) ∧ ∀ i, i < c * sz → (w.cell? ⟨g, off + i, none⟩).isSome = true ∧ w.frozen? ⟨g, off + i, none⟩ = false := by
  obtain ⟨A', n', c', e, h0, h1, h2, h3⟩ := h
  injection e with e1 e2 e3
  subst e1 e2 e3
  rcases h3 with ⟨h3, _⟩ | h3
  · omega
  · exact h3
/-- what is left of it behind some elements -/
theorem OwnX.tail {A : Option Addr} {n c : Nat} (h : OwnX sz w own (.slice A n c) xs) (k : Nat) (hk : k ≤ n) :
    ∃ own', (own' = own ∨ own' = none) ∧ OwnX sz w own' (.slice (if c = k then A else A.map fun a => a.add (k * sz)) (n - k) (c - k)) (xs.drop (k * sz)) := by
  obtain ⟨A', n', c', e, h0, h1, h2, h3⟩ := h
  injection e with e1 e2 e3
  subst e1; subst e2; subst e3
  have hl : (xs.drop (k * sz)).length = (n - k) * sz := by rw [List.length_drop, h0, Nat.sub_mul]
  by_cases hck : c = k
  · refine ⟨none, .inr rfl, A, n - k, 0, ?_, hl, by omega, by simp [maxLen], .inl ⟨rfl, rfl⟩⟩
    rw [if_pos hck, hck, Nat.sub_self]
  · rcases h3 with ⟨h3, h4⟩ | ⟨g, off, h3, rfl, hlt, hc, hf⟩
    · omega
    · refine ⟨own, .inl rfl, some ⟨g, off + k * sz, none⟩, n - k, c - k, ?_, hl, by omega, by omega, .inr ⟨g, off + k * sz, h3, rfl, hlt, fun i hi => ?_, fun i hi => ?_⟩⟩
      · rw [if_neg hck]
        simp [Addr.add_lit]
      · rw [List.length_drop] at hi
        rw [Nat.add_assoc, hc (k * sz + i) (by omega), List.getElem?_drop]
      · rw [Nat.sub_mul] at hi
        rw [Nat.add_assoc]; exact hf (k * sz + i) (by omega)
/-- a store into one of its cells -/
theorem OwnX.set_ {g off n c : Nat} (h : OwnX sz w own (.slice (some ⟨g, off, none⟩) n c) xs) (hc : 0 < c) (i : Nat) (hi : i < xs.length) (u : Value) : OwnX sz (w.setCell ⟨g, off + i, none⟩ u) own (.slice (some ⟨g, off, none⟩) n c) (xs.set i u) := by
  obtain ⟨h0, h1, h2⟩ := h.form
  obtain ⟨g', off', ho, e, hlt, hcl, hf⟩ := h.at_ hc
  injection e with e
  injection e with e1 e2
  subst e1 e2
  refine ⟨_, n, c, rfl, by rw [List.length_set]; exact h0, h1, h2, .inr ⟨g, off, ho, rfl, by simpa using hlt, fun j hj => ?_, fun j hj => ⟨?_, ?_⟩⟩⟩
  · rw [List.length_set] at hj
    by_cases e : i = j
    · subst e
      obtain ⟨v0, hv0⟩ := Option.isSome_iff_exists.1 (hf i (Nat.lt_of_lt_of_le hi (by rw [h0]; exact Nat.mul_le_mul_right _ h1))).1
      rw [World.cell?_setCell_same' _ _ _ (by rw [hv0]; rfl), List.getElem?_set_self hi]
    · rw [World.cell?_setCell_other _ _ _ _ (by intro e2; injection e2 with e3 e4; omega), hcl j hj, List.getElem?_set_ne e]
  · obtain ⟨v0, hv0⟩ := Option.isSome_iff_exists.1 (hf j hj).1
    obtain ⟨v1, hv1⟩ := cell?_setCell_some (p := ⟨g, off + i, none⟩) (x := u) hv0
    rw [hv1]; rfl
  · rw [World.frozen?_setCell]; exact (hf j hj).2
end
section
variable {P : Program} (w : World)
theorem OwnX.newRow {sz E : Nat} (xs : List Value) (n c : Nat) (z : Array Value) (hn : xs.length = n * sz) (hz : z.size = (c - n) * sz) (hl : n ≤ c) (hm : c ≤ maxLen) (cs : Array Value) (hcs : cs = xs.toArray ++ z) :
    OwnX sz (w.alloc (.cells cs E)) (some w.heap.size) (.slice (some ⟨w.heap.size, 0, none⟩) n c) xs := by
  subst hcs
  have hB := Blk.new w E (xs.toArray ++ z)
  refine ⟨_, n, c, rfl, hn, hl, hm, .inr ⟨w.heap.size, 0, rfl, rfl, by simp, fun i hi => ?_, fun i hi => ?_⟩⟩
  · rw [Nat.zero_add, hB.cell i, Array.getElem?_append_left (by simpa using hi)]
    simp
  · rw [Nat.zero_add, hB.cell i]
    refine ⟨?_, hB.frozen i⟩
    rw [Nat.sub_mul] at hz
    have h2 : n * sz ≤ c * sz := Nat.mul_le_mul_right _ hl
    rw [Array.getElem?_eq_getElem (by simp; omega)]
    rfl
theorem run_appX {t E : TypeId} {sz : Nat} (hU : UX P t E sz) (ty : TypeId) {own : Option Nat} {v : Value} {xs : List Value} (hown : OwnX sz w own v xs) (A : Option Addr) (m c : Nat) (news : List Value) (hl : news.length = m * sz)
    (hA : A = none → m = 0) (hnews : ∀ ad, A = some ad → ∀ j u, news[j]? = some u → w.cell? (ad.add j) = some u) (h1 : ∀ u ∈ news, u.oneCell' = true) (hbytes : xs.length + m * sz ≤ 1000000000000) :
    ∃ v' own' w', (Builtin.append_ #[t, t] ty #[v, .slice A m c]).run P w = .ok v' w' ∧ OwnX sz w' own' v' (xs ++ news) ∧ w.grownBy w' own ∧ (own' = own ∨ own' = some w.heap.size) := by
  obtain ⟨i, z, hi, hz, hzs, hs, hb⟩ := hU.hi
  have hp := hU.h0
  obtain ⟨Av, n, cv, rfl, hx, hle, hmx, hq⟩ := hown
  rcases Nat.eq_zero_or_pos m with h0 | h0
  · subst h0
    obtain rfl : news = [] := List.eq_nil_of_length_eq_zero (by rw [hl, Nat.zero_mul])
    refine ⟨.slice Av n cv, own, w, ?_, by rw [List.append_nil]; exact ⟨Av, n, cv, rfl, hx, hle, hmx, hq⟩, World.grownBy.refl w _, .inl rfl⟩
    rcases A with _ | ad
    · cases Av <;> simp [Builtin.append_, run_underlying hU.ht, sizeOf, typeInfo, hi, Builtin.lenOf, Builtin.firstCells, hle, storeCells]
    · have hl := run_loadCells_list (P := P) w ad [] (fun j v hj => by simp at hj)
      simp at hl
      cases Av <;> simp [Builtin.append_, run_underlying hU.ht, sizeOf, typeInfo, hi, Builtin.lenOf, Builtin.firstCells, hle, storeCells, hl]
  · obtain ⟨ad, rfl⟩ : ∃ ad, A = some ad := by
      rcases A with _ | ad
      · have := hA rfl; omega
      · exact ⟨ad, rfl⟩
    have hcn := hnews ad rfl
    have hnm : n + m ≤ 1000000000000 := by
      have : (n + m) * 1 ≤ (n + m) * sz := Nat.mul_le_mul_left _ hp
      rw [Nat.add_mul n m sz] at this
      omega
    have hbb : (n + m) * i.bytes ≤ 140737488355328 := Nat.le_trans (Nat.mul_le_mul hnm hb) (by decide)
    have hgf : cv < n + m → Builtin.nextslicecap (n + m) cv * i.bytes ≤ 281474976710656 := fun hg => growslice_fits hg hbb
    have hml : n + m ≤ maxLen := by simp only [maxLen]; omega
    have hmi : ((n + m : Nat) : Int) ≤ 9223372036854775807 := by omega
    have hxl : (xs ++ news).length = (n + m) * sz := by rw [List.length_append, hx, hl, Nat.add_mul]
    by_cases hroom : n + m ≤ cv
    · rcases hq with ⟨hq, _⟩ | ⟨g, o, rfl, rfl, hlt, hcl, hf⟩
      · omega
      · have hmul : (n + m) * sz ≤ cv * sz := Nat.mul_le_mul_right _ hroom
        rw [Nat.add_mul] at hmul
        have hfit : ∀ j, j < news.length → o + n * i.size + j = o + (xs.length + j) := fun j _ => by rw [hs, hx]; omega
        have hrun := run_append_room_cells (P := P) w t ty E i hU.ht hi g o n cv ad m c news (by rw [hl, hs]) hcn h1 hroom
          (fun j hj => by rw [hfit j hj]; exact (hf (xs.length + j) (by omega)).1)
          (fun j hj => by rw [hfit j hj]; exact (hf (xs.length + j) (by omega)).2)
        have hkb := keptBlk_setCells g news (o + n * i.size) w
        have hso : o + n * i.size = o + xs.length := by rw [hs, hx]
        have ein : ∀ j, (hj : j < news.length) → (w.setCells g (o + n * i.size) news).cell? ⟨g, o + n * i.size + j, none⟩ = news[j]? := fun j hj => by
          rw [World.cell?_setCells_in g news (o + n * i.size) w (fun j hj => by rw [hfit j hj]; exact (hf (xs.length + j) (by omega)).1) j hj]
          simp [hj]
        have eout : ∀ x, x < xs.length ∨ xs.length + news.length ≤ x → (w.setCells g (o + n * i.size) news).cell? ⟨g, o + x, none⟩ = w.cell? ⟨g, o + x, none⟩ := fun x hx2 =>
          World.cell?_setCells_out g news (o + n * i.size) w ⟨g, o + x, none⟩ (fun _ _ => by show o + x < _ ∨ _ ≤ o + x; omega)
        refine ⟨_, some g, _, hrun, ⟨_, n + m, cv, rfl, hxl, hroom, hmx, .inr ⟨g, o, rfl, rfl, Nat.lt_of_lt_of_le hlt hkb.size, fun x hx2 => ?_, fun x hx2 => ⟨?_, ?_⟩⟩⟩, hkb, .inl rfl⟩
        · rw [List.length_append] at hx2
          rcases Nat.lt_or_ge x xs.length with hxl2 | hxl2
          · rw [eout x (.inl hxl2), hcl x hxl2, List.getElem?_append_left hxl2]
          · have := ein (x - xs.length) (by omega)
            rw [show o + n * i.size + (x - xs.length) = o + x by omega] at this
            rw [this, List.getElem?_append_right hxl2]
        · by_cases hx3 : x < xs.length ∨ xs.length + news.length ≤ x
          · rw [eout x hx3]; exact (hf x hx2).1
          · have := ein (x - xs.length) (by omega)
            rw [show o + n * i.size + (x - xs.length) = o + x by omega] at this
            rw [this, List.getElem?_eq_getElem (by omega)]; rfl
        · rw [World.frozen?_setCells]; exact (hf x hx2).2
    · rcases Av with _ | av
      · have hcv : cv = 0 ∧ own = none := by
          rcases hq with hq | ⟨g, o, _, hA2, _⟩
          · exact hq
          · cases hA2
        obtain ⟨rfl, rfl⟩ := hcv
        obtain rfl : n = 0 := by omega
        obtain rfl : xs = [] := List.eq_nil_of_length_eq_zero (by rw [hx, Nat.zero_mul])
        have hrun := run_append_nil (P := P) w t ty E i z hU.ht hi hz ad m c news (by rw [hl, hs]) hcn h0 (by simpa using hmi) (by rw [Nat.zero_add] at hbb; omega)
        refine ⟨_, some w.heap.size, _, hrun, ?_, ⟨rfl, rfl, rfl, by simp, fun x hx _ => Below.heap_alloc w.drew _ x hx⟩, .inr rfl⟩
        exact OwnX.newRow w.drew news m (grownCap w m 0 E) _ hl (by rw [size_zeroCells, hzs]) (grownCap_ge w _ _ _) (grownCap_le_maxLen w _ _ _ (by simpa using hml)) _ rfl
      · have hrun := run_append_grow (P := P) w t ty E i z hU.ht hi hz av n cv xs (by rw [hx, hs])
          (fun j u hu => by
            have hj : j < xs.length := (List.getElem?_eq_some_iff.1 hu).1
            rcases hq with ⟨hq, _⟩ | ⟨g, o, _, hA2, _, hcl, _⟩
            · have : xs.length = 0 := by rw [hx]; obtain rfl : n = 0 := by omega
                                         exact Nat.zero_mul _
              omega
            · cases hA2; rw [Addr.add_lit, hcl j hj]; exact hu)
          ad m c news (by rw [hl, hs]) hcn (by omega) hmi (hgf (by omega))
        refine ⟨_, some w.heap.size, _, hrun, ?_, ⟨rfl, rfl, rfl, by simp, fun x hx _ => Below.heap_alloc w.drew _ x hx⟩, .inr rfl⟩
        exact OwnX.newRow (E := E) w.drew (xs ++ news) (n + m) (grownCap w (n + m) cv E) (Builtin.zeroCells z.cells (grownCap w (n + m) cv E - (n + m))) hxl
          (by rw [size_zeroCells, hzs]) (grownCap_ge w _ _ _) (grownCap_le_maxLen w _ _ _ hml) _ (by rw [← List.append_toArray])
theorem wpList_appX {ops : Array Oper} {rest : List Oper} {o : Oper} {a : Act} {Q : Exit → Act → World → Prop} {t E : TypeId} {sz : Nat} (hU : UX P t E sz) (s x : Operand)
    (ho : o.op = .call { callee := .builtin .append, args := #[s, x], argTypes := #[t, t] }) (hgd : o.guard = none)
    {own : Option Nat} {v : Value} {xs : List Value} (hs : a.eval s = v) (hown : OwnX sz w own v xs) (A : Option Addr) (m c : Nat) (hx : a.eval x = .slice A m c) (news : List Value) (hl : news.length = m * sz)
    (hA : A = none → m = 0) (hnews : ∀ ad, A = some ad → ∀ j u, news[j]? = some u → w.cell? (ad.add j) = some u) (h1 : ∀ u ∈ news, u.oneCell' = true) (hbytes : xs.length + m * sz ≤ 1000000000000)
    (h : ∀ v' own' w', OwnX sz w' own' v' (xs ++ news) → w.grownBy w' own → (own' = own ∨ own' = some w.heap.size) → wpList P ops Q rest (a.put o.dst v') w') : wpList P ops Q (o :: rest) a w := by
  refine wpList_plain hgd fun K hK => ?_
  obtain ⟨v', own', w', hrun, h2, h3, h4⟩ := run_appX (P := P) w hU o.type hown A m c news hl hA hnews h1 hbytes
  unfold Oper.wp execOp
  simp only [ho, resolve, invoke, builtin, Sem.run_bind, Sem.run_pure, Result.andThen_ok, List.map_toArray, List.map_cons, List.map_nil, hs, hx, hrun]
  exact hK _ _ (h v' own' w' h2 h3 h4)
/-- at a step of a region that draws its order -/
theorem step_appX {ops : Array Oper} {o : Oper} {a : Act} {K : Act → World → Prop} {Q : Exit → Act → World → Prop} {E' : Prop} (hgd : o.guard = none) {t E : TypeId} {sz : Nat} (hU : UX P t E sz) (s x : Operand)
    (ho : o.op = .call { callee := .builtin .append, args := #[s, x], argTypes := #[t, t] })
    {own : Option Nat} {v : Value} {xs : List Value} (hs : a.eval s = v) (hown : OwnX sz w own v xs) (A : Option Addr) (m c : Nat) (hx : a.eval x = .slice A m c) (news : List Value) (hl : news.length = m * sz)
    (hA : A = none → m = 0) (hnews : ∀ ad, A = some ad → ∀ j u, news[j]? = some u → w.cell? (ad.add j) = some u) (h1 : ∀ u ∈ news, u.oneCell' = true) (hbytes : xs.length + m * sz ≤ 1000000000000)
    (h : ∀ v' own' w', OwnX sz w' own' v' (xs ++ news) → w.grownBy w' own → (own' = own ∨ own' = some w.heap.size) → K (a.put o.dst v') w') :
    if Region.wanted o (yielded ops a.tmps) = true then Oper.wp P o a w K Q else E' := by
  have hw : Region.wanted o (yielded ops a.tmps) = true := by simp [Region.wanted, hgd]
  rw [if_pos hw]
  obtain ⟨v', own', w', hrun, h2, h3, h4⟩ := run_appX (P := P) w hU o.type hown A m c news hl hA hnews h1 hbytes
  unfold Oper.wp execOp
  simp only [ho, resolve, invoke, builtin, Sem.run_bind, Sem.run_pure, Result.andThen_ok, List.map_toArray, List.map_cons, List.map_nil, hs, hx, hrun]
  exact h v' own' w' h2 h3 h4
end
end Go.Proofs.YtbpooaicmjkemaaGreatDoor

/-! Whose a block is: blocks of other marks stay; rows of strings anywhere in a block; over any program. No condition. -/
namespace Go.Proofs.YtbpooaicmjkemaaGreatDoor
open Go.RowKit
set_option linter.unusedVariables false
/-- the blocks whose mark is not among cl are as they were, and so are their marks -/
structure Turn (cl : Nat × Nat → Prop) (w w' : World) (own own' : Nat → Nat × Nat) : Prop where
  os : w'.os = w.os
  tape : w'.tape = w.tape
  output : w'.output = w.output
  size : w.heap.size ≤ w'.heap.size
  block : ∀ k, k < w.heap.size → ¬ cl (own k) → w'.heap[k]? = w.heap[k]?
  mark : ∀ k, k < w.heap.size → ¬ cl (own k) → own' k = own k
section
variable {cl : Nat × Nat → Prop} {w w' w'' : World} {own own' own'' : Nat → Nat × Nat}
theorem Turn.refl (cl : Nat × Nat → Prop) (w : World) (own : Nat → Nat × Nat) : Turn cl w w own own := ⟨rfl, rfl, rfl, Nat.le_refl _, fun _ _ _ => rfl, fun _ _ _ => rfl⟩
theorem Turn.trans (h : Turn cl w w' own own') (h' : Turn cl w' w'' own' own'') : Turn cl w w'' own own'' :=
  ⟨h'.os.trans h.os, h'.tape.trans h.tape, h'.output.trans h.output, Nat.le_trans h.size h'.size,
    fun k hk hc => (h'.block k (Nat.lt_of_lt_of_le hk h.size) (by rw [h.mark k hk hc]; exact hc)).trans (h.block k hk hc),
    fun k hk hc => (h'.mark k (Nat.lt_of_lt_of_le hk h.size) (by rw [h.mark k hk hc]; exact hc)).trans (h.mark k hk hc)⟩
theorem Turn.mono {cl' : Nat × Nat → Prop} (h : Turn cl w w' own own') (hc : ∀ t, cl t → cl' t) : Turn cl' w w' own own' :=
  ⟨h.os, h.tape, h.output, h.size, fun k hk hn => h.block k hk fun hx => hn (hc _ hx), fun k hk hn => h.mark k hk fun hx => hn (hc _ hx)⟩
/-- new blocks alone -/
theorem Turn.of_below (h : Below w.heap.size w w') (hm : ∀ k, k < w.heap.size → own' k = own k) : Turn cl w w' own own' :=
  ⟨h.os, h.tape, h.output, h.size, fun k hk _ => h.block k hk, fun k hk _ => hm k hk⟩
/-- what is nobody's stays -/
theorem Turn.below (h : Turn cl w w' own own') {B : Nat} (hB : B ≤ w.heap.size) (hz : ∀ k, k < B → own k = (0, 0)) (hc : ¬ cl (0, 0)) : Below B w w' :=
  ⟨h.os, h.tape, h.output, h.size, fun k hk => h.block k (Nat.lt_of_lt_of_le hk hB) (by rw [hz k hk]; exact hc)⟩
theorem Turn.zero (h : Turn cl w w' own own') {B : Nat} (hB : B ≤ w.heap.size) (hz : ∀ k, k < B → own k = (0, 0)) (hc : ¬ cl (0, 0)) : ∀ k, k < B → own' k = (0, 0) := fun k hk => by
  rw [h.mark k (Nat.lt_of_lt_of_le hk hB) (by rw [hz k hk]; exact hc), hz k hk]
theorem Turn.drewN (h : Turn cl w w' own own') (n : Nat) : Turn cl w (w'.drewN n) own own' := ⟨h.os, h.tape, h.output, h.size, h.block, h.mark⟩
end
/-! ### rows of strings -/
theorem belowX {B : Nat} {w w1 w2 : World} {own : Option Nat} (hb : Below B w w1) (hg : w1.grownBy w2 own) (ho : ∀ k, own = some k → B ≤ k) (hB : B ≤ w1.heap.size) : Below B w w2 :=
  ⟨hg.os.trans hb.os, hg.tape.trans hb.tape, hg.output.trans hb.output, Nat.le_trans hb.size hg.size, fun k hk => (hg.block k (by omega) (fun e => by have := ho k e.symm; omega)).trans (hb.block k hk)⟩
theorem OwnX.rs {w : World} {own : Option Nat} {A : Option Addr} {n c : Nat} {L : List ByteArray} (h : OwnX 1 w own (.slice A n c) (L.map Value.string)) : n = L.length ∧ n ≤ c ∧ c ≤ maxLen ∧ RS w w.heap.size A L := by
  obtain ⟨e1, e2, e3⟩ := h.form
  rw [List.length_map, Nat.mul_one] at e1
  refine ⟨e1.symm, e2, e3, ?_⟩
  rcases Nat.eq_zero_or_pos L.length with h0 | h0
  · exact .inl (List.eq_nil_of_length_eq_zero h0)
  · obtain ⟨g, off, -, rfl, hlt, hc, -⟩ := h.at_ (by omega)
    refine .inr ⟨g, off, rfl, hlt, fun i hi => ?_⟩
    rw [hc i (by rw [List.length_map]; exact hi), List.getElem?_map, List.getElem?_eq_getElem hi, st_getElem hi]
    rfl
theorem map_oneS (L : List ByteArray) : ∀ u ∈ L.map Value.string, u.oneCell' = true := by
  intro u hu
  obtain ⟨s, _, rfl⟩ := List.mem_map.1 hu
  rfl
theorem RS.news {w : World} {B : Nat} {A : Option Addr} {L : List ByteArray} (h : RS w B A L) : ∀ ad, A = some ad → ∀ j u, (L.map Value.string)[j]? = some u → w.cell? (ad.add j) = some u := by
  intro ad e j u hu
  have hj : j < L.length := by have := (List.getElem?_eq_some_iff.1 hu).1; simpa using this
  obtain ⟨b, off, rfl, -, hc⟩ := h.at_ hj
  cases e
  rw [Addr.add_lit, hc j hj, ← hu, List.getElem?_map, List.getElem?_eq_getElem hj, st_getElem hj]
  rfl
theorem RS.none_ {w : World} {B : Nat} {A : Option Addr} {L : List ByteArray} (h : RS w B A L) (hA : A = none) : L = [] := by
  rcases h with h | ⟨_, _, h, _⟩
  · exact h
  · rw [hA] at h; cases h
theorem RS.take {w : World} {B : Nat} {A : Option Addr} {L : List ByteArray} (h : RS w B A L) (k : Nat) : RS w B A (L.take k) := by
  rcases h with rfl | ⟨b, off, rfl, hb, hc⟩
  · exact .inl (by simp)
  · refine .inr ⟨b, off, rfl, hb, fun i hi => ?_⟩
    rw [List.length_take] at hi
    rw [hc i (by omega)]
    unfold st
    rw [List.getD_eq_getElem?_getD, List.getD_eq_getElem?_getD, List.getElem?_take_of_lt (by omega)]
theorem RS.dropA {w : World} {B : Nat} {A : Option Addr} {L : List ByteArray} (h : RS w B A L) (c k : Nat) (hc : L.length ≤ c) : RS w B (if c = k then A else A.map fun a => a.add (k * 1)) (L.drop k) := by
  rcases h with rfl | ⟨b, off, rfl, hb, hcl⟩
  · exact .inl (by simp)
  · by_cases h1 : L.length ≤ k
    · exact .inl (List.drop_of_length_le h1)
    · rw [if_neg (by omega)]
      refine .inr ⟨b, off + k, by simp [Addr.add_lit], hb, fun i hi => ?_⟩
      rw [List.length_drop] at hi
      rw [Nat.add_assoc, hcl (k + i) (by omega)]
      unfold st
      rw [List.getD_eq_getElem?_getD, List.getD_eq_getElem?_getD, List.getElem?_drop]
theorem map_snocS (L : List ByteArray) (s : ByteArray) : L.map Value.string ++ [Value.string s] = (L ++ [s]).map Value.string := by simp
theorem one_newS (w : World) (E : TypeId) (s : ByteArray) : ∀ ad, (some (⟨w.heap.size, 0, none⟩ : Addr)) = some ad → ∀ j u, ([.string s] : List Value)[j]? = some u → (w.alloc (.cells #[.string s] E)).cell? (ad.add j) = some u := by
  intro ad e j u hu
  cases e
  have hj : j = 0 := by
    have := (List.getElem?_eq_some_iff.1 hu).1
    simpa using this
  subst hj
  simp at hu
  subst hu
  rw [Addr.add_lit]
  exact (Blk.new w E #[.string s]).cell 0
theorem res0 {fn : Func} (h : fn.results = #[]) (tm : Array Value) (P : Program) (W : World) : (results fn tm).run P W = .ok (.tuple #[]) W := by simp [results, h]
end Go.Proofs.YtbpooaicmjkemaaGreatDoor

/-! A slice of structs of sz cells, as a row of rows; over any program. No condition. -/
namespace Go.Proofs.YtbpooaicmjkemaaGreatDoor
open Go.RowKit
set_option linter.unusedVariables false
theorem flat_len {α : Type} {sz : Nat} : ∀ {R : List (List α)}, (∀ r ∈ R, r.length = sz) → R.flatten.length = R.length * sz
  | [], _ => by simp
  | r :: R, h => by
    rw [List.flatten_cons, List.length_append, h r (by simp), flat_len (fun x hx => h x (by simp [hx])), List.length_cons, Nat.succ_mul, Nat.add_comm]
theorem flat_at {α : Type} {sz : Nat} : ∀ {R : List (List α)} (i j : Nat) (r : List α), (∀ r ∈ R, r.length = sz) → j < sz → R[i]? = some r → R.flatten[i * sz + j]? = r[j]?
  | [], i, j, r, _, _, h => by simp at h
  | x :: R, 0, j, r, h, hj, hr => by
    obtain rfl : x = r := by simpa using hr
    rw [List.flatten_cons, Nat.zero_mul, Nat.zero_add, List.getElem?_append_left (by rw [h x (by simp)]; exact hj)]
  | x :: R, i + 1, j, r, h, hj, hr => by
    have hx := h x (by simp)
    rw [List.flatten_cons, List.getElem?_append_right (by rw [hx, Nat.succ_mul]; omega), hx, show (i + 1) * sz + j - sz = i * sz + j by rw [Nat.succ_mul]; omega]
    exact flat_at i j r (fun y hy => h y (by simp [hy])) hj (by simpa using hr)
theorem flat_set {α : Type} {sz : Nat} : ∀ {R : List (List α)} (i j : Nat) (r : List α) (u : α), (∀ r ∈ R, r.length = sz) → j < sz → R[i]? = some r → R.flatten.set (i * sz + j) u = (R.set i (r.set j u)).flatten
  | [], i, j, r, u, _, _, h => by simp at h
  | x :: R, 0, j, r, u, h, hj, hr => by
    obtain rfl : x = r := by simpa using hr
    rw [List.flatten_cons, Nat.zero_mul, Nat.zero_add, List.set_cons_zero, List.flatten_cons, List.set_append_left _ _ (by rw [h x (by simp)]; exact hj)]
  | x :: R, i + 1, j, r, u, h, hj, hr => by
    have hx := h x (by simp)
    rw [List.flatten_cons, List.set_cons_succ, List.flatten_cons, List.set_append_right _ _ (by rw [hx, Nat.succ_mul]; omega), hx, show (i + 1) * sz + j - sz = i * sz + j by rw [Nat.succ_mul]; omega]
    rw [flat_set i j r u (fun y hy => h y (by simp [hy])) hj (by simpa using hr)]
theorem flat_take {α : Type} {sz : Nat} : ∀ {R : List (List α)} (i : Nat), (∀ r ∈ R, r.length = sz) → R.flatten.take (i * sz) = (R.take i).flatten
  | [], i, _ => by simp
  | x :: R, 0, _ => by simp
  | x :: R, i + 1, h => by
    have hx := h x (by simp)
    rw [List.flatten_cons, List.take_succ_cons, List.flatten_cons, List.take_append, hx, List.take_of_length_le (by rw [hx, Nat.succ_mul]; omega), show (i + 1) * sz - sz = i * sz by rw [Nat.succ_mul]; omega, flat_take i (fun y hy => h y (by simp [hy]))]
theorem flat_drop {α : Type} {sz : Nat} : ∀ {R : List (List α)} (i : Nat), (∀ r ∈ R, r.length = sz) → R.flatten.drop (i * sz) = (R.drop i).flatten
  | [], i, _ => by simp
  | x :: R, 0, _ => by simp
  | x :: R, i + 1, h => by
    have hx := h x (by simp)
    rw [List.flatten_cons, List.drop_succ_cons, List.drop_append, hx, List.drop_of_length_le (by rw [hx, Nat.succ_mul]; omega), show (i + 1) * sz - sz = i * sz by rw [Nat.succ_mul]; omega, flat_drop i (fun y hy => h y (by simp [hy])), List.nil_append]
/-- the cells of element i -/
theorem OwnX.elem {sz : Nat} {w : World} {own : Option Nat} {A : Option Addr} {n c : Nat} {R : List (List Value)} (h : OwnX sz w own (.slice A n c) R.flatten) (hsz : 0 < sz) (hR : ∀ r ∈ R, r.length = sz) {i : Nat} {r : List Value} (hr : R[i]? = some r) :
    n = R.length ∧ n ≤ c ∧ c ≤ maxLen ∧ i < n ∧ ∃ g off, own = some g ∧ A = some ⟨g, off, none⟩ ∧ g < w.heap.size ∧ ∀ j, j < sz → w.cell? ⟨g, off + i * sz + j, none⟩ = r[j]? ∧ w.frozen? ⟨g, off + i * sz + j, none⟩ = false := by
  obtain ⟨h0, h1, h2⟩ := h.form
  rw [flat_len hR] at h0
  have hn : n = R.length := (Nat.eq_of_mul_eq_mul_right hsz h0).symm
  have hi : i < R.length := (List.getElem?_eq_some_iff.1 hr).1
  obtain ⟨g, off, ho, rfl, hlt, hcl, hf⟩ := h.at_ (by omega)
  refine ⟨hn, h1, h2, by omega, g, off, ho, rfl, hlt, fun j hj => ?_⟩
  have hij : i * sz + j < R.length * sz := by
    have : (i + 1) * sz ≤ R.length * sz := Nat.mul_le_mul_right _ hi
    rw [Nat.succ_mul] at this
    omega
  have hc : R.length * sz ≤ c * sz := Nat.mul_le_mul_right _ (by omega)
  refine ⟨?_, ?_⟩
  · rw [Nat.add_assoc, hcl (i * sz + j) (by rw [flat_len hR]; exact hij), flat_at i j r hR hj hr]
  · rw [Nat.add_assoc]
    exact (hf (i * sz + j) (by omega)).2
theorem OwnX.count {sz : Nat} {w : World} {own : Option Nat} {A : Option Addr} {n c : Nat} {R : List (List Value)} (h : OwnX sz w own (.slice A n c) R.flatten) (hsz : 0 < sz) (hR : ∀ r ∈ R, r.length = sz) : n = R.length ∧ n ≤ c ∧ c ≤ maxLen := by
  obtain ⟨h0, h1, h2⟩ := h.form
  rw [flat_len hR] at h0
  exact ⟨(Nat.eq_of_mul_eq_mul_right hsz h0).symm, h1, h2⟩
/-- a store into a cell of element i -/
theorem OwnX.put_ {sz : Nat} {w : World} {own : Option Nat} {g off n c : Nat} {R : List (List Value)} (h : OwnX sz w own (.slice (some ⟨g, off, none⟩) n c) R.flatten) (hsz : 0 < sz) (hR : ∀ r ∈ R, r.length = sz) {i : Nat} {r : List Value} (hr : R[i]? = some r) {j : Nat} (hj : j < sz) (u : Value) :
    OwnX sz (w.setCell ⟨g, off + i * sz + j, none⟩ u) own (.slice (some ⟨g, off, none⟩) n c) (R.set i (r.set j u)).flatten := by
  obtain ⟨h0, h1, h2, hi, -⟩ := h.elem hsz hR hr
  have hij : i * sz + j < R.flatten.length := by
    have : (i + 1) * sz ≤ R.length * sz := Nat.mul_le_mul_right _ (by omega)
    rw [Nat.succ_mul] at this
    rw [flat_len hR]
    omega
  have := h.set_ (by omega) (i * sz + j) hij u
  rw [flat_set i j r u hR hj hr, ← Nat.add_assoc] at this
  exact this
theorem set_all {α : Type} {sz : Nat} {R : List (List α)} (h : ∀ r ∈ R, r.length = sz) {i : Nat} {r : List α} (hr : r.length = sz) : ∀ x ∈ R.set i r, x.length = sz := fun x hx => by
  rcases List.mem_or_eq_of_mem_set hx with hx | rfl
  · exact h x hx
  · exact hr
end Go.Proofs.YtbpooaicmjkemaaGreatDoor

/-! A world in which two blocks alone have changed, and new ones have come; what a reader of a stream holds; over any program. No condition. -/
namespace Go.Proofs.YtbpooaicmjkemaaGreatDoor
open Go.RowKit
set_option linter.unusedVariables false
/-- only blocks p and own may have changed -/
structure Chg (p : Nat) (own : Option Nat) (w w' : World) : Prop where
  os : w'.os = w.os
  tape : w'.tape = w.tape
  output : w'.output = w.output
  size : w.heap.size ≤ w'.heap.size
  block : ∀ i, i < w.heap.size → i ≠ p → some i ≠ own → w'.heap[i]? = w.heap[i]?
section
variable {p : Nat} {own : Option Nat} {w w' w2 : World}
theorem Chg.below {base : Nat} (h : Chg p own w w') (hp : base ≤ p) (ho : ∀ g, own = some g → base ≤ g) (hb : base ≤ w.heap.size) : Below base w w' :=
  ⟨h.os, h.tape, h.output, h.size, fun k hk => h.block k (by omega) (by omega) (fun e => by have := ho k e.symm; omega)⟩
theorem Chg.of_below (h : Below w.heap.size w w') : Chg p own w w' := ⟨h.os, h.tape, h.output, h.size, fun i hi _ _ => h.block i hi⟩
theorem Chg.of_grown (h : w.grownBy w' own) : Chg p own w w' := ⟨h.os, h.tape, h.output, h.size, fun i hi _ h2 => h.block i hi h2⟩
theorem Chg.refl (w : World) : Chg p own w w := Chg.of_below (Below.refl _ _)
theorem Chg.trans {own2 : Option Nat} (h : Chg p own w w') (k : Chg p own2 w' w2) (hn : own2 = own ∨ own2 = none ∨ ∃ g, own2 = some g ∧ w.heap.size ≤ g) : Chg p own w w2 :=
  ⟨k.os.trans h.os, k.tape.trans h.tape, k.output.trans h.output, Nat.le_trans h.size k.size, fun i hi h1 h2 => (k.block i (Nat.lt_of_lt_of_le hi h.size) h1 (by
    rcases hn with rfl | rfl | ⟨g, rfl, hg⟩
    · exact h2
    · intro e; cases e
    · intro e; injection e with e; omega)).trans (h.block i hi h1 h2)⟩
theorem Chg.setCell (h : Chg p own w w') (i : Nat) (v : Value) : Chg p own w (w'.setCell ⟨p, i, none⟩ v) :=
  ⟨h.os, h.tape, h.output, by simpa using h.size, fun k hk h1 h2 => (Below.heap_setCell w' ⟨p, i, none⟩ v k h1).trans (h.block k hk h1 h2)⟩
theorem Blk.chg {g : Nat} {t : TypeId} {cs : Array Value} (h : Blk w g t cs) (hc : Chg p own w w') (h1 : g ≠ p) (h2 : own ≠ some g) : Blk w' g t cs :=
  (hc.block g h.lt h1 (fun e => h2 e.symm)).trans h
theorem OwnQ.blocks {base : Nat} {o : Option Nat} {v : Value} {l : List UInt8} (h : OwnQ w base o v l) (hs : w.heap.size ≤ w'.heap.size) (hk : ∀ g, o = some g → g < w.heap.size → w'.heap[g]? = w.heap[g]?) : OwnQ w' base o v l := by
  obtain ⟨A, c, rfl, h1, h2, h3⟩ := h
  refine ⟨A, c, rfl, h1, h2, ?_⟩
  rcases h3 with h3 | ⟨g, off, rfl, rfl, hb, hlt, hc, hf⟩
  · exact .inl h3
  · have e := hk g rfl hlt
    refine .inr ⟨g, off, rfl, rfl, hb, Nat.lt_of_lt_of_le hlt hs, fun i hi => ?_, fun i hi => ?_⟩
    · rw [← hc i hi]; exact World.cell?_of_block e
    · rw [World.cell?_of_block (w := w) e, World.frozen?_of_block (w := w) e]; exact hf i hi
theorem OwnQ.chg {base : Nat} {o : Option Nat} {v : Value} {l : List UInt8} (h : OwnQ w base o v l) (hc : Chg p own w w') (h1 : o ≠ some p) (h2 : o = none ∨ o ≠ own) : OwnQ w' base o v l :=
  h.blocks hc.size fun g hg hlt => hc.block g hlt (fun e => h1 (by rw [hg, e])) (fun e => by rcases h2 with h2 | h2; rw [h2] at hg; cases hg; exact h2 (by rw [hg, e]))
theorem OwnQ.mono_ {base base' : Nat} {o : Option Nat} {v : Value} {l : List UInt8} (h : OwnQ w base o v l) (hb : base' ≤ base) : OwnQ w base' o v l := by
  obtain ⟨A, c, rfl, h1, h2, h3⟩ := h
  refine ⟨A, c, rfl, h1, h2, ?_⟩
  rcases h3 with h3 | ⟨g, off, h4, rfl, hb', hlt, hc, hf⟩
  · exact .inl h3
  · exact .inr ⟨g, off, h4, rfl, by omega, hlt, hc, hf⟩
/-- a reader: how long its lines may be, what waits -/
def Rd (w : World) (T : TypeId) (base p : Nat) (own : Option Nat) (most : Nat) (l : List UInt8) : Prop :=
  base ≤ p ∧ own ≠ some p ∧ ∃ v, Blk w p T #[.int .i64 (most : Int), v] ∧ OwnQ w base own v l
theorem Rd.chg {T : TypeId} {base q : Nat} {o : Option Nat} {most : Nat} {l : List UInt8} (h : Rd w T base q o most l) (hc : Chg p own w w') (h0 : q ≠ p) (h1 : own ≠ some q) (h2 : o ≠ some p) (h3 : o = none ∨ o ≠ own) : Rd w' T base q o most l := by
  obtain ⟨a, b, v, hB, hO⟩ := h
  exact ⟨a, b, v, hB.chg hc h0 h1, hO.chg hc h2 h3⟩
theorem Rd.below {T : TypeId} {base q : Nat} {o : Option Nat} {most : Nat} {l : List UInt8} (h : Rd w T base q o most l) (hb : Below w.heap.size w w') : Rd w' T base q o most l := by
  obtain ⟨a, b, v, hB, hO⟩ := h
  exact ⟨a, b, v, hB.keep hb, hO.below hb⟩
theorem Rd.lt {T : TypeId} {base q : Nat} {o : Option Nat} {most : Nat} {l : List UInt8} (h : Rd w T base q o most l) : base ≤ q ∧ q < w.heap.size ∧ ∀ g, o = some g → base ≤ g ∧ g < w.heap.size := by
  obtain ⟨a, b, v, hB, hO⟩ := h
  exact ⟨a, hB.lt, fun g hg => hO.base_ hg⟩
end
/-- v reads as l, in a block from base on whose bytes may be written, wherever it begins there -/
def OwnV (w : World) (base : Nat) (v : Value) (l : List UInt8) : Prop :=
  ∃ A c, v = .slice A l.length c ∧ l.length ≤ c ∧ c ≤ maxLen ∧ (l = [] ∨ ∃ g off, A = some ⟨g, off, none⟩ ∧ base ≤ g ∧ g < w.heap.size ∧ ∀ i, i < l.length → w.cell? ⟨g, off + i, none⟩ = some (.int .u8 (bt l i)) ∧ w.frozen? ⟨g, off + i, none⟩ = false)
section
variable {w w' : World} {base base' : Nat} {v : Value} {l : List UInt8}
theorem OwnV.of_q {own : Option Nat} (h : OwnQ w base own v l) : OwnV w base v l := by
  obtain ⟨A, c, rfl, h1, h2, h3⟩ := h
  refine ⟨A, c, rfl, h1, h2, ?_⟩
  rcases h3 with ⟨h3, _⟩ | ⟨g, off, _, rfl, hb, hlt, hc, hf⟩
  · exact .inl (List.eq_nil_of_length_eq_zero (by omega))
  · exact .inr ⟨g, off, rfl, hb, hlt, fun i hi => ⟨hc i hi, (hf i (by omega)).2⟩⟩
theorem OwnV.of_w (h : OwnW w base v l) : OwnV w base v l := by
  obtain ⟨A, c, rfl, h1, h2, h3⟩ := h
  refine ⟨A, c, rfl, h1, h2, ?_⟩
  rcases h3 with h3 | ⟨g, rfl, hb, hlt, hc⟩
  · exact .inl h3
  · exact .inr ⟨g, 0, rfl, hb, hlt, fun i hi => by rw [Nat.zero_add]; exact hc i hi⟩
theorem OwnV.of_own {E : Nat} (h : OwnB w base E v l) : OwnV w base v l := OwnV.of_w (OwnW.of_own h)
theorem OwnV.out (h : OwnV w base v l) : Out w v l := by
  obtain ⟨A, c, rfl, h1, h2, h3⟩ := h
  refine ⟨A, c, rfl, h1, h2, ?_⟩
  rcases h3 with h3 | ⟨g, off, rfl, _, hg, hc⟩
  · exact .inl h3
  · exact .inr ⟨g, off, rfl, hg, fun i hi => (hc i hi).1⟩
theorem OwnV.mono (h : OwnV w base v l) (hb : base' ≤ base) : OwnV w base' v l := by
  obtain ⟨A, c, rfl, h1, h2, h3⟩ := h
  refine ⟨A, c, rfl, h1, h2, ?_⟩
  rcases h3 with h3 | ⟨g, off, rfl, hb', hg, hc⟩
  · exact .inl h3
  · exact .inr ⟨g, off, rfl, by omega, hg, hc⟩
theorem OwnV.blocks (h : OwnV w base v l) (hs : w.heap.size ≤ w'.heap.size) (hk : ∀ g, base ≤ g → g < w.heap.size → v.ownBlock = some g ∨ True → w'.heap[g]? = w.heap[g]?) : OwnV w' base v l := by
  obtain ⟨A, c, rfl, h1, h2, h3⟩ := h
  refine ⟨A, c, rfl, h1, h2, ?_⟩
  rcases h3 with h3 | ⟨g, off, rfl, hb, hg, hc⟩
  · exact .inl h3
  · have e := hk g hb hg (.inr trivial)
    refine .inr ⟨g, off, rfl, hb, Nat.lt_of_lt_of_le hg hs, fun i hi => ?_⟩
    rw [World.cell?_of_block (w := w) e, World.frozen?_of_block (w := w) e]
    exact hc i hi
theorem OwnV.below (h : OwnV w base v l) (hb : Below w.heap.size w w') : OwnV w' base v l := h.blocks hb.size fun g _ hg _ => hb.block g hg
/-- other, older blocks alone have changed -/
theorem OwnV.chg {p : Nat} {own : Option Nat} (h : OwnV w base v l) (hc : Chg p own w w') (hp : p < base) (ho : ∀ g, own = some g → g < base) : OwnV w' base v l :=
  h.blocks hc.size fun g hb hg _ => hc.block g hg (by omega) (fun e => by have := ho g e.symm; omega)
theorem OwnV.take {A : Option Addr} {n c : Nat} (h : OwnV w base (.slice A n c) l) (k : Nat) (hk : k ≤ l.length) : OwnV w base (.slice A k c) (l.take k) := by
  obtain ⟨A', c', e, h1, h2, h3⟩ := h
  injection e with e1 e2 e3
  subst e1; subst e2; subst e3
  have hl : (l.take k).length = k := by rw [List.length_take]; omega
  refine ⟨A, c, by rw [hl], by rw [hl]; omega, h2, ?_⟩
  rcases h3 with h3 | ⟨g, off, rfl, hb, hg, hc⟩
  · subst h3; exact .inl (by simp)
  · refine .inr ⟨g, off, rfl, hb, hg, fun i hi => ?_⟩
    rw [hl] at hi
    obtain ⟨a, b⟩ := hc i (by omega)
    refine ⟨?_, b⟩
    rw [a]
    unfold bt
    rw [List.getD_eq_getElem?_getD, List.getD_eq_getElem?_getD, List.getElem?_take_of_lt hi]
theorem OwnV.sl {A : Option Addr} {n c : Nat} (h : OwnV w base (.slice A n c) l) : n = l.length ∧ n ≤ c ∧ c ≤ maxLen ∧ RB w w.heap.size A l := by
  obtain ⟨A', c', e, h1, h2, hr⟩ := h.out
  injection e with e1 e2 e3
  subst e1; subst e2; subst e3
  exact ⟨rfl, h1, h2, hr⟩
end
end Go.Proofs.YtbpooaicmjkemaaGreatDoor

/-! Strings as lists of bytes; over any program. No condition. -/
namespace Go.Proofs.YtbpooaicmjkemaaGreatDoor
open Go.RowKit
set_option linter.unusedVariables false
def bs (l : List UInt8) : ByteArray := ⟨l.toArray⟩
theorem bs_list (l : List UInt8) : (bs l).data.toList = l := by simp [bs]
theorem bs_size (l : List UInt8) : (bs l).size = l.length := by simp [bs, ByteArray.size]
theorem bs_of (s : ByteArray) : bs s.data.toList = s := by cases s; rfl
theorem bs_inj {a b : List UInt8} (h : bs a = bs b) : a = b := by rw [← bs_list a, h, bs_list]
theorem bs_nil (l : List UInt8) : (bs l).toList = l := by rw [ByteArray.toList_eq, bs_list]
theorem bs_ne {a b : List UInt8} (h : a ≠ b) : (bs a).toList ≠ (bs b).toList := by rw [bs_nil, bs_nil]; exact h
theorem bs_eqB {a b : List UInt8} : ((bs a).toList == (bs b).toList) = decide (a = b) := by rw [bs_nil, bs_nil]; exact (Bool.eq_iff_iff.2 (by simp))
theorem bs_app (a b : List UInt8) : bs a ++ bs b = bs (a ++ b) := by
  apply ByteArray.ext
  apply Array.ext'
  rw [ByteArray.data_append]
  simp [bs]
theorem bs_get (l : List UInt8) (i : Nat) (h : i < (bs l).size) (h2 : i < l.length) : (bs l)[i]'h = l[i] := rfl
theorem bs_lt (a b : List UInt8) : Op.bytesLess (bs a).toList (bs b).toList = decide (a < b) := by rw [bytesLess_eq, bs_nil, bs_nil]
theorem bs_extract (l : List UInt8) (i j : Nat) : (bs l).extract i j = bs ((l.drop i).take (j - i)) := by
  apply ByteArray.ext
  apply Array.ext'
  rw [ByteArray.data_extract]
  simp [bs, List.extract_eq_take_drop]
end Go.Proofs.YtbpooaicmjkemaaGreatDoor

/-! copy between rows of structs: cells of sz a piece; over any program. No condition. -/
namespace Go.Proofs.YtbpooaicmjkemaaGreatDoor
open Go.RowKit
set_option linter.unusedVariables false
theorem run_copyX {P : Program} (w : World) (dT sT ty elem : TypeId) (sz b o dLen dCap : Nat) (a : Addr) (sLen sCap k : Nat) (cs : List Value)
    (hu : P.underlying dT = some (.slice elem)) (hs : (P.info? elem).map (·.size) = some sz) (hk : k = Nat.min sLen dLen) (hn : cs.length = k * sz)
    (hsrc : ∀ j v, cs[j]? = some v → w.cell? (a.add j) = some v) (hc : ∀ j, j < cs.length → (w.cell? ⟨b, o + j, none⟩).isSome = true) (hf : ∀ j, j < cs.length → w.frozen? ⟨b, o + j, none⟩ = false) (h1 : ∀ v ∈ cs, v.oneCell' = true) :
    (Builtin.copy_ #[dT, sT] ty #[.slice (some ⟨b, o, none⟩) dLen dCap, .slice (some a) sLen sCap]).run P w = .ok (goInt k) (w.setCells b o cs) := by
  have hl := run_loadCells_list (P := P) w a cs hsrc
  have hst := run_storeCells_cells (P := P) b o cs 0 w (by simpa using hc) (by simpa using hf) h1
  cases hq : P.info? elem with
  | none => simp [hq] at hs
  | some i =>
    have hi : i.size = sz := by simpa [hq] using hs
    rw [hn] at hl
    simp [Builtin.copy_, run_underlying hu, Builtin.lenOf, Builtin.firstCells, sizeOf, typeInfo, hq, hi, ← hk, hl, hst]
end Go.Proofs.YtbpooaicmjkemaaGreatDoor

/-! One element more amid a slice of structs of sz cells: in place, or in a new block; over any program. No condition. -/
namespace Go.Proofs.YtbpooaicmjkemaaGreatDoor
open Go.RowKit
set_option linter.unusedVariables false
section
variable {sz : Nat} {w : World} {own : Option Nat} {xs vs : List Value}
theorem isSome_sets (b : Nat) (vs : List Value) (o : Nat) (w : World) (h : ∀ j, j < vs.length → (w.cell? ⟨b, o + j, none⟩).isSome = true) (k : Nat) (hk : (w.cell? ⟨b, k, none⟩).isSome = true) : ((w.setCells b o vs).cell? ⟨b, k, none⟩).isSome = true := by
  by_cases hin : o ≤ k ∧ k < o + vs.length
  · have := World.cell?_setCells_in b vs o w h (k - o) (by omega)
    rw [show o + (k - o) = k by omega] at this
    rw [this]; rfl
  · rw [World.cell?_setCells_out b vs o w ⟨b, k, none⟩ (fun _ _ => by show k < o ∨ o + vs.length ≤ k; omega)]
    exact hk
/-- cells from o on, behind a store of many -/
theorem sets_at (b : Nat) (vs : List Value) (o : Nat) (w : World) (h : ∀ j, j < vs.length → (w.cell? ⟨b, o + j, none⟩).isSome = true) (k : Nat) :
    (w.setCells b o vs).cell? ⟨b, k, none⟩ = if o ≤ k ∧ k < o + vs.length then vs[k - o]? else w.cell? ⟨b, k, none⟩ := by
  split
  · rename_i hin
    have := World.cell?_setCells_in b vs o w h (k - o) (by omega)
    rw [show o + (k - o) = k by omega] at this
    rw [this, List.getElem?_eq_getElem (by omega)]
  · rename_i hin
    exact World.cell?_setCells_out b vs o w ⟨b, k, none⟩ (fun _ _ => by show k < o ∨ o + vs.length ≤ k; omega)
/-- in place: what stands from element i on is one further, then the new one is laid -/
theorem OwnX.shift {g off n c : Nat} (h : OwnX sz w own (.slice (some ⟨g, off, none⟩) n c) xs) (hsz : 0 < sz) (hroom : n + 1 ≤ c) (i : Nat) (hi : i ≤ n) (hv : vs.length = sz) :
    OwnX sz ((w.setCells g (off + (i + 1) * sz) (xs.drop (i * sz))).setCells g (off + i * sz) vs) own (.slice (some ⟨g, off, none⟩) (n + 1) c) (xs.take (i * sz) ++ vs ++ xs.drop (i * sz)) ∧
      w.grownBy ((w.setCells g (off + (i + 1) * sz) (xs.drop (i * sz))).setCells g (off + i * sz) vs) own := by
  obtain ⟨h0, h1, h2⟩ := h.form
  obtain ⟨g', off', ho, e, hlt, hcl, hf⟩ := h.at_ (by omega)
  injection e with e
  injection e with e1 e2
  subst e1 e2
  have m1 : i * sz ≤ n * sz := Nat.mul_le_mul_right _ hi
  have m2 : (n + 1) * sz ≤ c * sz := Nat.mul_le_mul_right _ hroom
  have m3 : (n + 1) * sz = n * sz + sz := by rw [Nat.succ_mul]
  have m4 : (i + 1) * sz = i * sz + sz := by rw [Nat.succ_mul]
  have hdl : (xs.drop (i * sz)).length = n * sz - i * sz := by rw [List.length_drop, h0]
  have s1 : ∀ j, j < (xs.drop (i * sz)).length → (w.cell? ⟨g, off + (i + 1) * sz + j, none⟩).isSome = true := fun j hj => by
    rw [Nat.add_assoc]; exact (hf ((i + 1) * sz + j) (by omega)).1
  have s2 : ∀ j, j < vs.length → ((w.setCells g (off + (i + 1) * sz) (xs.drop (i * sz))).cell? ⟨g, off + i * sz + j, none⟩).isSome = true := fun j hj =>
    isSome_sets g _ _ w s1 _ (by rw [Nat.add_assoc]; exact (hf (i * sz + j) (by omega)).1)
  have k1 := keptBlk_setCells g (xs.drop (i * sz)) (off + (i + 1) * sz) w
  have k2 := keptBlk_setCells g vs (off + i * sz) (w.setCells g (off + (i + 1) * sz) (xs.drop (i * sz)))
  have hG : w.grownBy ((w.setCells g (off + (i + 1) * sz) (xs.drop (i * sz))).setCells g (off + i * sz) vs) (some g) :=
    ⟨k2.os.trans k1.os, k2.tape.trans k1.tape, k2.output.trans k1.output, Nat.le_trans k1.size k2.size, fun j hj hne => (k2.block j (Nat.lt_of_lt_of_le hj k1.size) hne).trans (k1.block j hj hne)⟩
  refine ⟨⟨_, n + 1, c, rfl, ?_, hroom, h2, .inr ⟨g, off, ho, rfl, Nat.lt_of_lt_of_le hlt hG.size, fun j hj => ?_, fun j hj => ⟨?_, ?_⟩⟩⟩, by rw [ho]; exact hG⟩
  · rw [List.length_append, List.length_append, List.length_take, List.length_drop, h0, hv]; omega
  · rw [List.length_append, List.length_append, List.length_take, List.length_drop, h0, hv] at hj
    rw [sets_at g vs _ _ s2, sets_at g _ _ w s1]
    have lt1 : (xs.take (i * sz)).length = i * sz := by rw [List.length_take]; omega
    rcases Nat.lt_or_ge j (i * sz) with hj1 | hj1
    · rw [if_neg (by omega), if_neg (by omega), hcl j (by omega), List.append_assoc, List.getElem?_append_left (by omega), List.getElem?_take_of_lt hj1]
    · rcases Nat.lt_or_ge j (i * sz + sz) with hj2 | hj2
      · rw [if_pos (by omega), List.append_assoc, List.getElem?_append_right (by omega), List.getElem?_append_left (by omega)]
        congr 1
        omega
      · rw [if_neg (by omega), if_pos (by omega), List.append_assoc, List.getElem?_append_right (by omega), List.getElem?_append_right (by omega)]
        congr 1
        omega
  · exact isSome_sets g _ _ _ s2 _ (isSome_sets g _ _ w s1 _ (hf j hj).1)
  · rw [World.frozen?_setCells, World.frozen?_setCells]; exact (hf j hj).2
/-- in a new block, filled up -/
theorem OwnX.fill {N n c i : Nat} (hN : N < w.heap.size) (hx : xs.length = n * sz) (hi : i ≤ n) (hc : n + 1 ≤ c) (hm : c ≤ maxLen) (hv : vs.length = sz) (h0 : ∀ j, j < i * sz → w.cell? ⟨N, j, none⟩ = xs[j]?) (hs : ∀ j, j < c * sz → (w.cell? ⟨N, j, none⟩).isSome = true ∧ w.frozen? ⟨N, j, none⟩ = false) :
    OwnX sz ((w.setCells N (i * sz) vs).setCells N ((i + 1) * sz) (xs.drop (i * sz))) (some N) (.slice (some ⟨N, 0, none⟩) (n + 1) c) (xs.take (i * sz) ++ vs ++ xs.drop (i * sz)) ∧
      w.grownBy ((w.setCells N (i * sz) vs).setCells N ((i + 1) * sz) (xs.drop (i * sz))) (some N) := by
  have m1 : i * sz ≤ n * sz := Nat.mul_le_mul_right _ hi
  have m2 : (n + 1) * sz ≤ c * sz := Nat.mul_le_mul_right _ hc
  have m3 : (n + 1) * sz = n * sz + sz := by rw [Nat.succ_mul]
  have m4 : (i + 1) * sz = i * sz + sz := by rw [Nat.succ_mul]
  have hdl : (xs.drop (i * sz)).length = n * sz - i * sz := by rw [List.length_drop, hx]
  have s1 : ∀ j, j < vs.length → (w.cell? ⟨N, i * sz + j, none⟩).isSome = true := fun j hj => (hs _ (by omega)).1
  have s2 : ∀ j, j < (xs.drop (i * sz)).length → ((w.setCells N (i * sz) vs).cell? ⟨N, (i + 1) * sz + j, none⟩).isSome = true := fun j hj =>
    isSome_sets N _ _ w s1 _ (hs _ (by omega)).1
  have k1 := keptBlk_setCells N vs (i * sz) w
  have k2 := keptBlk_setCells N (xs.drop (i * sz)) ((i + 1) * sz) (w.setCells N (i * sz) vs)
  have hG : w.grownBy ((w.setCells N (i * sz) vs).setCells N ((i + 1) * sz) (xs.drop (i * sz))) (some N) :=
    ⟨k2.os.trans k1.os, k2.tape.trans k1.tape, k2.output.trans k1.output, Nat.le_trans k1.size k2.size, fun j hj hne => (k2.block j (Nat.lt_of_lt_of_le hj k1.size) hne).trans (k1.block j hj hne)⟩
  refine ⟨⟨_, n + 1, c, rfl, ?_, hc, hm, .inr ⟨N, 0, rfl, rfl, Nat.lt_of_lt_of_le hN hG.size, fun j hj => ?_, fun j hj => ⟨?_, ?_⟩⟩⟩, hG⟩
  · rw [List.length_append, List.length_append, List.length_take, List.length_drop, hx, hv]; omega
  · rw [List.length_append, List.length_append, List.length_take, List.length_drop, hx, hv] at hj
    rw [Nat.zero_add, sets_at N _ _ _ s2, sets_at N _ _ w s1]
    have lt1 : (xs.take (i * sz)).length = i * sz := by rw [List.length_take]; omega
    rcases Nat.lt_or_ge j (i * sz) with hj1 | hj1
    · rw [if_neg (by omega), if_neg (by omega), h0 j hj1, List.append_assoc, List.getElem?_append_left (by omega), List.getElem?_take_of_lt hj1]
    · rcases Nat.lt_or_ge j (i * sz + sz) with hj2 | hj2
      · rw [if_neg (by omega), if_pos (by omega), List.append_assoc, List.getElem?_append_right (by omega), List.getElem?_append_left (by omega)]
        congr 1
        omega
      · rw [if_pos (by omega), List.append_assoc, List.getElem?_append_right (by omega), List.getElem?_append_right (by omega)]
        congr 1
        omega
  · rw [Nat.zero_add]
    exact isSome_sets N _ _ _ s2 _ (isSome_sets N _ _ w s1 _ (hs j hj).1)
  · rw [Nat.zero_add, World.frozen?_setCells, World.frozen?_setCells]; exact (hs j hj).2
/-- a slice that has cells: its block's shape -/
theorem shape_of {g k : Nat} {u : Value} (h : w.cell? ⟨g, k, none⟩ = some u) : ∃ t m, w.shape? g = some (t, m) ∧ m ≠ 0 := by
  unfold World.cell? at h
  unfold World.shape?
  split at h
  · rename_i cs t fz hh
    refine ⟨t, cs.size, ?_, ?_⟩
    · have hh' : w.heap[g]? = some (.cells cs t fz) := hh
      rw [hh']
    · intro e
      simp at h
      have : cs = #[] := Array.eq_empty_of_size_eq_zero e
      subst this
      simp at h
  · cases h
end
end Go.Proofs.YtbpooaicmjkemaaGreatDoor

/-! Some blocks stay as they are; over any program. No condition. -/
namespace Go.Proofs.YtbpooaicmjkemaaGreatDoor
open Go.RowKit
set_option linter.unusedVariables false
structure Safe (S : Nat → Prop) (w w' : World) : Prop where
  os : w'.os = w.os
  tape : w'.tape = w.tape
  output : w'.output = w.output
  size : w.heap.size ≤ w'.heap.size
  block : ∀ k, S k → w'.heap[k]? = w.heap[k]?
section
variable {S : Nat → Prop} {w w' w'' : World}
theorem Safe.refl (S : Nat → Prop) (w : World) : Safe S w w := ⟨rfl, rfl, rfl, Nat.le_refl _, fun _ _ => rfl⟩
theorem Safe.trans (h : Safe S w w') (h' : Safe S w' w'') : Safe S w w'' :=
  ⟨h'.os.trans h.os, h'.tape.trans h.tape, h'.output.trans h.output, Nat.le_trans h.size h'.size, fun k hk => (h'.block k hk).trans (h.block k hk)⟩
theorem Safe.of_below (h : Below w.heap.size w w') (hS : ∀ k, S k → k < w.heap.size) : Safe S w w' := ⟨h.os, h.tape, h.output, h.size, fun k hk => h.block k (hS k hk)⟩
theorem Safe.below (h : Safe S w w') (hb : Below w'.heap.size w' w'') (hS : ∀ k, S k → k < w'.heap.size) : Safe S w w'' := h.trans (Safe.of_below hb hS)
theorem Safe.set_ (h : Safe S w w') {p : Addr} (hp : ¬ S p.block) (v : Value) : Safe S w (w'.setCell p v) :=
  ⟨h.os, h.tape, h.output, by simpa using h.size, fun k hk => (Below.heap_setCell w' p v k (fun e => hp (by rw [← e]; exact hk))).trans (h.block k hk)⟩
theorem Safe.grown {g : Option Nat} (h : Safe S w w') (hg : w'.grownBy w'' g) (hS : ∀ k, S k → k < w'.heap.size ∧ g ≠ some k) : Safe S w w'' :=
  ⟨hg.os.trans h.os, hg.tape.trans h.tape, hg.output.trans h.output, Nat.le_trans h.size hg.size, fun k hk => (hg.block k (hS k hk).1 (fun e => (hS k hk).2 e.symm)).trans (h.block k hk)⟩
theorem Safe.drewN (h : Safe S w w') (n : Nat) : Safe S w (w'.drewN n) := ⟨h.os, h.tape, h.output, h.size, h.block⟩
theorem Safe.to_below (h : Safe S w w') {B : Nat} (hB : ∀ k, k < B → S k) : Below B w w' := ⟨h.os, h.tape, h.output, h.size, fun k hk => h.block k (hB k hk)⟩
theorem Safe.mono {S' : Nat → Prop} (h : Safe S w w') (hS : ∀ k, S' k → S k) : Safe S' w w' := ⟨h.os, h.tape, h.output, h.size, fun k hk => h.block k (hS k hk)⟩
theorem Blk.safe {g : Nat} {t : TypeId} {cs : Array Value} (h : Blk w g t cs) (hs : Safe S w w') (hg : S g) : Blk w' g t cs := (hs.block g hg).trans h
theorem OwnX.safe {sz : Nat} {o : Option Nat} {v : Value} {xs : List Value} (h : OwnX sz w o v xs) (hs : Safe S w w') (hg : ∀ k, o = some k → S k) : OwnX sz w' o v xs := h.same hs.size fun k hk => hs.block k (hg k hk)
end
end Go.Proofs.YtbpooaicmjkemaaGreatDoor

/-! A call of a Go function at a step of a region that draws its order, by its contract; over any program. No condition. -/
namespace Go.Proofs.YtbpooaicmjkemaaGreatDoor
open Go.RowKit
set_option linter.unusedVariables false
theorem step_calls {P : Program} {ops : Array Oper} {o : Oper} {a : Act} {w : World} {K : Act → World → Prop} {Q : Exit → Act → World → Prop} {E' : Prop} (hgd : o.guard = none) {f : FuncId} (xs : Array Operand) (ats : Array TypeId)
    (ho : o.op = .call { callee := .value (.func f), args := xs, argTypes := ats }) {fn : Func} (hf : P.funcs[f]? = some fn) (hb : fn.body.isNone = false) (hn : (fn.name == "runtime.NumGoroutine") = false)
    (vs : Array Value) (hv : xs.map a.eval = vs) {R : Ending → World → Prop} (hc : Calls P f vs w R) (hr : ∀ e w', R e w' → ∃ v, e = .returned v ∧ K (a.put o.dst v) w') :
    if Region.wanted o (yielded ops a.tmps) = true then Oper.wp P o a w K Q else E' := by
  have hw : Region.wanted o (yielded ops a.tmps) = true := by simp [Region.wanted, hgd]
  rw [if_pos hw]
  have hrun : (execOp a.eval o).run P w = .ok (.enter f vs) w := by
    obtain ⟨dst, op, ty, pos, after, guard⟩ := o
    simp only at ho
    subst ho
    rw [execOp_call_go]
    rw [hv]
    have hb2 : fn.body ≠ none := fun e => by rw [e] at hb; cases hb
    have hn2 : fn.name ≠ "runtime.NumGoroutine" := by simpa using hn
    simp [callFunc, go_sem, hf, hb2, hn2]
  unfold Oper.wp
  rw [hrun]
  simp only [Oper.upon]
  exact hc.mono fun e w' h => by
    obtain ⟨v, rfl, hk⟩ := hr e w' h
    exact hk
end Go.Proofs.YtbpooaicmjkemaaGreatDoor

/-! A scope with gotos forward to one label: what follows the label is walked at each goto; over any program. No condition. -/
namespace Go.Proofs.YtbpooaicmjkemaaGreatDoor
open Go.RowKit
theorem wp_scope_inline {P : Program} {a : Act} {w : World} {Q : Exit → Act → World → Prop} {c rest : Code} (l : Nat) (hf : findLabel c l = some rest)
    (first : c.wp P (Exit.jump l (fun a w => rest.wp P (Exit.jump l (fun _ _ => False) Q) a w) Q) a w) : (Code.scope c).wp P Q a w :=
  wp_scope_jumps l _ (fun _ _ => 0) hf first fun a w h => Code.wp_mono (fun e a w h => by
    cases e with
    | goto l' => exact h.2.elim
    | _ => exact h) h
theorem jump_ret {l : Nat} {J : Act → World → Prop} {Q : Exit → Act → World → Prop} {a : Act} {w : World} (h : Q .ret a w) : Exit.jump l J Q .ret a w := h
end Go.Proofs.YtbpooaicmjkemaaGreatDoor

/-! More words: the beginning of a slice; over any program. No condition. -/
namespace Go.Proofs.YtbpooaicmjkemaaGreatDoor
set_option linter.unusedVariables false
theorem RB.take {w : World} {B : Nat} {A : Option Addr} {l : List UInt8} (h : RB w B A l) (k : Nat) : RB w B A (l.take k) := by
  rcases h with rfl | ⟨b, off, rfl, hb, hc⟩
  · exact .inl (by simp)
  · refine .inr ⟨b, off, rfl, hb, fun i hi => ?_⟩
    rw [List.length_take] at hi
    rw [hc i (by omega)]
    unfold bt
    rw [List.getD_eq_getElem?_getD, List.getD_eq_getElem?_getD, List.getElem?_take_of_lt (by omega)]
theorem RB.some_ {w : World} {B : Nat} {A : Option Addr} {l : List UInt8} (h : RB w B A l) (hl : 0 < l.length) : ∃ b off, A = some ⟨b, off, none⟩ := by
  obtain ⟨b, off, e, _⟩ := h.at_ hl
  exact ⟨b, off, e⟩
theorem arr_ne {a b : List UInt8} (h : ¬ a = b) : ¬ (⟨a.toArray⟩ : ByteArray) = ⟨b.toArray⟩ := by
  intro e
  apply h
  have := congrArg (fun x : ByteArray => x.data.toList) e
  simpa using this
/-- a return of four results -/
theorem results_t4 {fn : Func} {t u v x : Tmp} (h : fn.results = #[.tmp t, .tmp u, .tmp v, .tmp x]) (tmps : Array Value) (P : Program) (w : World) :
    (results fn tmps).run P w = .ok (.tuple #[tmps.getD t undef, tmps.getD u undef, tmps.getD v undef, tmps.getD x undef]) w := by
  simp [results, h]
end Go.Proofs.YtbpooaicmjkemaaGreatDoor

/-! Opening arguments that are slices of bytes; the witness of a row that lists variables; over any program. No condition. -/
namespace Go.Proofs.YtbpooaicmjkemaaGreatDoor
open Go.ChangeShapes Go.WideShapes Go.ChangeAt Go.RowKit
set_option linter.unusedVariables false
section
variable {H : Type} {enc : TypeId × Value → H} {P : Program}

theorem open_bytes {W : World} {r : Reach} {base0 : Nat} {t E : TypeId} {v : Value} {d : DataW H} {p : List MemPlace} {ts : List TypeId} {ds : List (DataW H)} {j : Nat} (hU : U8 P t E) (hcE : P.cellsOf E = 1) (hbE : P.bytesOf E = 1)
    (hval : Value.okWide P W r base0 t v) (h : DataW.Trod enc P W 0 (fun _ => true) true t v d p) (hsz : (DataW.weightsEach P ts ds).all (· ≤ reachBytes) = true) (hts : ts[j]? = some t) (hds : ds[j]? = some d) :
    ∃ A l cp, v = .slice A l.length cp ∧ l.length ≤ cp ∧ cp ≤ 140737488351232 ∧ RB W W.heap.size A l := by
  obtain ⟨a0, len0, cap0, rfl⟩ := okWide_slice hU.ht hval
  obtain ⟨fuel, hf⟩ := h
  rcases open_ints hU.ht hU.he hcE hf with ⟨hcs, _⟩ | ⟨x, len, cap, zs, hcs, _, hl, hm, hz, hx, hcell, hwz⟩
  · simp [Value.cells] at hcs
    obtain ⟨rfl, rfl, rfl⟩ := hcs
    exact ⟨none, [], 0, rfl, by simp, by omega, .inl rfl⟩
  · simp [Value.cells] at hcs
    obtain ⟨rfl, rfl, rfl⟩ := hcs
    simp only [if_true] at hz
    obtain rfl : d = _ := congrArg Prod.fst hx
    have hs := sized_slice hsz hts hds hU.ht
    rw [hbE, Nat.mul_one] at hs
    have hs' : cap0 ≤ 140737488351232 := by
      have e : (lits .u8 (zs.take len0) : List (DataW H)).length + (lits .u8 (zs.drop len0) : List (DataW H)).length = cap0 := by
        simp [lits]; omega
      rw [e] at hs
      exact hs
    have hlen : ((zs.take len0).map fun z => UInt8.ofNat z.toNat).length = len0 := by simp; omega
    refine ⟨some x, (zs.take len0).map fun z => UInt8.ofNat z.toNat, cap0, by rw [hlen], by rw [hlen]; exact hl, hs', ?_⟩
    rcases Nat.eq_zero_or_pos len0 with h0 | h0
    · subst h0; exact .inl (by simp)
    · obtain ⟨b, off, spot⟩ := x
      have hc0 := hcell 0 (by omega)
      obtain rfl : spot = none := by simpa [Addr.add] using World.cell?_spot hc0
      have hlt := World.block_lt_of_cell? _ _ hc0
      refine .inr ⟨b, off, rfl, by simpa [Addr.add_lit] using hlt, fun i hi => ?_⟩
      rw [hlen] at hi
      have hci := hcell i (by omega)
      rw [Addr.add_lit] at hci
      rw [hci]
      have hzi : zs.getD i 0 ∈ zs := by
        rw [List.getD_eq_getElem?_getD, List.getElem?_eq_getElem (by omega)]
        exact List.getElem_mem (by omega)
      have hw := hwz _ hzi
      have hb : 0 ≤ zs.getD i 0 ∧ zs.getD i 0 ≤ 255 := by simpa [Lit.wf, IntKind.min, IntKind.max, IntKind.bits, IntKind.signed] using hw
      congr 2
      unfold bt
      simp only [List.getD_eq_getElem?_getD, List.getElem?_map, List.getElem?_take_of_lt hi] at hb ⊢
      rw [List.getElem?_eq_getElem (by omega)] at hb ⊢
      simp only [Option.map_some, Option.getD_some] at hb ⊢
      rw [UInt8.toNat_ofNat']
      omega

/-- a slice of strings, opened -/
theorem open_strs {W : World} {t e : TypeId} {n : Nat} {v : Value} {y : DataW H × List MemPlace} (ht : P.underlying t = some (.slice e)) (he : P.underlying e = some .string) (hc : P.cellsOf e = 1)
    (h : DataW.trod enc P W 0 (fun _ => true) true n t [v] = some y) :
    ∃ A L cp, v = .slice A L.length cp ∧ L.length ≤ cp ∧ cp ≤ maxLen ∧ RS W W.heap.size A L ∧ ∀ s ∈ L, s.size ≤ maxLen := by
  rcases open_strings ht he hc h with ⟨hcs, _⟩ | ⟨x, len, cap, ss, hcs, _, hl, hm, hz, hx, hcell, hsz⟩
  · obtain rfl : v = _ := by simpa using hcs
    exact ⟨none, [], 0, rfl, by simp, by simp [maxLen], .inl rfl, by simp⟩
  · obtain rfl : v = _ := by simpa using hcs
    simp only [if_true] at hz
    have hlen : (ss.take len).length = len := by rw [List.length_take]; omega
    refine ⟨some x, ss.take len, cap, by rw [hlen], by rw [hlen]; exact hl, hm, ?_, fun s hs => hsz s (List.mem_of_mem_take hs)⟩
    rcases Nat.eq_zero_or_pos len with h0 | h0
    · subst h0; exact .inl (by simp)
    · obtain ⟨b, off, spot⟩ := x
      have hc0 := hcell 0 (by omega)
      obtain rfl : spot = none := by simpa [Addr.add] using World.cell?_spot hc0
      have hlt := World.block_lt_of_cell? _ _ hc0
      refine .inr ⟨b, off, rfl, by simpa [Addr.add_lit] using hlt, fun i hi => ?_⟩
      rw [hlen] at hi
      have hci := hcell i (by omega)
      rw [Addr.add_lit] at hci
      rw [hci]
      unfold st
      simp only [List.getD_eq_getElem?_getD, List.getElem?_take_of_lt hi]
      rw [List.getElem?_eq_getElem (by omega)]
      rfl

/-- the witness of a row: a world that is written out -/
theorem witness_row {C : Checked} {os : Os} {f : FuncId} {fn : Func} {s : OpenSpec} {conds : List PathCond} {apart : Bool} {laid : List (String × DataW Unit)} (w0 : World) (args : Array Value) (hos : w0.os = os)
    (hsh : (w0.forCall (fun _ _ => 0) ⟨#[], args, []⟩).Shaped C.prog)
    (hok : Input.okWideB C.prog (w0.forCall (fun _ _ => 0) ⟨#[], args, []⟩) f ⟨#[], args, []⟩ = true)
    (hrow : s.preRow enc C.prog fn conds apart laid (w0.forCall (fun _ _ => 0) ⟨#[], args, []⟩).memory args) :
    ∃ (w : World) (tape : Tape) (i : Input), w.os = os ∧ (w.forCall tape i).Shaped C.prog ∧ i.vars = [] ∧ Input.okWide C.prog (w.forCall tape i) .any w.heap.size f i ∧
      s.preRow enc C.prog fn conds apart laid (w.forCall tape i).memory i.args ∧ ({} : Assume).holds C.prog (lone (Frame.enter C.prog f i.args .normal) [] (w.forCall tape i)) :=
  ⟨w0, fun _ _ => 0, ⟨#[], args, []⟩, hos, hsh, (Input.okWide_of_okWideB (base := 0) hok).1, (Input.okWide_of_okWideB hok).2, hrow, by
    simp only [Assume.holds]
    exact ⟨by simp, by simp, by simp, by simp, by simp⟩⟩
end
end Go.Proofs.YtbpooaicmjkemaaGreatDoor

/-! Opening arguments that are slices of bytes: with what their datum says of their size; over any program. No condition. -/
namespace Go.Proofs.YtbpooaicmjkemaaGreatDoor
open Go.ChangeShapes Go.WideShapes Go.ChangeAt Go.RowKit
set_option linter.unusedVariables false
section
variable {H : Type} {enc : TypeId × Value → H} {P : Program}

theorem open_bytes2 {W : World} {r : Reach} {base0 : Nat} {t E : TypeId} {v : Value} {d : DataW H} {p : List MemPlace} {ts : List TypeId} {ds : List (DataW H)} {j : Nat} (hU : U8 P t E) (hcE : P.cellsOf E = 1) (hbE : P.bytesOf E = 1)
    (hval : Value.okWide P W r base0 t v) (h : DataW.Trod enc P W 0 (fun _ => true) true t v d p) (hsz : (DataW.weightsEach P ts ds).all (· ≤ reachBytes) = true) (hts : ts[j]? = some t) (hds : ds[j]? = some d) :
    ∃ A l cp, v = .slice A l.length cp ∧ l.length ≤ cp ∧ cp ≤ 140737488351232 ∧ RB W W.heap.size A l ∧ (A = none → cp = 0) ∧ ((d = .nil ∧ cp = 0) ∨ ∃ es ss : List (DataW H), d = .slice es ss ∧ es.length = l.length ∧ es.length + ss.length = cp) := by
  obtain ⟨a0, len0, cap0, rfl⟩ := okWide_slice hU.ht hval
  obtain ⟨fuel, hf⟩ := h
  rcases open_ints hU.ht hU.he hcE hf with ⟨hcs, _⟩ | ⟨x, len, cap, zs, hcs, _, hl, hm, hz, hx, hcell, hwz⟩
  · simp [Value.cells] at hcs
    obtain ⟨rfl, rfl, rfl⟩ := hcs
    exact ⟨none, [], 0, rfl, by simp, by omega, .inl rfl, fun _ => rfl, .inl ⟨by first | assumption | rfl | (simp_all), rfl⟩⟩
  · simp [Value.cells] at hcs
    obtain ⟨rfl, rfl, rfl⟩ := hcs
    simp only [if_true] at hz
    obtain rfl : d = _ := congrArg Prod.fst hx
    have hs := sized_slice hsz hts hds hU.ht
    rw [hbE, Nat.mul_one] at hs
    have hs' : cap0 ≤ 140737488351232 := by
      have e : (lits .u8 (zs.take len0) : List (DataW H)).length + (lits .u8 (zs.drop len0) : List (DataW H)).length = cap0 := by
        simp [lits]; omega
      rw [e] at hs
      exact hs
    have hlen : ((zs.take len0).map fun z => UInt8.ofNat z.toNat).length = len0 := by simp; omega
    refine ⟨some x, (zs.take len0).map fun z => UInt8.ofNat z.toNat, cap0, by rw [hlen], by rw [hlen]; exact hl, hs', ?_, (fun e => by cases e), .inr ⟨_, _, rfl, by simp [lits], by simp [lits]; omega⟩⟩
    rcases Nat.eq_zero_or_pos len0 with h0 | h0
    · subst h0; exact .inl (by simp)
    · obtain ⟨b, off, spot⟩ := x
      have hc0 := hcell 0 (by omega)
      obtain rfl : spot = none := by simpa [Addr.add] using World.cell?_spot hc0
      have hlt := World.block_lt_of_cell? _ _ hc0
      refine .inr ⟨b, off, rfl, by simpa [Addr.add_lit] using hlt, fun i hi => ?_⟩
      rw [hlen] at hi
      have hci := hcell i (by omega)
      rw [Addr.add_lit] at hci
      rw [hci]
      have hzi : zs.getD i 0 ∈ zs := by
        rw [List.getD_eq_getElem?_getD, List.getElem?_eq_getElem (by omega)]
        exact List.getElem_mem (by omega)
      have hw := hwz _ hzi
      have hb : 0 ≤ zs.getD i 0 ∧ zs.getD i 0 ≤ 255 := by simpa [Lit.wf, IntKind.min, IntKind.max, IntKind.bits, IntKind.signed] using hw
      congr 2
      unfold bt
      simp only [List.getD_eq_getElem?_getD, List.getElem?_map, List.getElem?_take_of_lt hi] at hb ⊢
      rw [List.getElem?_eq_getElem (by omega)] at hb ⊢
      simp only [Option.map_some, Option.getD_some] at hb ⊢
      rw [UInt8.toNat_ofNat']
      omega

end
end Go.Proofs.YtbpooaicmjkemaaGreatDoor

/-! A row of numbers that came in: opening it; over any program. No condition. -/
namespace Go.Proofs.YtbpooaicmjkemaaGreatDoor
open Go.ChangeShapes Go.WideShapes Go.ChangeAt Go.RowKit
set_option linter.unusedVariables false
/-- a row of numbers -/
def RI (w : World) (B : Nat) (A : Option Addr) (zs : List Int) : Prop :=
  zs = [] ∨ ∃ b off, A = some ⟨b, off, none⟩ ∧ b < B ∧ ∀ i z, zs[i]? = some z → w.cell? ⟨b, off + i, none⟩ = some (.int .i64 z)
theorem RI.below {w w' : World} {B : Nat} {A : Option Addr} {zs : List Int} (h : RI w B A zs) (hb : Below B w w') : RI w' B A zs := by
  rcases h with h | ⟨b, off, rfl, hlt, hc⟩
  · exact .inl h
  · exact .inr ⟨b, off, rfl, hlt, fun i z hz => by rw [hb.cell (show b < B from hlt)]; exact hc i z hz⟩
section
variable {H : Type} {enc : TypeId × Value → H} {P : Program}
theorem open_nums {W : World} {r : Reach} {base0 : Nat} {t E : TypeId} {v : Value} {d : DataW H} {p : List MemPlace} {ts : List TypeId} {ds : List (DataW H)} {j : Nat} (ht : P.underlying t = some (.slice E)) (hE : P.underlying E = some (.int .i64)) (hcE : P.cellsOf E = 1) (hbE : P.bytesOf E = 8)
    (hval : Value.okWide P W r base0 t v) (h : DataW.Trod enc P W 0 (fun _ => true) true t v d p) (hsz : (DataW.weightsEach P ts ds).all (· ≤ reachBytes) = true) (hts : ts[j]? = some t) (hds : ds[j]? = some d) :
    ∃ A zs cp, v = .slice A zs.length cp ∧ zs.length ≤ cp ∧ cp ≤ 17592186043904 ∧ RI W W.heap.size A zs ∧ (∀ z ∈ zs, -9223372036854775808 ≤ z ∧ z ≤ 9223372036854775807) := by
  obtain ⟨a0, len0, cap0, rfl⟩ := okWide_slice ht hval
  obtain ⟨fuel, hf⟩ := h
  rcases open_ints ht hE hcE hf with ⟨hcs, _⟩ | ⟨x, len, cap, zs, hcs, _, hl, hm, hz, hx, hcell, hwz⟩
  · simp [Value.cells] at hcs
    obtain ⟨rfl, rfl, rfl⟩ := hcs
    exact ⟨none, [], 0, rfl, by simp, by omega, .inl rfl, by simp⟩
  · simp [Value.cells] at hcs
    obtain ⟨rfl, rfl, rfl⟩ := hcs
    simp only [if_true] at hz
    have hlen : (zs.take len0).length = len0 := by simp; omega
    obtain rfl : d = _ := congrArg Prod.fst hx
    have hs := sized_slice hsz hts hds ht
    rw [hbE] at hs
    have hm : cap0 ≤ 17592186043904 := by
      have e : (lits .i64 (zs.take len0) : List (DataW H)).length + (lits .i64 (zs.drop len0) : List (DataW H)).length = cap0 := by
        simp [lits]; omega
      rw [e] at hs
      unfold reachBytes at hs
      omega
    refine ⟨some x, zs.take len0, cap0, by rw [hlen], by rw [hlen]; exact hl, hm, ?_, fun z hz => by simpa [Lit.wf, IntKind.min, IntKind.max, IntKind.bits, IntKind.signed] using hwz z (List.mem_of_mem_take hz)⟩
    rcases Nat.eq_zero_or_pos len0 with h0 | h0
    · subst h0; exact .inl (by simp)
    · obtain ⟨b, off, spot⟩ := x
      have hc0 := hcell 0 (by omega)
      obtain rfl : spot = none := by simpa [Addr.add] using World.cell?_spot hc0
      have hlt := World.block_lt_of_cell? _ _ hc0
      refine .inr ⟨b, off, rfl, by simpa [Addr.add_lit] using hlt, fun i z hiz => ?_⟩
      have hi : i < len0 := by
        have := (List.getElem?_eq_some_iff.1 hiz).1
        rw [hlen] at this
        exact this
      have hci := hcell i (by omega)
      rw [Addr.add_lit] at hci
      rw [hci]
      rw [List.getElem?_take_of_lt hi] at hiz
      rw [List.getD_eq_getElem?_getD, hiz]
      rfl
end
end Go.Proofs.YtbpooaicmjkemaaGreatDoor

/-! Rows of slices of bytes, rows of bools that came in: opening them; over any program. No condition. -/
namespace Go.Proofs.YtbpooaicmjkemaaGreatDoor
open Go.ChangeShapes Go.WideShapes Go.ChangeAt Go.RowKit
set_option linter.unusedVariables false
/-- a slice's address reads as a row of slices that read as lists of bytes -/
def RR (w : World) (B : Nat) (A : Option Addr) (L : List (List UInt8)) : Prop :=
  L = [] ∨ ∃ b off, A = some ⟨b, off, none⟩ ∧ b < B ∧ ∀ i l, L[i]? = some l → ∃ Ai ci, w.cell? ⟨b, off + i, none⟩ = some (.slice Ai l.length ci) ∧ l.length ≤ ci ∧ ci ≤ maxLen ∧ RB w B Ai l
theorem RR.below {w w' : World} {B : Nat} {A : Option Addr} {L : List (List UInt8)} (h : RR w B A L) (hb : Below B w w') : RR w' B A L := by
  rcases h with h | ⟨b, off, rfl, hlt, hc⟩
  · exact .inl h
  · refine .inr ⟨b, off, rfl, hlt, fun i l hl => ?_⟩
    obtain ⟨Ai, ci, h1, h2, h3, h4⟩ := hc i l hl
    exact ⟨Ai, ci, by rw [hb.cell (show b < B from hlt)]; exact h1, h2, h3, h4.below hb⟩
theorem RR.at_ {w : World} {B : Nat} {A : Option Addr} {L : List (List UInt8)} (h : RR w B A L) {i : Nat} {l : List UInt8} (hl : L[i]? = some l) :
    ∃ b off Ai ci, A = some ⟨b, off, none⟩ ∧ b < B ∧ w.cell? ⟨b, off + i, none⟩ = some (.slice Ai l.length ci) ∧ l.length ≤ ci ∧ ci ≤ maxLen ∧ RB w B Ai l := by
  rcases h with rfl | ⟨b, off, rfl, hlt, hc⟩
  · simp at hl
  · obtain ⟨Ai, ci, h⟩ := hc i l hl
    exact ⟨b, off, Ai, ci, rfl, hlt, h⟩
/-- a slice's address reads as a row of bools -/
def RT (w : World) (B : Nat) (A : Option Addr) (L : List Bool) : Prop :=
  L = [] ∨ ∃ b off, A = some ⟨b, off, none⟩ ∧ b < B ∧ ∀ i x, L[i]? = some x → w.cell? ⟨b, off + i, none⟩ = some (.bool x)
theorem RT.below {w w' : World} {B : Nat} {A : Option Addr} {L : List Bool} (h : RT w B A L) (hb : Below B w w') : RT w' B A L := by
  rcases h with h | ⟨b, off, rfl, hlt, hc⟩
  · exact .inl h
  · exact .inr ⟨b, off, rfl, hlt, fun i x hx => by rw [hb.cell (show b < B from hlt)]; exact hc i x hx⟩
section
variable {H : Type} {enc : TypeId × Value → H} {P : Program}
/-- what a slice of bytes reads as -/
def BytesD (d : DataW H) (l : List UInt8) (cp : Nat) : Prop := (d = .nil ∧ cp = 0) ∨ ∃ es ss : List (DataW H), d = .slice es ss ∧ es.length = l.length ∧ es.length + ss.length = cp
theorem open_bytesT {W : World} {base0 fuel : Nat} {held : Bool} {t E : TypeId} {v : Value} {d : DataW H} {p : List MemPlace} (hU : U8 P t E) (hcE : P.cellsOf E = 1)
    (hf : DataW.trod enc P W base0 (fun _ => true) held fuel t [v] = some (d, p)) :
    ∃ A l cp, v = .slice A l.length cp ∧ l.length ≤ cp ∧ cp ≤ maxLen ∧ RB W W.heap.size A l ∧ (A = none → cp = 0) ∧ BytesD d l cp := by
  rcases open_ints hU.ht hU.he hcE hf with ⟨hcs, hx⟩ | ⟨x, len, cap, zs, hcs, _, hl, hm, hz, hx, hcell, hwz⟩
  · obtain rfl : v = _ := by simpa using hcs
    obtain rfl : d = _ := congrArg Prod.fst hx
    exact ⟨none, [], 0, rfl, by simp, by simp [maxLen], .inl rfl, fun _ => rfl, .inl ⟨rfl, rfl⟩⟩
  · obtain rfl : v = _ := by simpa using hcs
    simp only [if_true] at hz
    obtain rfl : d = _ := congrArg Prod.fst hx
    have hlen : ((zs.take len).map fun z => UInt8.ofNat z.toNat).length = len := by simp; omega
    refine ⟨some x, (zs.take len).map fun z => UInt8.ofNat z.toNat, cap, by rw [hlen], by rw [hlen]; exact hl, hm, ?_, (fun e => by cases e), .inr ⟨_, _, rfl, by simp [lits], by simp [lits]; omega⟩⟩
    rcases Nat.eq_zero_or_pos len with h0 | h0
    · subst h0; exact .inl (by simp)
    · obtain ⟨b, off, spot⟩ := x
      have hc0 := hcell 0 (by omega)
      obtain rfl : spot = none := by simpa [Addr.add] using World.cell?_spot hc0
      have hlt := World.block_lt_of_cell? _ _ hc0
      refine .inr ⟨b, off, rfl, by simpa [Addr.add_lit] using hlt, fun i hi => ?_⟩
      rw [hlen] at hi
      have hci := hcell i (by omega)
      rw [Addr.add_lit] at hci
      rw [hci]
      have hzi : zs.getD i 0 ∈ zs := by
        rw [List.getD_eq_getElem?_getD, List.getElem?_eq_getElem (by omega)]
        exact List.getElem_mem (by omega)
      have hw := hwz _ hzi
      have hb : 0 ≤ zs.getD i 0 ∧ zs.getD i 0 ≤ 255 := by simpa [Lit.wf, IntKind.min, IntKind.max, IntKind.bits, IntKind.signed] using hw
      congr 2
      unfold bt
      simp only [List.getD_eq_getElem?_getD, List.getElem?_map, List.getElem?_take_of_lt hi] at hb ⊢
      rw [List.getElem?_eq_getElem (by omega)] at hb ⊢
      simp only [Option.map_some, Option.getD_some] at hb ⊢
      rw [UInt8.toNat_ofNat']
      omega
/-- a row by its index -/
theorem row_of {α : Type} [Inhabited α] (n : Nat) (f : Nat → α) (i : Nat) (x : α) (h : ((List.range n).map f)[i]? = some x) : i < n ∧ x = f i := by
  rw [List.getElem?_map] at h
  by_cases hi : i < n
  · rw [List.getElem?_range hi] at h
    exact ⟨hi, by simpa using h.symm⟩
  · rw [List.getElem?_eq_none (by simpa using hi)] at h
    cases h
/-- the numbers of elements that a slice may have -/
theorem open_rows {W : World} {r : Reach} {base0 : Nat} {T t E : TypeId} {v : Value} {d : DataW H} {p : List MemPlace} {ts : List TypeId} {ds : List (DataW H)} {j : Nat} (hT : P.underlying T = some (.slice t)) (hcT : P.cellsOf t = 1) (hbT : P.bytesOf t = 24) (hU : U8 P t E) (hcE : P.cellsOf E = 1)
    (hval : Value.okWide P W r base0 T v) (h : DataW.Trod enc P W 0 (fun _ => true) true T v d p) (hsz : (DataW.weightsEach P ts ds).all (· ≤ reachBytes) = true) (hts : ts[j]? = some T) (hds : ds[j]? = some d) :
    ∃ A L cp, v = .slice A L.length cp ∧ L.length ≤ cp ∧ cp ≤ 5864062014634 ∧ RR W W.heap.size A L ∧ (d = .nil ∨ ∃ es ss : List (DataW H), d = .slice es ss ∧ es.length = L.length ∧ ∀ (i : Nat) (l : List UInt8) (e : DataW H), L[i]? = some l → es[i]? = some e → ∃ cp, l.length ≤ cp ∧ BytesD e l cp) ∧ (d = .nil → L = []) := by
  obtain ⟨a0, len0, cap0, rfl⟩ := okWide_slice hT hval
  obtain ⟨fuel, hf⟩ := h
  rcases Deep.open_slice1 hT hcT hf with ⟨hcs, hx⟩ | ⟨a, len, cap, m, n, V, D, Pl, hcs, _, hl, hm, hmm, hx, hcell⟩
  · simp [Value.cells] at hcs
    obtain ⟨rfl, rfl, rfl⟩ := hcs
    exact ⟨none, [], 0, rfl, by simp, by omega, .inl rfl, .inl (congrArg Prod.fst hx), fun _ => rfl⟩
  · simp [Value.cells] at hcs
    obtain ⟨rfl, rfl, rfl⟩ := hcs
    simp only [if_true] at hmm
    subst hmm
    obtain rfl : d = _ := congrArg Prod.fst hx
    have hs := sized_slice hsz hts hds hT
    rw [hbT] at hs
    have hcp : m ≤ 5864062014634 := by
      have e : ((List.range len0).map D : List (DataW H)).length + ((List.range (m - len0)).map (fun j => D (len0 + j)) : List (DataW H)).length = m := by simp; omega
      rw [e] at hs
      unfold reachBytes at hs
      omega
    have each : ∀ i, i < m → ∃ y : Option Addr × List UInt8 × Nat, V i = .slice y.1 y.2.1.length y.2.2 ∧ y.2.1.length ≤ y.2.2 ∧ y.2.2 ≤ maxLen ∧ RB W W.heap.size y.1 y.2.1 ∧ BytesD (D i) y.2.1 y.2.2 := by
      intro i hi
      obtain ⟨A, l, cp, h1, h2, h3, h4, _, h5⟩ := open_bytesT hU hcE (hcell i hi).2
      exact ⟨(A, l, cp), h1, h2, h3, h4, h5⟩
    obtain ⟨y, hy⟩ := Deep.choose_lt each
    refine ⟨some a, (List.range len0).map fun i => (y i).2.1, m, by simp, by simpa using hl, hcp, ?_, .inr ⟨_, _, rfl, by simp, fun i l e h1 h2 => ?_⟩, fun e => by cases e⟩
    · rcases Nat.eq_zero_or_pos len0 with h0 | h0
      · subst h0; exact .inl (by simp)
      · obtain ⟨b, off, spot⟩ := a
        have hc0 := (hcell 0 (by omega)).1
        obtain rfl : spot = none := by simpa [Addr.add] using World.cell?_spot hc0
        have hlt := World.block_lt_of_cell? _ _ hc0
        refine .inr ⟨b, off, rfl, by simpa [Addr.add_lit] using hlt, fun i l hil => ?_⟩
        obtain ⟨hi, rfl⟩ := row_of _ _ _ _ hil
        obtain ⟨e1, e2, e3, e4, e5⟩ := hy i (by omega)
        refine ⟨_, _, ?_, e2, e3, e4⟩
        rw [← e1, ← (hcell i (by omega)).1, Addr.add_lit]
    · obtain ⟨hi, rfl⟩ := row_of _ _ _ _ h1
      obtain ⟨_, rfl⟩ := row_of (α := DataW H) _ _ _ _ h2
      obtain ⟨e1, e2, e3, e4, e5⟩ := hy i (by omega)
      exact ⟨_, e2, e5⟩
theorem open_bools1 {W : World} {r : Reach} {base0 : Nat} {T t : TypeId} {v : Value} {d : DataW H} {p : List MemPlace} {ts : List TypeId} {ds : List (DataW H)} {j : Nat} (hT : P.underlying T = some (.slice t)) (ht : P.underlying t = some .bool) (hcT : P.cellsOf t = 1) (hbT : P.bytesOf t = 1)
    (hval : Value.okWide P W r base0 T v) (h : DataW.Trod enc P W 0 (fun _ => true) true T v d p) (hsz : (DataW.weightsEach P ts ds).all (· ≤ reachBytes) = true) (hts : ts[j]? = some T) (hds : ds[j]? = some d) :
    ∃ A L cp, v = .slice A L.length cp ∧ L.length ≤ cp ∧ cp ≤ 140737488351232 ∧ RT W W.heap.size A L := by
  obtain ⟨a0, len0, cap0, rfl⟩ := okWide_slice hT hval
  obtain ⟨fuel, hf⟩ := h
  rcases Deep.open_slice1 hT hcT hf with ⟨hcs, hx⟩ | ⟨a, len, cap, m, n, V, D, Pl, hcs, _, hl, hm, hmm, hx, hcell⟩
  · simp [Value.cells] at hcs
    obtain ⟨rfl, rfl, rfl⟩ := hcs
    exact ⟨none, [], 0, rfl, by simp, by omega, .inl rfl⟩
  · simp [Value.cells] at hcs
    obtain ⟨rfl, rfl, rfl⟩ := hcs
    simp only [if_true] at hmm
    subst hmm
    obtain rfl : d = _ := congrArg Prod.fst hx
    have hs := sized_slice hsz hts hds hT
    rw [hbT] at hs
    have hcp : m ≤ 140737488351232 := by
      have e : ((List.range len0).map D : List (DataW H)).length + ((List.range (m - len0)).map (fun j => D (len0 + j)) : List (DataW H)).length = m := by simp; omega
      rw [e] at hs
      unfold reachBytes at hs
      omega
    have each : ∀ i, i < m → ∃ y : Bool, V i = .bool y := by
      intro i hi
      obtain ⟨b, hb, _⟩ := DataW.trod_bool ht (hcell i hi).2
      exact ⟨b, by simpa using hb⟩
    obtain ⟨y, hy⟩ := Deep.choose_lt each
    refine ⟨some a, (List.range len0).map y, m, by simp, by simpa using hl, hcp, ?_⟩
    rcases Nat.eq_zero_or_pos len0 with h0 | h0
    · subst h0; exact .inl (by simp)
    · obtain ⟨b, off, spot⟩ := a
      have hc0 := (hcell 0 (by omega)).1
      obtain rfl : spot = none := by simpa [Addr.add] using World.cell?_spot hc0
      have hlt := World.block_lt_of_cell? _ _ hc0
      refine .inr ⟨b, off, rfl, by simpa [Addr.add_lit] using hlt, fun i l hil => ?_⟩
      obtain ⟨hi, rfl⟩ := row_of _ _ _ _ hil
      rw [← hy i (by omega), ← (hcell i (by omega)).1, Addr.add_lit]
end
end Go.Proofs.YtbpooaicmjkemaaGreatDoor

/-! An append at a step of a region that draws its order, by what its run gives; over any program. No condition. -/
namespace Go.Proofs.YtbpooaicmjkemaaGreatDoor
open Go.RowKit
set_option linter.unusedVariables false
theorem step_appR {P : Program} {ops : Array Oper} {o : Oper} {a : Act} {w : World} {K : Act → World → Prop} {Q : Exit → Act → World → Prop} {E' : Prop} (hgd : o.guard = none) {t : TypeId} (s x : Operand)
    (ho : o.op = .call { callee := .builtin .append, args := #[s, x], argTypes := #[t, t] }) {v y v' : Value} {w' : World} (hs : a.eval s = v) (hx : a.eval x = y) (hrun : (Builtin.append_ #[t, t] o.type #[v, y]).run P w = .ok v' w') (h : K (a.put o.dst v') w') :
    if Region.wanted o (yielded ops a.tmps) = true then Oper.wp P o a w K Q else E' := by
  have hw : Region.wanted o (yielded ops a.tmps) = true := by simp [Region.wanted, hgd]
  rw [if_pos hw]
  unfold Oper.wp execOp
  simp only [ho, resolve, invoke, builtin, Sem.run_bind, Sem.run_pure, Result.andThen_ok, List.map_toArray, List.map_cons, List.map_nil, hs, hx, hrun]
  exact h
end Go.Proofs.YtbpooaicmjkemaaGreatDoor

/-! append([]T{}, xs...): a copy of a row of any length; over any program. No condition but the sizes. -/
namespace Go.Proofs.YtbpooaicmjkemaaGreatDoor
open Go.RowKit
set_option linter.unusedVariables false
section
variable {P : Program} (w : World)
theorem run_appY {t E : TypeId} {sz : Nat} (hU : UX P t E sz) (ty : TypeId) (Av A : Option Addr) (m c : Nat) (news : List Value) (hl : news.length = m * sz)
    (hA : A = none → m = 0) (hnews : ∀ ad, A = some ad → ∀ j u, news[j]? = some u → w.cell? (ad.add j) = some u) (h1 : ∀ u ∈ news, u.oneCell' = true) (hbytes : ∀ i, P.info? E = some i → m * i.bytes ≤ 140737488355328) (hmx : m ≤ 140737488355328) :
    ∃ v' own' w', (Builtin.append_ #[t, t] ty #[.slice Av 0 0, .slice A m c]).run P w = .ok v' w' ∧ OwnX sz w' own' v' news ∧ w.grownBy w' none ∧ (own' = none ∨ own' = some w.heap.size) := by
  obtain ⟨i, z, hi, hz, hzs, hs, hb⟩ := hU.hi
  have hbb := hbytes i hi
  rcases Nat.eq_zero_or_pos m with h0 | h0
  · subst h0
    obtain rfl : news = [] := List.eq_nil_of_length_eq_zero (by rw [hl, Nat.zero_mul])
    refine ⟨.slice Av 0 0, none, w, ?_, OwnX.nil w Av, World.grownBy.refl w _, .inl rfl⟩
    rcases A with _ | ad
    · cases Av <;> simp [Builtin.append_, run_underlying hU.ht, sizeOf, typeInfo, hi, Builtin.lenOf, Builtin.firstCells, storeCells]
    · have hl := run_loadCells_list (P := P) w ad [] (fun j v hj => by simp at hj)
      simp at hl
      cases Av <;> simp [Builtin.append_, run_underlying hU.ht, sizeOf, typeInfo, hi, Builtin.lenOf, Builtin.firstCells, storeCells, hl]
  · obtain ⟨ad, rfl⟩ : ∃ ad, A = some ad := by
      rcases A with _ | ad
      · have := hA rfl; omega
      · exact ⟨ad, rfl⟩
    have hcn := hnews ad rfl
    have hgf : 0 < m → Builtin.nextslicecap m 0 * i.bytes ≤ 281474976710656 := fun hg => growslice_fits hg hbb
    have hml : m ≤ maxLen := by simp only [maxLen]; omega
    have hmi : ((m : Nat) : Int) ≤ 9223372036854775807 := by omega
    rcases Av with _ | av
    · have hrun := run_append_nil (P := P) w t ty E i z hU.ht hi hz ad m c news (by rw [hl, hs]) hcn h0 (by simpa using hmi) (by omega)
      refine ⟨_, some w.heap.size, _, hrun, ?_, ⟨rfl, rfl, rfl, by simp, fun x hx _ => Below.heap_alloc w.drew _ x hx⟩, .inr rfl⟩
      exact OwnX.newRow w.drew news m (grownCap w m 0 E) _ hl (by rw [size_zeroCells, hzs]) (grownCap_ge w _ _ _) (grownCap_le_maxLen w _ _ _ (by simpa using hml)) _ rfl
    · have hrun := run_append_grow (P := P) w t ty E i z hU.ht hi hz av 0 0 [] (by simp)
        (fun j u hu => by simp at hu)
        ad m c news (by rw [hl, hs]) hcn (by omega) (by simpa using hmi) (by simpa using hgf h0)
      rw [Nat.zero_add] at hrun
      refine ⟨_, some w.heap.size, _, hrun, ?_, ⟨rfl, rfl, rfl, by simp, fun x hx _ => Below.heap_alloc w.drew _ x hx⟩, .inr rfl⟩
      exact OwnX.newRow (E := E) w.drew news m (grownCap w m 0 E) (Builtin.zeroCells z.cells (grownCap w m 0 E - m)) hl
        (by rw [size_zeroCells, hzs]) (grownCap_ge w _ _ _) (grownCap_le_maxLen w _ _ _ hml) _ (by simp)
theorem wpList_appY {ops : Array Oper} {rest : List Oper} {o : Oper} {a : Act} {Q : Exit → Act → World → Prop} {t E : TypeId} {sz : Nat} (hU : UX P t E sz) (s x : Operand)
    (ho : o.op = .call { callee := .builtin .append, args := #[s, x], argTypes := #[t, t] }) (hgd : o.guard = none)
    {Av : Option Addr} (hs : a.eval s = .slice Av 0 0) (A : Option Addr) (m c : Nat) (hx : a.eval x = .slice A m c) (news : List Value) (hl : news.length = m * sz)
    (hA : A = none → m = 0) (hnews : ∀ ad, A = some ad → ∀ j u, news[j]? = some u → w.cell? (ad.add j) = some u) (h1 : ∀ u ∈ news, u.oneCell' = true) (hbytes : ∀ i, P.info? E = some i → m * i.bytes ≤ 140737488355328) (hmx : m ≤ 140737488355328)
    (h : ∀ v' own' w', OwnX sz w' own' v' news → w.grownBy w' none → (own' = none ∨ own' = some w.heap.size) → wpList P ops Q rest (a.put o.dst v') w') : wpList P ops Q (o :: rest) a w := by
  refine wpList_plain hgd fun K hK => ?_
  obtain ⟨v', own', w', hrun, h2, h3, h4⟩ := run_appY (P := P) w hU o.type Av A m c news hl hA hnews h1 hbytes hmx
  unfold Oper.wp execOp
  simp only [ho, resolve, invoke, builtin, Sem.run_bind, Sem.run_pure, Result.andThen_ok, List.map_toArray, List.map_cons, List.map_nil, hs, hx, hrun]
  exact hK _ _ (h v' own' w' h2 h3 h4)
end
end Go.Proofs.YtbpooaicmjkemaaGreatDoor
