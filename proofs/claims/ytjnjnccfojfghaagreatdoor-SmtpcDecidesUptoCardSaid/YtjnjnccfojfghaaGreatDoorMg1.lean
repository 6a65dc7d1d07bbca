/-
  Several texts in one: Lib, App, Blk, Strs, Own, Only. Conditions: each part names its own.
-/
import Derived.WalkKit
import Derived.Handy
import Derived.BigQuiet
import Derived.Deep.QuietTactic
import Derived.Deep.LoopGhost
import Derived.Deep.Light
import Derived.Lib.Hide
import Derived.Lib.ItoaNum
import Derived.Lib.ConvBytes
import Derived.Lib.AppendIntMem
import Derived.Maps.AppendAt
import Derived.Deep.DeepAppendWide
import Derived.Deep.AppendLies
import Derived.Lib.AppendStr
import Derived.RegionTactic
import Derived.OwnWalk
import Derived.Laws.OwnMore
import Derived.Deep.Draws
import Derived.Laws.Rows
import Derived.WideShapes
import Derived.Laws.Strings
set_option linter.unusedSimpArgs false
/-! Words for bytes in memory, over any program: a slice that reads as a list of bytes. No condition. -/
namespace Go.Proofs.YtjnjnccfojfghaaGreatDoor
open Go.RowKit
set_option linter.unusedVariables false

/-- byte i of a list, as a number; 0 behind its end -/
def bt (l : List UInt8) (i : Nat) : Int := ((l.getD i 0).toNat : Int)
theorem bt_lo (l : List UInt8) (i : Nat) : 0 ≤ bt l i := by unfold bt; omega
theorem bt_hi (l : List UInt8) (i : Nat) : bt l i ≤ 255 := by
  unfold bt; have := (l.getD i 0).toNat_lt; omega
theorem drop_bt {l : List UInt8} {j : Nat} (h : j < l.length) : ∃ c, l.drop j = c :: l.drop (j + 1) ∧ (c.toNat : Int) = bt l j := by
  refine ⟨l[j], List.drop_eq_getElem_cons h, ?_⟩
  unfold bt; rw [List.getD_eq_getElem?_getD, List.getElem?_eq_getElem h]; rfl

/-- a slice's address reads as a list of bytes, below block B -/
def RB (w : World) (B : Nat) (A : Option Addr) (l : List UInt8) : Prop :=
  l = [] ∨ ∃ b off, A = some ⟨b, off, none⟩ ∧ b < B ∧ ∀ i, i < l.length → w.cell? ⟨b, off + i, none⟩ = some (.int .u8 (bt l i))
theorem RB.at_ {w : World} {B : Nat} {A : Option Addr} {l : List UInt8} (h : RB w B A l) {j : Nat} (hj : j < l.length) :
    ∃ b off, A = some ⟨b, off, none⟩ ∧ b < B ∧ ∀ i, i < l.length → w.cell? ⟨b, off + i, none⟩ = some (.int .u8 (bt l i)) := by
  rcases h with h | h
  · rw [h] at hj; simp at hj
  · exact h

/-- a test, laid ahead of a walk as a rule for '==' alone -/
theorem on_eq (x y : Int) {p : Prop} (f : Hid (x = y) → Hid ((x == y) = true) → p) (g : Hid (¬ x = y) → Hid ((x == y) = false) → p) : p := by
  by_cases hx : x = y
  · exact f hx (by unfold Hid; simpa using hx)
  · exact g hx (by unfold Hid; simpa using hx)

/-- the same, '!=' too -/
theorem on_ne (x y : Int) {p : Prop} (f : Hid (x = y) → Hid ((x == y) = true ∧ (x != y) = false) → p) (g : Hid (¬ x = y) → Hid ((x == y) = false ∧ (x != y) = true) → p) : p := by
  by_cases hx : x = y
  · exact f hx (by unfold Hid; simpa using hx)
  · exact g hx (by unfold Hid; simpa using hx)
theorem ret3 {T : Int × Int × Int} {a b c : Int} (h : T = (a, b, c)) :
    Ending.returned (.tuple #[.int .i64 a, .int .i64 b, .int .i64 c]) = .returned (.tuple #[.int .i64 T.1, .int .i64 T.2.1, .int .i64 T.2.2]) := by rw [h]
theorem pow10_le {j : Nat} (h : j ≤ 16) : (10 : Int) ^ j ≤ 10000000000000000 := by
  have : (10 : Nat) ^ j ≤ 10 ^ 16 := Nat.pow_le_pow_right (by omega) h
  have e : ((10 : Nat) ^ j : Nat) = ((10 : Int) ^ j) := by simp
  omega

/-! ### strings -/
theorem str_eq {s : ByteArray} {l : List UInt8} (h : s.data.toList = l) : s = ⟨l.toArray⟩ := by
  subst h; cases s; rfl
theorem ret_str {s : ByteArray} {l : List UInt8} (h : s.data.toList = l) : Ending.returned (.string s) = .returned (.string ⟨l.toArray⟩) := by rw [str_eq h]
theorem size_len (s : ByteArray) : s.size = s.data.toList.length := rfl
theorem app_list (s t : ByteArray) : (s ++ t).data.toList = s.data.toList ++ t.data.toList := by simp [ByteArray.data_append]
/-- 'string([]byte{x})' -/
theorem run_conv1 {P : Program} (src dst e : TypeId) (hs : P.underlying src = some (.slice e)) (he : P.underlying e = some (.int .u8)) (hd : P.underlying dst = some .string) (W : World) (x : Int) :
    (convert src dst (.slice (some ⟨W.heap.size, 0, none⟩) 1 1)).run P (W.alloc (.cells #[.int .u8 x] e)) = .ok (.string (strOfNums [x])) (W.alloc (.cells #[.int .u8 x] e)) := by
  refine run_convert_bytes_arg _ src e hs he _ _ 1 1 [x] rfl ?_ dst hd
  intro i hi
  obtain rfl : i = 0 := by omega
  simp

theorem decDigits_len {u : Nat} (h : u < 10 ^ 19) : (Lib.decDigits u).length ≤ 19 := by
  rw [Lib.decDigits_length]
  by_cases h0 : u = 0
  · subst h0; rw [Lib.nDigits_small (by omega)]; omega
  · rcases Nat.lt_or_ge 19 (Lib.nDigits u) with h1 | h1
    · exfalso
      have key : ∀ (k v : Nat), 10 ^ k ≤ 10 ^ k * (v + 1) := fun k v => Nat.le_mul_of_pos_right _ (by omega)
      have : ∀ (k v : Nat), v < 10 ^ (k + 1) → Lib.nDigits v ≤ k + 1 := by
        intro k
        induction k with
        | zero => intro v hv; rw [Lib.nDigits_small (by omega)]; omega
        | succ k ih =>
          intro v hv
          by_cases hv10 : v < 10
          · rw [Lib.nDigits_small hv10]; omega
          · rw [Lib.nDigits_big hv10]
            have := ih (v / 10) (by rw [Nat.pow_succ] at hv; omega)
            omega
      have := this 18 u h
      omega
    · exact h1

/-! ### slices of bytes that come back -/
/-- v is a slice that reads as l -/
def Out (w : World) (v : Value) (l : List UInt8) : Prop :=
  ∃ A c, v = .slice A l.length c ∧ l.length ≤ c ∧ c ≤ maxLen ∧ RB w w.heap.size A l
theorem Out.nil (w : World) : Out w (.slice none 0 0) [] := ⟨none, 0, rfl, Nat.le_refl _, by simp [maxLen], .inl rfl⟩
theorem RB.keep {w w' : World} {B B' : Nat} {A : Option Addr} {l : List UInt8} (h : RB w B A l) (hB : B ≤ B') (hk : ∀ p : Addr, p.block < B → w'.cell? p = w.cell? p) : RB w' B' A l := by
  rcases h with h | ⟨b, off, hA, hb, hc⟩
  · exact .inl h
  · exact .inr ⟨b, off, hA, by omega, fun i hi => (hk _ hb).trans (hc i hi)⟩
theorem RB.below {w w' : World} {B : Nat} {A : Option Addr} {l : List UInt8} (h : RB w B A l) (hb : Below B w w') : RB w' B A l := h.keep (Nat.le_refl _) fun _ hp => hb.cell hp
theorem RB.mono {w : World} {B B' : Nat} {A : Option Addr} {l : List UInt8} (h : RB w B A l) (hB : B ≤ B') : RB w B' A l := h.keep hB fun _ _ => rfl
theorem bt_getElem {l : List UInt8} {i : Nat} (h : i < l.length) : bt l i = (l[i].toNat : Int) := by
  unfold bt; rw [List.getD_eq_getElem?_getD, List.getElem?_eq_getElem h]; rfl
theorem RB.of_own {w : World} {base E n : Nat} {v : Value} {l : List UInt8} (h : w.ownsRow base E 1 v n (Lib.byteCells l)) : n = l.length ∧ Out w v l := by
  have hn : l.length = n := by have := h.1; rw [Nat.mul_one] at this; rw [← this]; simp [Lib.byteCells]
  refine ⟨hn.symm, ?_⟩
  subst hn
  rcases h.2 with ⟨rfl, h0⟩ | ⟨g, cap, cur, rfl, hb, hg, hc, hm, hs, ht⟩
  · obtain rfl : l = [] := List.eq_nil_of_length_eq_zero h0
    exact Out.nil w
  · refine ⟨some ⟨g, 0, none⟩, cap, rfl, hc, hm, .inr ⟨g, 0, rfl, ?_, fun i hi => ?_⟩⟩
    · exact (Array.getElem?_eq_some_iff.1 hg).1
    · have := h.cells (g := g) rfl i (.int .u8 (l[i].toNat : Int)) (by simp [Lib.byteCells, hi])
      rw [bt_getElem hi, ← this, Addr.add_lit, Nat.zero_add]
theorem RB.of_out' {w : World} {A : Option Addr} {n c : Nat} {l : List UInt8} (h : Out w (.slice A n c) l) (hn : l.length = n) : RB w w.heap.size A l := by
  obtain ⟨A', c', e, _, _, hr⟩ := h
  injection e with e1 e2 e3
  subst e1
  exact hr
theorem RB.of_out {w : World} {A : Option Addr} {c : Nat} {l : List UInt8} (h : Out w (.slice A l.length c) l) : RB w w.heap.size A l := RB.of_out' h rfl
theorem below_bytesWorld (w : World) (e : TypeId) (s : ByteArray) : Below w.heap.size w (Lib.bytesWorld w e s) :=
  ⟨rfl, rfl, rfl, by rw [Lib.bytesWorld_size]; omega, fun k hk => Lib.bytesWorld_at_old w e s k hk⟩
theorem out_bytesWorld (w : World) (e : TypeId) (s : ByteArray) (hs : s.size ≤ maxLen) :
    Out (Lib.bytesWorld w e s) (.slice (some ⟨w.heap.size, 0, none⟩) s.size (grownCap w s.size 0 e)) s.data.toList := by
  refine ⟨_, _, rfl, grownCap_ge w _ _ _, grownCap_le_maxLen w _ _ _ hs, .inr ⟨w.heap.size, 0, rfl, by rw [Lib.bytesWorld_size]; omega, fun i hi => ?_⟩⟩
  rw [Nat.zero_add, Lib.bytesWorld_cell w e s i (by rw [size_len]; exact hi)]
  rfl
/-- 'string(b)' of a slice that reads as l -/
theorem run_convRB {P : Program} (src dst e : TypeId) (hs : P.underlying src = some (.slice e)) (he : P.underlying e = some (.int .u8)) (hd : P.underlying dst = some .string)
    {w : World} {B : Nat} {A : Option Addr} {l : List UInt8} (h : RB w B A l) (n c : Nat) (hn : n = l.length) :
    (convert src dst (.slice A n c)).run P w = .ok (.string ⟨l.toArray⟩) w := by
  subst hn
  rcases h with rfl | ⟨b, off, rfl, _, hc⟩
  · rw [run_convert_bytes_string w src dst e _ _ c hs he hd]
    rcases A with _ | a
    · simp [Conv.bytesToString]; rfl
    · have hl := run_loadCells_list (P := P) w a [] (fun j v hj => by simp at hj)
      simp at hl
      simp [Conv.bytesToString, hl]; rfl
  · refine run_convert_bytes_back w src dst e ⟨b, off, none⟩ c l hs he hd fun j hj => ?_
    rw [Addr.add_lit, hc j hj, bt_getElem hj]
theorem RB.sub {w : World} {B : Nat} {b off : Nat} {l : List UInt8} (hb : b < B) (hc : ∀ i, i < l.length → w.cell? ⟨b, off + i, none⟩ = some (.int .u8 (bt l i))) (i n : Nat) (hn : i + n ≤ l.length) :
    RB w B (some ⟨b, off + i, none⟩) ((l.drop i).take n) := by
  refine .inr ⟨b, off + i, rfl, hb, fun k hk => ?_⟩
  rw [List.length_take, List.length_drop] at hk
  rw [Nat.add_assoc, hc (i + k) (by omega)]
  unfold bt
  rw [List.getD_eq_getElem?_getD, List.getD_eq_getElem?_getD, List.getElem?_take_of_lt (by omega), List.getElem?_drop]
theorem take_drop_len {l : List UInt8} {i n : Nat} (h : i + n ≤ l.length) : n = ((l.drop i).take n).length := by
  rw [List.length_take, List.length_drop]; omega
theorem out_conv (w : World) (e : TypeId) (s : ByteArray) {l : List UInt8} {n : Nat} (h : s.data.toList = l) (hn : l.length = n) (hm : n ≤ maxLen) :
    Out (Lib.bytesWorld w e s) (.slice (some ⟨w.heap.size, 0, none⟩) n (grownCap w n 0 e)) l := by
  subst hn; subst h
  exact out_bytesWorld w e s hm
end Go.Proofs.YtjnjnccfojfghaaGreatDoor

/-! append onto a row of bytes that the call owns, the source a slice (nil, empty or not) or a string; over any program. No condition but the sizes. -/
namespace Go.Proofs.YtjnjnccfojfghaaGreatDoor
open Go.RowKit
set_option linter.unusedVariables false

/-- t is a type of slices of E, E one of bytes -/
structure U8 (P : Program) (t E : TypeId) : Prop where
  ht : P.underlying t = some (.slice E)
  he : P.underlying E = some (.int .u8)
  hi : ∃ i, P.info? E = some i ∧ i.zero = some (.int .u8 0) ∧ i.size = 1 ∧ i.bytes = 1

/-- v owns a row of bytes, from block base on, that begins with l -/
def OwnB (w : World) (base E : Nat) (v : Value) (l : List UInt8) : Prop := w.ownsRow base E 1 v l.length (Lib.byteCells l)

theorem OwnB.nil (w : World) (base E : Nat) : OwnB w base E (.slice none 0 0) [] := World.ownsRow_nil w base E 1
theorem OwnB.of {w : World} {base E n : Nat} {v : Value} {l : List UInt8} (h : w.ownsRow base E 1 v n (Lib.byteCells l)) : OwnB w base E v l := by
  have := (RB.of_own h).1
  unfold OwnB; rw [← this]; exact h
theorem OwnB.out {w : World} {base E : Nat} {v : Value} {l : List UInt8} (h : OwnB w base E v l) : Out w v l := (RB.of_own h).2
theorem OwnB.alloc {w : World} {base E : Nat} {v : Value} {l : List UInt8} (h : OwnB w base E v l) (o : Obj) : OwnB (w.alloc o) base E v l := World.ownsRow.alloc h o
theorem OwnB.kept {w w' : World} {base E : Nat} {v : Value} {l : List UInt8} {row : Option Nat} (h : OwnB w base E v l) (hg : w.grownBy w' row) (hne : v.ownBlock = none ∨ v.ownBlock ≠ row) : OwnB w' base E v l := World.ownsRow.kept h hg hne
theorem grownBy_of_below {w w' : World} (hb : Below w.heap.size w w') (row : Option Nat) : w.grownBy w' row := ⟨hb.os, hb.tape, hb.output, hb.size, fun i hi _ => hb.block i hi⟩
theorem OwnB.below {w w' : World} {base E : Nat} {v : Value} {l : List UInt8} (h : OwnB w base E v l) (hb : Below w.heap.size w w') : OwnB w' base E v l :=
  h.kept (grownBy_of_below hb none) (by cases v.ownBlock <;> simp)
theorem below_of_grownBy {w w' : World} {base E : Nat} {v : Value} {l : List UInt8} (h : OwnB w base E v l) (hg : w.grownBy w' v.ownBlock) (hb : base ≤ w.heap.size) : Below base w w' :=
  ⟨hg.os, hg.tape, hg.output, hg.size, fun k hk => hg.block k (by omega) (fun e => by have := (World.ownsRow.lt h k e.symm).1; omega)⟩
theorem OwnB.mono {w : World} {base base' E : Nat} {v : Value} {l : List UInt8} (h : OwnB w base E v l) (hb : base' ≤ base) : OwnB w base' E v l := by
  refine ⟨h.1, ?_⟩
  rcases h.2 with h1 | ⟨g, cap, cur, hv, hg, r⟩
  · exact .inl h1
  · exact .inr ⟨g, cap, cur, hv, by omega, r⟩
theorem OwnB.made (w : World) (base E : Nat) (hb : base ≤ w.heap.size) : OwnB (w.alloc (.cells #[] E)) base E (.slice (some ⟨w.heap.size, 0, none⟩) 0 0) [] :=
  World.ownsRow_made (size := 1) w #[] 0 hb (by simp [maxLen]) (by simp)
theorem RB.alloc {w : World} {B : Nat} {A : Option Addr} {l : List UInt8} (h : RB w B A l) (hB : B ≤ w.heap.size) (o : Obj) : RB (w.alloc o) B A l :=
  h.below ((Below.refl _ _).alloc hB _)
theorem OwnB.form {w : World} {base E : Nat} {v : Value} {l : List UInt8} (h : OwnB w base E v l) (hl : 0 < l.length) :
    ∃ g c, v = .slice (some ⟨g, 0, none⟩) l.length c ∧ base ≤ g ∧ g < w.heap.size ∧ l.length ≤ c ∧ c ≤ maxLen := by
  obtain ⟨g, c, hv, h1, h2⟩ := World.ownsRow.form h hl
  obtain ⟨A', c', e, h3, h4, _⟩ := h.out
  rw [hv] at e
  injection e with _ _ e3
  subst e3
  exact ⟨g, c, hv, h1, h2, h3, h4⟩
theorem OwnB.cell {w : World} {base E g c : Nat} {l : List UInt8} (h : OwnB w base E (.slice (some ⟨g, 0, none⟩) l.length c) l) {k : Nat} (hk : k < l.length) :
    w.cell? ⟨g, k, none⟩ = some (.int .u8 (bt l k)) := by
  rw [World.ownsRow.cellAt h k (by omega), bt_getElem hk]
  simp [Lib.byteCells, hk]
theorem OwnB.free {w : World} {base E g c : Nat} {l : List UInt8} (h : OwnB w base E (.slice (some ⟨g, 0, none⟩) l.length c) l) (k : Nat) : w.frozen? ⟨g, k, none⟩ = false := World.ownsRow.frozenAt h k
theorem OwnB.set_ {w : World} {base E g c : Nat} {l : List UInt8} (h : OwnB w base E (.slice (some ⟨g, 0, none⟩) l.length c) l) (k : Nat) (z : UInt8) :
    OwnB (w.setCell ⟨g, k, none⟩ (.int .u8 (z.toNat : Int))) base E (.slice (some ⟨g, 0, none⟩) l.length c) (l.set k z) := by
  have := (World.ownsRow.stored h k (.int .u8 (z.toNat : Int))).1
  unfold OwnB
  rw [List.length_set]
  have e : Lib.byteCells (l.set k z) = (Lib.byteCells l).set k (.int .u8 (z.toNat : Int)) := by simp [Lib.byteCells, List.map_set]
  rw [e]
  exact this
/-- one new cell reads as one byte -/
theorem RB.one (w : World) (E : TypeId) (x : UInt8) (z : Int) (hz : z = (x.toNat : Int)) : RB (w.alloc (.cells #[.int .u8 z] E)) (w.heap.size + 1) (some ⟨w.heap.size, 0, none⟩) [x] := by
  subst hz
  refine .inr ⟨_, _, rfl, by omega, fun i hi => ?_⟩
  obtain rfl : i = 0 := by simpa using hi
  simp [bt]

/-- 'a[lo:]' of an array variable of n bytes -/
theorem run_sliceAt_lo {P : Program} (t E : TypeId) (n : Nat) (ht : P.underlying t = some (.array n E)) (hE : ∃ i, P.info? E = some i ∧ i.size = 1) (g lo : Nat) (z : Int) (k : IntKind) (hz : z = (lo : Int)) (hlo : lo < n) (W : World) :
    (Instr.sliceAt t (.pointer (some ⟨g, 0, none⟩)) (some (.int k z)) none none).run P W = .ok (.slice (some ⟨g, lo, none⟩) (n - lo) (n - lo)) W := by
  subst hz
  obtain ⟨i, hi, hs⟩ := hE
  have hne : ¬ n = lo := by omega
  have h1 : (lo : Int) ≤ (n : Int) := by omega
  simp [Instr.sliceAt, Instr.sureAddr, run_underlying ht, Instr.sliceBounds, run_sliceBound, sizeOf, typeInfo, hi, hs, hne, h1, Addr.add_lit]

section
variable {P : Program} (w : World)

theorem run_append_of_nil (base : Nat) (t ty e : TypeId) (i : TypeInfo) (size : Nat) (ht : P.underlying t = some (.slice e)) (hi : P.info? e = some i)
    (v : Value) (n : Nat) (xs : List Value) (hown : w.ownsRow base e size v n xs) (c : Nat) : (Builtin.append_ #[t, t] ty #[v, .slice none 0 c]).run P w = .ok v w := by
  rcases hown.2 with ⟨rfl, rfl⟩ | ⟨g, cap, cur, rfl, _, _, hnc, _⟩
  · simp [Builtin.append_, run_underlying ht, sizeOf, typeInfo, hi, Builtin.lenOf, Builtin.firstCells]
  · simp [Builtin.append_, run_underlying ht, sizeOf, typeInfo, hi, Builtin.lenOf, Builtin.firstCells, hnc, storeCells]

theorem run_appB {t E : TypeId} (hU : U8 P t E) (base : Nat) (ty : TypeId) {v : Value} {l k : List UInt8} (hown : OwnB w base E v l) {B : Nat} {A : Option Addr} (c : Nat) (hr : RB w B A k)
    (hbytes : l.length + k.length ≤ 200000000000000) (hbase : base ≤ w.heap.size) :
    ∃ v' w', (Builtin.append_ #[t, t] ty #[v, .slice A k.length c]).run P w = .ok v' w' ∧ OwnB w' base E v' (l ++ k) ∧ w.grownBy w' v.ownBlock := by
  obtain ⟨i, hi, hz, h1, h2⟩ := hU.hi
  have hone : ∀ u ∈ Lib.byteCells k, u.oneCell' = true := by
    intro u hu
    simp only [Lib.byteCells, List.mem_map] at hu
    obtain ⟨b, _, rfl⟩ := hu
    rfl
  rcases A with _ | ad
  · obtain rfl : k = [] := by
      rcases hr with hr | ⟨_, _, hA, _⟩
      · exact hr
      · cases hA
    exact ⟨v, w, run_append_of_nil w base t ty E i 1 hU.ht hi v l.length _ hown c, by simpa using hown, World.grownBy.refl w _⟩
  · have hcells : ∀ j u, (Lib.byteCells k)[j]? = some u → w.cell? (ad.add j) = some u := by
      intro j u hu
      have hj : j < k.length := by
        have := (List.getElem?_eq_some_iff.1 hu).1
        simpa [Lib.byteCells] using this
      obtain ⟨b, off, hA, _, hc⟩ := hr.at_ hj
      injection hA with hA
      subst hA
      rw [Addr.add_lit, hc j hj, ← hu]
      simp [Lib.byteCells, hj, bt_getElem hj]
    obtain ⟨v', w', hrun, h3, h4, _⟩ := run_append_own_wide (P := P) w base t ty E i (.int .u8 0) 1 1 hU.ht hi hz h1 h2 rfl (by omega) v l.length (Lib.byteCells l) hown ad k.length c (Lib.byteCells k)
      (by simp [Lib.byteCells]) hcells hone (by simp only [maxLen]; omega) (by omega) hbase
    refine ⟨v', w', hrun, ?_, h4⟩
    unfold OwnB
    rw [List.length_append, Lib.byteCells_append]
    exact h3

theorem run_appS {t E u : TypeId} (hU : U8 P t E) (hu : P.underlying u = some .string) (base : Nat) (ty : TypeId) {v : Value} {l : List UInt8} (hown : OwnB w base E v l) (s : ByteArray)
    (hbytes : l.length + s.size ≤ 140737488355328) (hbase : base ≤ w.heap.size) :
    ∃ v' w', (Builtin.append_ #[t, u] ty #[v, .string s]).run P w = .ok v' w' ∧ OwnB w' base E v' (l ++ s.data.toList) ∧ w.grownBy w' v.ownBlock := by
  obtain ⟨i, hi, hz, h1, h2⟩ := hU.hi
  obtain ⟨v', w', hrun, h3, h4, _⟩ := Lib.run_append_own_string (P := P) w base t u ty E i hU.ht hu hi hz h1 h2 v l.length (Lib.byteCells l) hown s (by simp only [maxLen]; omega) hbytes hbase
  refine ⟨v', w', hrun, ?_, h4⟩
  unfold OwnB
  rw [List.length_append, Lib.byteCells_append, ← size_len, ← Lib.strCells_eq]
  exact h3

theorem wpList_appB {ops : Array Oper} {rest : List Oper} {o : Oper} {a : Act} {Q : Exit → Act → World → Prop} {t E : TypeId} (hU : U8 P t E) (s x : Operand)
    (ho : o.op = .call { callee := .builtin .append, args := #[s, x], argTypes := #[t, t] }) (hgd : o.guard = none)
    (base : Nat) {v : Value} {l k : List UInt8} (hs : a.eval s = v) (hown : OwnB w base E v l) {B : Nat} {A : Option Addr} (m c : Nat) (hx : a.eval x = .slice A m c) (hm : m = k.length) (hr : RB w B A k)
    (hbytes : l.length + k.length ≤ 200000000000000) (hbase : base ≤ w.heap.size)
    (h : ∀ v' w', OwnB w' base E v' (l ++ k) → Below base w w' → wpList P ops Q rest (a.put o.dst v') w') : wpList P ops Q (o :: rest) a w := by
  subst hm
  refine wpList_plain hgd fun K hK => ?_
  obtain ⟨v', w', hrun, h2, h3⟩ := run_appB (P := P) w hU base o.type hown c hr hbytes hbase
  unfold Oper.wp execOp
  simp only [ho, resolve, invoke, builtin, Sem.run_bind, Sem.run_pure, Result.andThen_ok, List.map_toArray, List.map_cons, List.map_nil, hs, hx, hrun]
  exact hK _ _ (h v' w' h2 (below_of_grownBy hown h3 hbase))

theorem wpList_appS {ops : Array Oper} {rest : List Oper} {o : Oper} {a : Act} {Q : Exit → Act → World → Prop} {t E u : TypeId} (hU : U8 P t E) (hu : P.underlying u = some .string) (s x : Operand)
    (ho : o.op = .call { callee := .builtin .append, args := #[s, x], argTypes := #[t, u] }) (hgd : o.guard = none)
    (base : Nat) {v : Value} {l : List UInt8} (hs : a.eval s = v) (hown : OwnB w base E v l) (tx : ByteArray) (hx : a.eval x = .string tx)
    (hbytes : l.length + tx.size ≤ 140737488355328) (hbase : base ≤ w.heap.size)
    (h : ∀ v' w', OwnB w' base E v' (l ++ tx.data.toList) → Below base w w' → wpList P ops Q rest (a.put o.dst v') w') : wpList P ops Q (o :: rest) a w := by
  refine wpList_plain hgd fun K hK => ?_
  obtain ⟨v', w', hrun, h2, h3⟩ := run_appS (P := P) w hU hu base o.type hown tx hbytes hbase
  unfold Oper.wp execOp
  simp only [ho, resolve, invoke, builtin, Sem.run_bind, Sem.run_pure, Result.andThen_ok, List.map_toArray, List.map_cons, List.map_nil, hs, hx, hrun]
  exact hK _ _ (h v' w' h2 (below_of_grownBy hown h3 hbase))
end
end Go.Proofs.YtjnjnccfojfghaaGreatDoor

/-! A block that is known whole; over any program. No condition. -/
namespace Go.Proofs.YtjnjnccfojfghaaGreatDoor
open Go.RowKit
set_option linter.unusedVariables false
/-- block g is just the cells cs of element type t, none frozen -/
def Blk (w : World) (g : Nat) (t : TypeId) (cs : Array Value) : Prop := w.heap[g]? = some (.cells cs t (0, 0))
section
variable {w w' : World} {g : Nat} {t : TypeId} {cs : Array Value}
theorem Blk.lt (h : Blk w g t cs) : g < w.heap.size := by
  rcases Nat.lt_or_ge g w.heap.size with hlt | hge
  · exact hlt
  · unfold Blk at h; rw [Array.getElem?_eq_none hge] at h; cases h
theorem Blk.cell (h : Blk w g t cs) (i : Nat) : w.cell? ⟨g, i, none⟩ = cs[i]? := cell_of_row w g i cs t (0, 0) h
theorem Blk.frozen (h : Blk w g t cs) (i : Nat) : w.frozen? ⟨g, i, none⟩ = false := by
  unfold Blk at h
  simp [World.frozen?, h]
theorem Blk.new (w : World) (t : TypeId) (cs : Array Value) : Blk (w.alloc (.cells cs t)) w.heap.size t cs := heap_alloc_new w _
theorem Blk.drew (h : Blk w g t cs) : Blk w.drew g t cs := h
theorem Blk.alloc (h : Blk w g t cs) (o : Obj) : Blk (w.alloc o) g t cs := (Below.heap_alloc w o g h.lt).trans h
theorem Blk.set_ (h : Blk w g t cs) (i : Nat) (u : Value) : Blk (w.setCell ⟨g, i, none⟩ u) g t (cs.setIfInBounds i u) := by
  unfold Blk at h ⊢
  simp [World.setCell, Array.getElem?_modify, h]
theorem Blk.far (h : Blk w g t cs) {p : Addr} (hp : g ≠ p.block) (u : Value) : Blk (w.setCell p u) g t cs := (Below.heap_setCell w p u g hp).trans h
theorem Blk.below {B : Nat} (h : Blk w g t cs) (hb : Below B w w') (hg : g < B) : Blk w' g t cs := (hb.block g hg).trans h
theorem Blk.keep (h : Blk w g t cs) (hb : Below w.heap.size w w') : Blk w' g t cs := h.below hb h.lt
theorem Blk.grown {row : Option Nat} (h : Blk w g t cs) (hb : w.grownBy w' row) (hg : some g ≠ row) : Blk w' g t cs := (hb.block g h.lt hg).trans h
theorem Blk.ne_ {g' : Nat} {t' : TypeId} {cs' : Array Value} (h : Blk w g t cs) (h' : Blk w g' t' cs') (hne : t ≠ t') : g ≠ g' := by
  rintro rfl
  unfold Blk at h h'
  rw [h] at h'
  injection h' with h'
  injection h' with _ ht
  exact hne ht
/-- a store at a place of a row whose rest reads as l: the rest from there reads as c :: l -/
theorem drop_set (cs : Array Value) (i : Nat) (u : Value) (hi : i < cs.size) : (cs.setIfInBounds i u).toList.drop i = u :: cs.toList.drop (i + 1) := by
  rw [Array.toList_setIfInBounds]
  rw [List.drop_eq_getElem_cons (by simpa using hi), List.drop_set_of_lt (by omega)]
  simp
/-- the rest of a block reads as bytes -/
theorem Blk.rb (h : Blk w g t cs) (i : Nat) {l : List UInt8} (hl : cs.toList.drop i = Lib.byteCells l) {B : Nat} (hB : g < B) : RB w B (some ⟨g, i, none⟩) l := by
  refine .inr ⟨g, i, rfl, hB, fun k hk => ?_⟩
  rw [h.cell, ← Array.getElem?_toList, ← List.getElem?_drop, hl, bt_getElem hk]
  simp [Lib.byteCells, hk]
end
theorem RB.drewN {w : World} {B : Nat} {A : Option Addr} {l : List UInt8} (h : RB w B A l) (n : Nat) : RB (w.drewN n) B A l := h
theorem bdrewN {B : Nat} {a w : World} (h : Below B a w) (n : Nat) : Below B a (w.drewN n) := ⟨h.os, h.tape, h.output, h.size, h.block⟩
end Go.Proofs.YtjnjnccfojfghaaGreatDoor

/-! Words for slices of strings; over any program. No condition. -/
namespace Go.Proofs.YtjnjnccfojfghaaGreatDoor
open Go.RowKit
set_option linter.unusedVariables false
/-- string i of a list; the empty one behind its end -/
def st (L : List ByteArray) (i : Nat) : ByteArray := L.getD i ⟨#[]⟩
theorem st_getElem {L : List ByteArray} {i : Nat} (h : i < L.length) : st L i = L[i] := by
  unfold st; rw [List.getD_eq_getElem?_getD, List.getElem?_eq_getElem h]; rfl
theorem drop_st {L : List ByteArray} {j : Nat} (h : j < L.length) : L.drop j = st L j :: L.drop (j + 1) := by
  rw [st_getElem h]; exact List.drop_eq_getElem_cons h
theorem st_mem {L : List ByteArray} {i : Nat} (h : i < L.length) : st L i ∈ L := by rw [st_getElem h]; exact List.getElem_mem h
/-- a slice's address reads as a list of strings, below block B -/
def RS (w : World) (B : Nat) (A : Option Addr) (L : List ByteArray) : Prop :=
  L = [] ∨ ∃ b off, A = some ⟨b, off, none⟩ ∧ b < B ∧ ∀ i, i < L.length → w.cell? ⟨b, off + i, none⟩ = some (.string (st L i))
theorem RS.at_ {w : World} {B : Nat} {A : Option Addr} {L : List ByteArray} (h : RS w B A L) {j : Nat} (hj : j < L.length) :
    ∃ b off, A = some ⟨b, off, none⟩ ∧ b < B ∧ ∀ i, i < L.length → w.cell? ⟨b, off + i, none⟩ = some (.string (st L i)) := by
  rcases h with h | h
  · rw [h] at hj; simp at hj
  · exact h
theorem RS.keep {w w' : World} {B B' : Nat} {A : Option Addr} {L : List ByteArray} (h : RS w B A L) (hB : B ≤ B') (hk : ∀ p : Addr, p.block < B → w'.cell? p = w.cell? p) : RS w' B' A L := by
  rcases h with h | ⟨b, off, hA, hb, hc⟩
  · exact .inl h
  · exact .inr ⟨b, off, hA, by omega, fun i hi => (hk _ hb).trans (hc i hi)⟩
theorem RS.below {w w' : World} {B : Nat} {A : Option Addr} {L : List ByteArray} (h : RS w B A L) (hb : Below B w w') : RS w' B A L := h.keep (Nat.le_refl _) fun _ hp => hb.cell hp
theorem RS.mono {w : World} {B B' : Nat} {A : Option Addr} {L : List ByteArray} (h : RS w B A L) (hB : B ≤ B') : RS w B' A L := h.keep hB fun _ _ => rfl
/-- '==' of strings, as the walk spells it -/
theorem str_ne {s t : ByteArray} (h : ¬ s = t) : (s.toList == t.toList) = false := by
  rw [beq_eq_false_iff_ne, ByteArray.toList_eq, ByteArray.toList_eq]
  exact fun e => h (WideShapes.bytes_inj e)
end Go.Proofs.YtjnjnccfojfghaaGreatDoor

/-! append onto a row of one-cell values that the call owns, the source a slice that reads as a list of values; a row of strings; over any program. No condition but the sizes. -/
namespace Go.Proofs.YtjnjnccfojfghaaGreatDoor
open Go.RowKit
set_option linter.unusedVariables false

/-- t is a type of slices of E, E of one cell and at most 64 bytes -/
structure UE (P : Program) (t E : TypeId) : Prop where
  ht : P.underlying t = some (.slice E)
  hi : ∃ i z, P.info? E = some i ∧ i.zero = some z ∧ z.cells.size = 1 ∧ i.size = 1 ∧ i.bytes ≤ 64

theorem cell_new (w : World) (E : TypeId) (x : Value) {g : Nat} (hg : w.heap.size = g) : (w.alloc (.cells #[x] E)).cell? ⟨g, 0, none⟩ = some x := by subst hg; simp
theorem below_of_grown {w w' : World} {base E n : Nat} {v : Value} {xs : List Value} (h : w.ownsRow base E 1 v n xs) (hg : w.grownBy w' v.ownBlock) (hb : base ≤ w.heap.size) : Below base w w' :=
  ⟨hg.os, hg.tape, hg.output, hg.size, fun k hk => hg.block k (by omega) (fun e => by have := (World.ownsRow.lt h k e.symm).1; omega)⟩

section
variable {P : Program} (w : World)
theorem run_appV {t E : TypeId} (hU : UE P t E) (base : Nat) (ty : TypeId) {v : Value} {n : Nat} {xs : List Value} (hown : w.ownsRow base E 1 v n xs) (ad : Addr) (m c : Nat) (news : List Value) (hl : news.length = m)
    (hnews : ∀ j u, news[j]? = some u → w.cell? (ad.add j) = some u) (h1 : ∀ u ∈ news, u.oneCell' = true) (hbytes : n + m ≤ 1000000000000) (hbase : base ≤ w.heap.size) :
    ∃ v' w', (Builtin.append_ #[t, t] ty #[v, .slice (some ad) m c]).run P w = .ok v' w' ∧ w'.ownsRow base E 1 v' (n + m) (xs ++ news) ∧ w.grownBy w' v.ownBlock := by
  obtain ⟨i, z, hi, hz, hzs, hs, hb⟩ := hU.hi
  have hmul : ((n + m) + (n + m) / 4 + 192) * i.bytes ≤ 281474976710656 := by
    have h2 : (n + m) + (n + m) / 4 + 192 ≤ 1250000000192 := by omega
    exact Nat.le_trans (Nat.mul_le_mul h2 hb) (by decide)
  obtain ⟨v', w', hrun, h3, h4, _⟩ := run_append_own_wide (P := P) w base t ty E i z 1 i.bytes hU.ht hi hz hs rfl hzs (by omega) v n xs hown ad m c news (by omega) hnews h1 (by simp only [maxLen]; omega) hmul hbase
  exact ⟨v', w', hrun, h3, h4⟩

theorem wpList_appV {ops : Array Oper} {rest : List Oper} {o : Oper} {a : Act} {Q : Exit → Act → World → Prop} {t E : TypeId} (hU : UE P t E) (s x : Operand)
    (ho : o.op = .call { callee := .builtin .append, args := #[s, x], argTypes := #[t, t] }) (hgd : o.guard = none)
    (base : Nat) {v : Value} {n : Nat} {xs : List Value} (hs : a.eval s = v) (hown : w.ownsRow base E 1 v n xs) (ad : Addr) (m c : Nat) (hx : a.eval x = .slice (some ad) m c) (news : List Value) (hl : news.length = m)
    (hnews : ∀ j u, news[j]? = some u → w.cell? (ad.add j) = some u) (h1 : ∀ u ∈ news, u.oneCell' = true) (hbytes : n + m ≤ 1000000000000) (hbase : base ≤ w.heap.size)
    (h : ∀ v' w', w'.ownsRow base E 1 v' (n + m) (xs ++ news) → Below base w w' → wpList P ops Q rest (a.put o.dst v') w') : wpList P ops Q (o :: rest) a w := by
  refine wpList_plain hgd fun K hK => ?_
  obtain ⟨v', w', hrun, h2, h3⟩ := run_appV (P := P) w hU base o.type hown ad m c news hl hnews h1 hbytes hbase
  unfold Oper.wp execOp
  simp only [ho, resolve, invoke, builtin, Sem.run_bind, Sem.run_pure, Result.andThen_ok, List.map_toArray, List.map_cons, List.map_nil, hs, hx, hrun]
  exact hK _ _ (h v' w' h2 (below_of_grown hown h3 hbase))
end

/-- v owns a row of strings, from block base on -/
def OwnS (w : World) (base E : Nat) (v : Value) (L : List ByteArray) : Prop := w.ownsRow base E 1 v L.length (L.map Value.string)
theorem OwnS.nil (w : World) (base E : Nat) : OwnS w base E (.slice none 0 0) [] := World.ownsRow_nil w base E 1
theorem OwnS.alloc {w : World} {base E : Nat} {v : Value} {L : List ByteArray} (h : OwnS w base E v L) (o : Obj) : OwnS (w.alloc o) base E v L := World.ownsRow.alloc h o
theorem OwnS.below {w w' : World} {base E : Nat} {v : Value} {L : List ByteArray} (h : OwnS w base E v L) (hb : Below w.heap.size w w') : OwnS w' base E v L :=
  World.ownsRow.kept h (grownBy_of_below hb none) (by cases v.ownBlock <;> simp)
theorem OwnS.far {w : World} {base E : Nat} {v : Value} {L : List ByteArray} (h : OwnS w base E v L) {p : Addr} (hp : p.block < base) (u : Value) : OwnS (w.setCell p u) base E v L := by
  refine World.ownsRow.kept h (row := some p.block) ⟨rfl, rfl, rfl, by simp, fun i hi hne => Below.heap_setCell w p u i (fun e => hne (by rw [e]))⟩ ?_
  by_cases hb : v.ownBlock = some p.block
  · have := (World.ownsRow.lt h _ hb).1; omega
  · exact .inr hb
theorem OwnS.mono {w : World} {base base' E : Nat} {v : Value} {L : List ByteArray} (h : OwnS w base E v L) (hb : base' ≤ base) : OwnS w base' E v L := by
  refine ⟨h.1, ?_⟩
  rcases h.2 with h1 | ⟨g, cap, cur, hv, hg, r⟩
  · exact .inl h1
  · exact .inr ⟨g, cap, cur, hv, by omega, r⟩
theorem OwnS.out {w : World} {base E : Nat} {v : Value} {L : List ByteArray} (h : OwnS w base E v L) : ∃ A c, v = .slice A L.length c ∧ L.length ≤ c ∧ c ≤ maxLen ∧ RS w w.heap.size A L := by
  rcases h.2 with ⟨rfl, h0⟩ | ⟨g, cap, cur, rfl, hb, hg, hc, hm, hs, ht⟩
  · obtain rfl : L = [] := List.eq_nil_of_length_eq_zero h0
    exact ⟨none, 0, rfl, Nat.le_refl _, by simp [maxLen], .inl rfl⟩
  · refine ⟨some ⟨g, 0, none⟩, cap, rfl, hc, hm, .inr ⟨g, 0, rfl, (Array.getElem?_eq_some_iff.1 hg).1, fun i hi => ?_⟩⟩
    have := World.ownsRow.cells h (g := g) rfl i (.string L[i]) (by simp [hi])
    rw [st_getElem hi, ← this, Addr.add_lit, Nat.zero_add]
theorem OwnS.rs {w : World} {base E n c : Nat} {A : Option Addr} {L : List ByteArray} (h : OwnS w base E (.slice A n c) L) : RS w w.heap.size A L := by
  obtain ⟨A', c', e, _, _, hr⟩ := h.out
  injection e with e1
  subst e1
  exact hr
theorem wpList_appOneS {P : Program} (w : World) {ops : Array Oper} {rest : List Oper} {o : Oper} {a : Act} {Q : Exit → Act → World → Prop} {t E : TypeId} (hU : UE P t E) (s x : Operand)
    (ho : o.op = .call { callee := .builtin .append, args := #[s, x], argTypes := #[t, t] }) (hgd : o.guard = none)
    (base : Nat) {v : Value} {L : List ByteArray} (hs : a.eval s = v) (hown : OwnS w base E v L) (g c : Nat) (hx : a.eval x = .slice (some ⟨g, 0, none⟩) 1 c) (y : ByteArray)
    (hc : w.cell? ⟨g, 0, none⟩ = some (.string y)) (hbytes : L.length + 1 ≤ 1000000000000) (hbase : base ≤ w.heap.size)
    (h : ∀ v' w', OwnS w' base E v' (L ++ [y]) → Below base w w' → wpList P ops Q rest (a.put o.dst v') w') : wpList P ops Q (o :: rest) a w := by
  refine wpList_appV w hU s x ho hgd base hs hown ⟨g, 0, none⟩ 1 c hx [.string y] rfl ?_ (by simp [Value.oneCell']) hbytes hbase fun v' w' h1 h2 => h v' w' ?_ h2
  · intro j u hu
    have hj : j = 0 := by
      have := (List.getElem?_eq_some_iff.1 hu).1
      simpa using this
    subst hj
    simp at hu
    subst hu
    rw [Addr.add_lit]
    exact hc
  · unfold OwnS
    rw [List.length_append, List.map_append]
    exact h1
end Go.Proofs.YtjnjnccfojfghaaGreatDoor

/-! A world in which one block alone has changed, and new ones have come; over any program. No condition. -/
namespace Go.Proofs.YtjnjnccfojfghaaGreatDoor
open Go.RowKit
set_option linter.unusedVariables false
/-- only block g may have changed -/
abbrev Only (g : Nat) (w w' : World) : Prop := w.grownBy w' (some g)
section
variable {g : Nat} {w w' w2 : World}
theorem Only.refl (w : World) : Only g w w := World.grownBy.refl w _
theorem Only.trans (h : Only g w w') (k : Only g w' w2) : Only g w w2 :=
  ⟨k.os.trans h.os, k.tape.trans h.tape, k.output.trans h.output, Nat.le_trans h.size k.size, fun i hi hne => (k.block i (Nat.lt_of_lt_of_le hi h.size) hne).trans (h.block i hi hne)⟩
theorem Only.set_ (h : Only g w w') (i : Nat) (v : Value) : Only g w (w'.setCell ⟨g, i, none⟩ v) :=
  ⟨h.os, h.tape, h.output, by simpa using h.size, fun k hk hne => (Below.heap_setCell w' ⟨g, i, none⟩ v k (fun e => hne (congrArg some e))).trans (h.block k hk hne)⟩
theorem Only.drew (h : Only g w w') (n : Nat) : Only g w (w'.drewN n) := ⟨h.os, h.tape, h.output, h.size, h.block⟩
theorem Only.below (h : Only g w w') : Below g w w' ∨ w.heap.size < g := by
  rcases Nat.lt_or_ge w.heap.size g with h1 | h1
  · exact .inr h1
  · exact .inl ⟨h.os, h.tape, h.output, h.size, fun k hk => h.block k (by omega) (fun e => by injection e; omega)⟩
theorem Only.of_below (h : Below w.heap.size w w') : Only g w w' := grownBy_of_below h _
theorem Only.to_below (h : Only g w w') (hg : g < w.heap.size) {B : Nat} (hB : B ≤ g) : Below B w w' :=
  ⟨h.os, h.tape, h.output, h.size, fun k hk => h.block k (by omega) (fun e => by injection e; omega)⟩
theorem Only.alloc (h : Only g w w') (hg : w.heap.size ≤ w'.heap.size) (o : Obj) : Only g w (w'.alloc o) :=
  ⟨h.os, h.tape, h.output, by simp; omega, fun k hk hne => (Below.heap_alloc w' o k (by omega)).trans (h.block k hk hne)⟩
theorem RB.only {B : Nat} {A : Option Addr} {l : List UInt8} (h : RB w B A l) (ho : Only g w w') (hB : B ≤ g) (hw : g < w.heap.size) : RB w' B A l :=
  h.below (ho.to_below hw hB)
theorem Blk.only {k : Nat} {t : TypeId} {cs : Array Value} (h : Blk w k t cs) (ho : Only g w w') (hk : k ≠ g) : Blk w' k t cs := (ho.block k h.lt (fun e => hk (by injection e))).trans h
theorem OwnB.only {base E : Nat} {v : Value} {l : List UInt8} (h : OwnB w base E v l) (ho : Only g w w') (hne : v.ownBlock ≠ some g) : OwnB w' base E v l := h.kept ho (.inr hne)
end
end Go.Proofs.YtjnjnccfojfghaaGreatDoor
