/-
  Several texts in one: Idx, BelowQ, By, LnB, Bs, ScNet, ScStr. Conditions: each part names its own.
-/
import Derived.Test.YtjnjnccfojfghaaGreatDoorMg1
import Derived.Shelf.Lays
import Derived.Lib.Strings
import Derived.Lib.Walk
import Derived.WalkKit
import Derived.Lib.BytesEntry
import Derived.Lib.IndexLaws
import Derived.Deep.QuietTactic
import Derived.BigQuiet
import Derived.Shelf.Bytes.SlCut
import Derived.Shelf.Bytes.SlSmallAll
import Derived.Test.YtjnjnccfojfghaaGreatDoorMg3
import Derived.Test.YtjnjnccfojfghaaGreatDoorShelf
import Derived.Test.YtjnjnccfojfghaaGreatDoorShelf5
import Derived.Lib.IndexAny
import Derived.Sort.Walk0
import Derived.Test.YtjnjnccfojfghaaGreatDoorProg
import Derived.BigRegion
import Derived.Test.YtjnjnccfojfghaaGreatDoorMg2
set_option linter.unusedSimpArgs false
/-! bytes.IndexByte at a slice that reads as a list of bytes, whatever its address; over any program. No condition. -/
namespace Go.Proofs.YtjnjnccfojfghaaGreatDoor
open Go.RowKit Go.Shelf
set_option linter.unusedVariables false
theorem bytesOf_bt (l : List UInt8) : Lib.bytesOf (l.map fun c => (c.toNat : Int)) = l := by
  unfold Lib.bytesOf
  rw [List.map_map]
  have : ((fun z : Int => z.toNat.toUInt8) ∘ fun c : UInt8 => (c.toNat : Int)) = id := by
    funext c
    simp
  first
  | (rw [this, List.map_id])
  | simp
theorem run_indexByteRB {P : Program} {w : World} {B : Nat} {A : Option Addr} {l : List UInt8} (h : RB w B A l) (n c : Nat) (hn : n = l.length) (cv : Int) :
    (Extern.BytealgIndexByte.indexByte #[.slice A n c, .int .u8 cv]).run P w = .ok (.int .i64 (Lib.indexByte l cv.toNat.toUInt8)) w := by
  subst hn
  rcases h with rfl | ⟨b, off, rfl, hb, hc⟩
  · rcases A with _ | a
    · exact Lib.run_indexByteNil w 0 c cv
    · have hl := Lib.run_loadBytesX (P := P) w [] a .empty (fun j x hj => by simp at hj)
      have hs := Lib.run_indexByteNil (P := P) w 0 c cv
      change Sem.run P (do
        let b ← Extern.Bytes.bytesOf (.slice (some a) 0 c)
        let c ← Extern.Bytes.asByte (.int .u8 cv)
        match (List.range b.size).find? fun i => b[i]! == c with
        | some i => pure (goInt i)
        | none => pure (goInt (-1))) w = _
      change Sem.run P (do
        let b ← Extern.Bytes.bytesOf (.slice none 0 c)
        let c ← Extern.Bytes.asByte (.int .u8 cv)
        match (List.range b.size).find? fun i => b[i]! == c with
        | some i => pure (goInt i)
        | none => pure (goInt (-1))) w = _ at hs
      simp only [List.length_nil, Lib.bytesOf, List.map_nil, Array.append_empty] at hl
      simp only [Extern.Bytes.bytesOf, Sem.run_bind, Sem.run_pure, hl, Result.andThen] at hs ⊢
      exact hs
  · have := Lib.run_indexByteSlice (P := P) w b off l.length c (l.map fun c => (c.toNat : Int)) (by simp) (fun i hi => by
      rw [hc i hi, bt_getElem hi]
      simp [List.getD_eq_getElem?_getD, hi]) cv
    rw [bytesOf_bt] at this
    exact this
variable {P : Program} {ρ : Ren}
set_option maxHeartbeats 1000000 in
set_option maxRecDepth 100000 in
theorem Any.bytes_IndexByteRB (L : Lays.n187 P ρ) {w : World} {B : Nat} {A : Option Addr} {l : List UInt8} (h : RB w B A l) (n c : Nat) (hn : n = l.length) (cv : Int) :
    Calls P (ρ.f 187) #[.slice A n c, .int .u8 cv] w fun e w' => e = .returned (.int .i64 (Lib.indexByte l cv.toNat.toUInt8)) ∧ w = w' := by
  subst hn
  have t3 := L.t3; have t5 := L.t5; have t37 := L.t37
  have a3 := L.a3; have a5 := L.a5; have a37 := L.a37
  have mixed := L.mixed; have z3 := L.z3; have v3 := L.v3; have z5 := L.z5; have v5 := L.v5; have z37 := L.z37; have v37 := L.v37
  have H := Lib.hid (run_indexByteRB (P := P) h _ c rfl cv)
  go_enter L.f187, Body.n187_ntmps ρ
  go_wp2
  rw [run_callFunc_extern L.f255 (by kernel_rfl) (by kernel_rfl) (by kernel_rfl) (e := Extern.BytealgIndexByte.indexByte) (by kernel_rfl), H.out]
  simp only [Result.andThen]
  rw [Oper.upon_value]
  go_wp2
  go_ret
  exact ⟨rfl, rfl⟩
end Go.Proofs.YtjnjnccfojfghaaGreatDoor

/-! A region that draws its order and holds calls which only lay new blocks: one walk of the lexical order serves every order; over any program. No condition. -/
namespace Go.Proofs.YtjnjnccfojfghaaGreatDoor
open Go.RowKit
set_option linter.unusedVariables false
/-- the worlds in which all old blocks stand -/
structure Over (B : Nat) (w : World) : Type where
  v : World
  ok : Below B w v
instance {B : Nat} {w : World} : Nonempty (Over B w) := ⟨⟨w, Below.refl _ _⟩⟩
theorem wp_region_below {P : Program} {id : Nat} {Q : Exit → Act → World → Prop} {a : Act} {w : World} {l : List Oper} (B : Nat) (hm : P.follows .mixedOrders = true) (hB : Region.lexB .any l.toArray = true)
    (h : wpQuiet P l.toArray (fun w' => ∃ n : Over B w, w' = n.v) (fun a' => ∀ w', (∃ n : Over B w, w' = n.v) → Q .normal a' w') l a) : (Code.region id l.toArray true).wp P Q a w :=
  wp_region_quiet (C := fun w' => ∃ n : Over B w, w' = n.v) hm hB ⟨⟨{ w with drawn := w.drawn + 1 }, ⟨rfl, rfl, rfl, Nat.le_refl _, fun _ _ => rfl⟩⟩, rfl⟩ (by simpa using h)
/-- a callee that only lays new blocks, met in such a world -/
theorem calls_over {P : Program} {f : FuncId} {args : Array Value} {w : World} {B : Nat} {v : Value} (n : Over B w)
    (h : Calls P f args n.v fun e w' => Below n.v.heap.size n.v w' ∧ e = .returned v) (hB : B ≤ w.heap.size) : Calls P f args n.v fun e w'' => e = .returned v ∧ ∃ m : Over B w, w'' = m.v :=
  h.mono fun _ w' ⟨hb, he⟩ => ⟨he, ⟨w', n.ok.trans (hb.mono (Nat.le_trans hB n.ok.size))⟩, rfl⟩
end Go.Proofs.YtjnjnccfojfghaaGreatDoor

/-! bytes.Index at one byte, bytes.Cut, CutPrefix, CutSuffix at slices that read as lists; over any program. No condition but the sizes. -/
namespace Go.Proofs.YtjnjnccfojfghaaGreatDoor
open Go.RowKit Go.Shelf
set_option linter.unusedVariables false
/-- the numbers of bytes -/
def nums (l : List UInt8) : List Int := l.map fun c => (c.toNat : Int)
theorem nums_len (l : List UInt8) : (nums l).length = l.length := by simp [nums]
theorem bytesOf_nums (l : List UInt8) : Lib.bytesOf (nums l) = l := bytesOf_bt l
theorem nums_rng (l : List UInt8) : ∀ x ∈ nums l, 0 ≤ x ∧ x < 256 := by
  intro x hx
  obtain ⟨c, _, rfl⟩ := List.mem_map.1 hx
  have := c.toNat_lt
  omega
theorem nums_getD (l : List UInt8) {i : Nat} (h : i < l.length) : (nums l).getD i 0 = bt l i := by
  rw [bt_getElem h]; simp [nums, List.getD_eq_getElem?_getD, h]
theorem RB.bytesIn {w : World} {B : Nat} {A : Option Addr} {l : List UInt8} (h : RB w B A l) : Lib.BytesIn w A l.length (nums l) := fun hn => by
  obtain ⟨b, off, rfl, _, hc⟩ := h.at_ hn
  exact ⟨b, off, rfl, fun i hi => by rw [hc i hi, nums_getD l hi]⟩
variable {P : Program} {ρ : Ren}
set_option maxHeartbeats 2000000 in
set_option maxRecDepth 1000000 in
theorem Any.bytes_Index_oneRB (L : Lays.n185 P ρ) {w : World} {B : Nat} {A : Option Addr} {l : List UInt8} (h : RB w B A l) (c b2 o2 d : Nat) (cv : Int) (hc2 : w.cell? ⟨b2, o2, none⟩ = some (.int .u8 cv)) :
    Calls P (ρ.f 185) #[.slice A l.length c, .slice (some ⟨b2, o2, none⟩) 1 d] w fun e w' => e = .returned (.int .i64 (Lib.indexByte l cv.toNat.toUInt8)) ∧ w' = w := by
  have mixed := L.mixed; have t0 := L.t0; have a0 := L.a0; have z0 := L.z0; have v0 := L.v0; have t3 := L.t3; have a3 := L.a3; have z3 := L.z3; have v3 := L.v3; have t4 := L.t4; have a4 := L.a4; have z4 := L.z4; have v4 := L.v4; have t5 := L.t5; have a5 := L.a5; have z5 := L.z5; have v5 := L.v5; have t9 := L.t9; have a9 := L.a9; have z9 := L.z9; have v9 := L.v9; have t37 := L.t37; have a37 := L.a37; have z37 := L.z37; have v37 := L.v37; have t46 := L.t46; have a46 := L.a46; have z46 := L.z46; have v46 := L.v46; have t51 := L.t51; have a51 := L.a51; have z51 := L.z51; have v51 := L.v51; have t146 := L.t146; have a146 := L.a146; have z146 := L.z146; have v146 := L.v146; have g1 := L.g1
  have e187 : ∀ args w, (callFunc (ρ.f 187) args).run P w = .ok (.enter (ρ.f 187) args) w := enters_of L.f187 (by kernel_rfl) rfl
  have hcon := Any.bytes_IndexByteRB (P := P) (ρ := ρ) { L with } h l.length c rfl cv
  have HL := Lib.hid h
  clear h
  generalize hn : l.length = n at *
  generalize Lib.indexByte l cv.toNat.toUInt8 = r at *
  clear hn HL
  go_enter L.f185, Body.n185_ntmps ρ
  go_wp2_with (go_at_fn (ρ.f 187); refine hcon.mono ?_; rintro e w' ⟨rfl, rfl⟩)
  go_ret
  exact ⟨rfl, rfl⟩
theorem idxB_index (l : List UInt8) (c : UInt8) : Lib.indexByte l c = Lib.index l [c] := (Lib.index_one l c).symm
end Go.Proofs.YtjnjnccfojfghaaGreatDoor

/-! bytes.Cut, CutSuffix, CutPrefix, IndexByte, Clone and slices.Clip at slices that read as lists. Conditions: the sizes. -/
namespace Go.Proofs.YtjnjnccfojfghaaGreatDoor
open Go.RowKit
set_option linter.unusedVariables false
theorem u8S : U8 Tryz.prog 25 5 := by
  obtain ⟨i, h1, h2, h3, h4⟩ := info_parts (show (Tryz.prog.info? 5).map (fun i => (i.zero, i.size, i.bytes)) = some (some (.int .u8 0), 1, 1) by kernel_rfl)
  exact ⟨Tryz.underlying25, Tryz.underlying5, i, h1, h2, h3, h4⟩
theorem indexByte_mem (c : UInt8) : ∀ l : List UInt8, (0 ≤ Lib.indexByte l c) = (c ∈ l) := by
  intro l
  have h := Lib.contains_iff_indexByte l c
  rw [Bool.eq_iff_iff] at h
  simp only [List.contains_iff_mem, decide_eq_true_eq] at h
  exact propext h.symm
theorem indexByte_cut (c : UInt8) : ∀ l : List UInt8, Lib.indexByte l c = match cutAt c l with | none => -1 | some (x, _) => (x.length : Int) := by
  intro l
  have hge := Lib.indexByte_ge l c
  cases h : cutAt c l with
  | none =>
    have := cutAt_none h
    have h2 := indexByte_mem c l
    have : ¬ 0 ≤ Lib.indexByte l c := by rw [h2]; exact this
    show _ = (-1 : Int)
    omega
  | some xy =>
    obtain ⟨x, y⟩ := xy
    obtain ⟨rfl, h2⟩ := cutAt_some h
    have h3 : 0 ≤ Lib.indexByte (x ++ c :: y) c := by rw [indexByte_mem]; simp
    obtain ⟨o, ho⟩ : ∃ o : Nat, Lib.indexByte (x ++ c :: y) c = o := ⟨_, (Int.toNat_of_nonneg h3).symm⟩
    obtain ⟨h4, h5⟩ := Lib.indexByte_some ho
    show _ = (x.length : Int)
    rw [ho]
    have h6 : ¬ x.length < o := fun hlt => h5 x.length hlt (by simp)
    have h7 : ¬ o < x.length := fun hlt => h2 (by
      rw [List.getElem?_append_left hlt] at h4
      exact List.mem_of_getElem? h4)
    omega
/-- bytes.IndexByte, asked whether the byte is there -/
theorem idx_walk (w : World) {B : Nat} {A : Option Addr} {l : List UInt8} (h : RB w B A l) (n c : Nat) (hn : n = l.length) (cv : Int) (cu : UInt8) (hcv : cv = (cu.toNat : Int)) (bo : Bool) (hbo : decide (cu ∈ l) = bo) :
    Calls Tryz.prog 87 #[.slice A n c, .int .u8 cv] w fun e w' => w = w' ∧ ∃ i : Int, e = .returned (.int .i64 i) ∧ (decide (0 ≤ i) = bo) := by
  subst hcv
  refine (Any.bytes_IndexByteRB Tryz.lays187 h n c hn _).mono ?_
  rintro e w' ⟨rfl, rfl⟩
  refine ⟨rfl, _, rfl, ?_⟩
  have : ((cu.toNat : Int)).toNat.toUInt8 = cu := by simp
  rw [← hbo, Bool.eq_iff_iff, decide_eq_true_eq, decide_eq_true_eq, this, indexByte_mem]
/-- bytes.Cut at one byte -/
theorem cut_walk (w : World) {B : Nat} {A : Option Addr} {l : List UInt8} (h : RB w B A l) (n c b2 o2 d : Nat) (hn : n = l.length) (hc : n ≤ c) (hl : n ≤ 4611686018427387904) (cv : Int) (cu : UInt8) (hcv : cv = (cu.toNat : Int)) (h2 : w.cell? ⟨b2, o2, none⟩ = some (.int .u8 cv)) :
    Calls Tryz.prog 88 #[.slice A n c, .slice (some ⟨b2, o2, none⟩) 1 d] w fun e w' => (∃ q, w' = w.drewN q) ∧
      ((cutAt cu l = none ∧ e = .returned (.tuple #[.slice A n c, .slice none 0 0, .bool false])) ∨
       ∃ x y, cutAt cu l = some (x, y) ∧ e = .returned (.tuple #[.slice A x.length c, .slice (if c = x.length + 1 then A else A.map fun a => a.add (x.length + 1)) (n - (x.length + 1)) (c - (x.length + 1)), .bool true])) := by
  subst hcv hn
  have hcu : ((cu.toNat : Int)).toNat.toUInt8 = cu := by simp
  have hk := indexByte_cut cu l
  refine (Tryz.bytes_Cut_of A (some ⟨b2, o2, none⟩) l.length c 1 d (Lib.indexByte l cu) w hc (Lib.indexByte_ge _ _) (fun h0 => ?_) hl ((Any.bytes_Index_oneRB Tryz.lays185 h c b2 o2 d _ h2).mono ?_)).mono ?_
  · rw [hk] at h0 ⊢
    cases e : cutAt cu l with
    | none => rw [e] at h0; simp at h0
    | some xy =>
      obtain ⟨x, y⟩ := xy
      have := (cutAt_some e).1
      simp only []
      have hl := congrArg List.length this
      simp at hl
      omega
  · rintro e w' ⟨rfl, rfl⟩
    exact ⟨by rw [hcu], 0, rfl⟩
  · rintro e w' ⟨rfl, q, rfl⟩
    refine ⟨⟨q, rfl⟩, ?_⟩
    rw [hk]
    unfold Lib.cutV Lib.fromV
    cases e : cutAt cu l with
    | none => exact .inl ⟨rfl, by simp⟩
    | some xy =>
      obtain ⟨x, y⟩ := xy
      exact .inr ⟨x, y, rfl, by simp⟩
theorem RB.drop {w : World} {B b off : Nat} {l : List UInt8} (h : RB w B (some ⟨b, off, none⟩) l) (k : Nat) : RB w B (some ⟨b, off + k, none⟩) (l.drop k) := by
  rcases h with rfl | ⟨b', off', e, hb, hc⟩
  · exact .inl (by simp)
  · injection e with e
    injection e with e1 e2
    subst e1 e2
    refine .inr ⟨_, _, rfl, hb, fun i hi => ?_⟩
    rw [List.length_drop] at hi
    rw [Nat.add_assoc, hc (k + i) (by omega)]
    unfold bt
    rw [List.getD_eq_getElem?_getD, List.getD_eq_getElem?_getD, List.getElem?_drop]
/-- a slice's cell is no byte's -/
theorem RB.store {w : World} {B : Nat} {A : Option Addr} {l : List UInt8} (h : RB w B A l) {pa : Addr} {a : Option Addr} {n c : Nat} (hd : w.cell? pa = some (.slice a n c)) (u : Value) : RB (w.setCell pa u) B A l := by
  rcases h with h | ⟨b, off, rfl, hb, hc⟩
  · exact .inl h
  · refine .inr ⟨b, off, rfl, hb, fun i hi => ?_⟩
    have hne : pa ≠ ⟨b, off + i, none⟩ := fun e => by rw [e, hc i hi] at hd; cases hd
    rw [World.cell?_setCell_other (h := hne), hc i hi]
theorem OwnV.clip {w : World} {base n c : Nat} {A : Option Addr} {l : List UInt8} (h : OwnV w base (.slice A n c) l) : OwnV w base (.slice A n n) l := by
  obtain ⟨A', c', e, h1, h2, h3⟩ := h
  injection e with e1 e2 e3
  subst e1; subst e2; subst e3
  exact ⟨A, _, rfl, Nat.le_refl _, by omega, h3⟩
end Go.Proofs.YtjnjnccfojfghaaGreatDoor

/-! Strings as lists of bytes; over any program. No condition. -/
namespace Go.Proofs.YtjnjnccfojfghaaGreatDoor
open Go.RowKit
set_option linter.unusedVariables false
def bs (l : List UInt8) : ByteArray := ⟨l.toArray⟩
theorem bs_list (l : List UInt8) : (bs l).data.toList = l := by simp [bs]
theorem bs_size (l : List UInt8) : (bs l).size = l.length := by simp [bs, ByteArray.size]
theorem bs_of (s : ByteArray) : bs s.data.toList = s := by cases s; rfl
theorem bs_inj {a b : List UInt8} (h : bs a = bs b) : a = b := by rw [← bs_list a, h, bs_list]
theorem bs_nil (l : List UInt8) : (bs l).toList = l := by rw [ByteArray.toList_eq, bs_list]
theorem bs_ne {a b : List UInt8} (h : a ≠ b) : (bs a).toList ≠ (bs b).toList := by rw [bs_nil, bs_nil]; exact h
theorem bs_eqB {a b : List UInt8} : ((bs a).toList == (bs b).toList) = decide (a = b) := by rw [bs_nil, bs_nil]; exact (Bool.eq_iff_iff.2 (by simp))
theorem bs_app (a b : List UInt8) : bs a ++ bs b = bs (a ++ b) := by
  apply ByteArray.ext
  apply Array.ext'
  rw [ByteArray.data_append]
  simp [bs]
theorem bs_get (l : List UInt8) (i : Nat) (h : i < (bs l).size) (h2 : i < l.length) : (bs l)[i]'h = l[i] := rfl
theorem bs_lt (a b : List UInt8) : Op.bytesLess (bs a).toList (bs b).toList = decide (a < b) := by rw [bytesLess_eq, bs_nil, bs_nil]
theorem bs_extract (l : List UInt8) (i j : Nat) : (bs l).extract i j = bs ((l.drop i).take (j - i)) := by
  apply ByteArray.ext
  apply Array.ext'
  rw [ByteArray.data_extract]
  simp [bs, List.extract_eq_take_drop]
end Go.Proofs.YtjnjnccfojfghaaGreatDoor

/-! Addresses of networks as values; the walks of cidr.size, cut, Right. No condition. -/
namespace Go.Proofs.YtjnjnccfojfghaaGreatDoor
open Go.RowKit
set_option linter.unusedVariables false
abbrev Tx := List UInt8
def u8v (c : UInt8) : Value := .int .u8 (c.toNat : Int)
def arr (a : Tx) : Array Value := (a.map u8v).toArray
theorem arr_size (a : Tx) : (arr a).size = a.length := by simp [arr]
theorem arr_at {a : Tx} {i : Nat} (h : i < a.length) : (arr a)[i]? = some (u8v a[i]) := by simp [arr, h]
theorem arr_set (a : Tx) (i : Nat) (c : UInt8) : (arr a).setIfInBounds i (u8v c) = arr (a.set i c) := by simp [arr, List.map_set]
/-- an address: of IPv6?, how many bits, sixteen bytes -/
structure NetM where
  six : Bool
  bits : Nat
  addr : Tx
def NetM.cells (n : NetM) : Array Value := (.bool n.six :: .int .i64 (n.bits : Int) :: n.addr.map u8v).toArray
def NetM.val (n : NetM) : Value := .agg n.cells
def sizeM (six : Bool) : Nat := if six then 128 else 32
theorem nSize_walk (b : Bool) (w : World) : Calls Tryz.prog 82 #[.bool b] w fun e w' => w' = w ∧ e = .returned (.int .i64 (sizeM b : Int)) := by
  cases b <;>
  · go_enter Tryz.func82, Tryz.ntmps82
    go_wp2_with fail
    go_ret
    exact ⟨rfl, rfl⟩
/-- all bytes behind the first k are noughts -/
def cutK (a : Tx) (k : Nat) : Tx := a.take k ++ List.replicate (a.length - k) 0
theorem cutK_len (a : Tx) {k : Nat} (h : k ≤ a.length) : (cutK a k).length = a.length := by unfold cutK; simp; omega
/-- .. of the first i alone -/
def cutI (a : Tx) (k i : Nat) : Tx := (cutK a k).take i ++ a.drop i
theorem cutI_zero (a : Tx) (k : Nat) : cutI a k 0 = a := by unfold cutI; simp
theorem cutI_len (a : Tx) {k i : Nat} (h : k ≤ a.length) (hi : i ≤ a.length) : (cutI a k i).length = a.length := by
  unfold cutI; rw [List.length_append, List.length_take, cutK_len a h, List.length_drop]; omega
theorem cutI_full (a : Tx) {k : Nat} (h : k ≤ a.length) : cutI a k a.length = cutK a k := by
  unfold cutI
  rw [List.take_of_length_le (by rw [cutK_len a h]; exact Nat.le_refl _), List.drop_of_length_le (Nat.le_refl _), List.append_nil]
theorem cutI_at (a : Tx) {k i : Nat} (h : k ≤ a.length) (hi : i < a.length) : (cutI a k i)[i]? = some a[i] := by
  unfold cutI
  have hl : ((cutK a k).take i).length = i := by rw [List.length_take, cutK_len a h]; omega
  rw [List.getElem?_append_right (by omega), hl, Nat.sub_self, List.getElem?_drop, Nat.add_zero, List.getElem?_eq_getElem hi]
theorem cutI_arr (a : Tx) {k i : Nat} (h : k ≤ a.length) (hi : i < a.length) : (arr (cutI a k i))[i]? = some (u8v a[i]) := by
  unfold arr
  rw [List.getElem?_toArray, List.getElem?_map, cutI_at a h hi]
  rfl
theorem cutK_at (a : Tx) {k i : Nat} (h : k ≤ a.length) (hi : i < a.length) : (cutK a k)[i]? = some (if i < k then a[i] else 0) := by
  unfold cutK
  by_cases hik : i < k
  · rw [if_pos hik, List.getElem?_append_left (by rw [List.length_take]; omega), List.getElem?_take_of_lt hik, List.getElem?_eq_getElem hi]
  · rw [if_neg hik, List.getElem?_append_right (by rw [List.length_take]; omega), List.getElem?_replicate]
    rw [if_pos (by rw [List.length_take]; omega)]
theorem cutI_succ (a : Tx) {k i : Nat} (h : k ≤ a.length) (hi : i < a.length) : (cutI a k i).set i (if i < k then a[i] else 0) = cutI a k (i + 1) := by
  have hc := cutK_at a h hi
  obtain ⟨h1, h2⟩ := List.getElem?_eq_some_iff.1 hc
  have hl : ((cutK a k).take i).length = i := by rw [List.length_take, cutK_len a h]; omega
  unfold cutI
  rw [List.set_append_right _ _ (by omega), hl, Nat.sub_self, List.drop_eq_getElem_cons hi, List.set_cons_zero, List.take_succ_eq_append_getElem h1, h2, List.append_assoc]
  rfl
theorem cutI_same (a : Tx) {k i : Nat} (h : k ≤ a.length) (hi : i < k) : cutI a k i = cutI a k (i + 1) := by
  have hia : i < a.length := by omega
  rw [← cutI_succ a h hia, if_pos hi]
  have h1 := cutI_at a h hia
  obtain ⟨h2, h3⟩ := List.getElem?_eq_some_iff.1 h1
  rw [← h3, List.set_getElem_self]
theorem arr16 {a : Tx} (ha : a.length = 16) : ∃ b0 b1 b2 b3 b4 b5 b6 b7 b8 b9 b10 b11 b12 b13 b14 b15, a = [b0, b1, b2, b3, b4, b5, b6, b7, b8, b9, b10, b11, b12, b13, b14, b15] := by
  match a, ha with
  | [b0, b1, b2, b3, b4, b5, b6, b7, b8, b9, b10, b11, b12, b13, b14, b15], _ => exact ⟨_, _, _, _, _, _, _, _, _, _, _, _, _, _, _, _, rfl⟩
theorem Blk.aset {w : World} {g : Nat} {t : TypeId} {a : Tx} (h : Blk w g t (arr a)) (i : Nat) (c : UInt8) : Blk (w.setCell ⟨g, i, none⟩ (u8v c)) g t (arr (a.set i c)) := by
  rw [← arr_set]
  exact h.set_ i _
/-- sixteen stores -/
def fillW (w : World) (g : Nat) (b0 b1 b2 b3 b4 b5 b6 b7 b8 b9 b10 b11 b12 b13 b14 b15 : UInt8) : World := ((((((((((((((((w.setCell ⟨g, 0, none⟩ (u8v b0)).setCell ⟨g, 1, none⟩ (u8v b1)).setCell ⟨g, 2, none⟩ (u8v b2)).setCell ⟨g, 3, none⟩ (u8v b3)).setCell ⟨g, 4, none⟩ (u8v b4)).setCell ⟨g, 5, none⟩ (u8v b5)).setCell ⟨g, 6, none⟩ (u8v b6)).setCell ⟨g, 7, none⟩ (u8v b7)).setCell ⟨g, 8, none⟩ (u8v b8)).setCell ⟨g, 9, none⟩ (u8v b9)).setCell ⟨g, 10, none⟩ (u8v b10)).setCell ⟨g, 11, none⟩ (u8v b11)).setCell ⟨g, 12, none⟩ (u8v b12)).setCell ⟨g, 13, none⟩ (u8v b13)).setCell ⟨g, 14, none⟩ (u8v b14)).setCell ⟨g, 15, none⟩ (u8v b15))
theorem fill16 {w : World} {g : Nat} {t : TypeId} (h : Blk w g t (arr (List.replicate 16 0))) (b0 b1 b2 b3 b4 b5 b6 b7 b8 b9 b10 b11 b12 b13 b14 b15 : UInt8) : Blk (fillW w g b0 b1 b2 b3 b4 b5 b6 b7 b8 b9 b10 b11 b12 b13 b14 b15) g t (arr [b0, b1, b2, b3, b4, b5, b6, b7, b8, b9, b10, b11, b12, b13, b14, b15]) := by
  have e : (((((((((((((((((List.replicate 16 (0 : UInt8)).set 0 b0).set 1 b1).set 2 b2).set 3 b3).set 4 b4).set 5 b5).set 6 b6).set 7 b7).set 8 b8).set 9 b9).set 10 b10).set 11 b11).set 12 b12).set 13 b13).set 14 b14).set 15 b15) = [b0, b1, b2, b3, b4, b5, b6, b7, b8, b9, b10, b11, b12, b13, b14, b15] := rfl
  rw [← e]
  exact ((((((((((((((((h.aset 0 b0).aset 1 b1).aset 2 b2).aset 3 b3).aset 4 b4).aset 5 b5).aset 6 b6).aset 7 b7).aset 8 b8).aset 9 b9).aset 10 b10).aset 11 b11).aset 12 b12).aset 13 b13).aset 14 b14).aset 15 b15)
theorem fill16_below {B : Nat} {w0 w : World} {g : Nat} (h : Below B w0 w) (hg : B ≤ g) (b0 b1 b2 b3 b4 b5 b6 b7 b8 b9 b10 b11 b12 b13 b14 b15 : UInt8) : Below B w0 (fillW w g b0 b1 b2 b3 b4 b5 b6 b7 b8 b9 b10 b11 b12 b13 b14 b15) := ((((((((((((((((h.setCell hg (u8v b0)).setCell hg (u8v b1)).setCell hg (u8v b2)).setCell hg (u8v b3)).setCell hg (u8v b4)).setCell hg (u8v b5)).setCell hg (u8v b6)).setCell hg (u8v b7)).setCell hg (u8v b8)).setCell hg (u8v b9)).setCell hg (u8v b10)).setCell hg (u8v b11)).setCell hg (u8v b12)).setCell hg (u8v b13)).setCell hg (u8v b14)).setCell hg (u8v b15))
theorem res_arr {fn : Func} (hfn : fn.results = #[.cell 4 88]) {tm : Array Value} {W : World} {g : Nat} {a : Tx} (ha : a.length = 16) (hb : Blk W g 88 (arr a)) (h2 : tm[4]?.getD undef = .pointer (some ⟨g, 0, none⟩)) :
    (results fn tm).run Tryz.prog W = .ok (.agg (arr a)) W := by
  obtain ⟨b0, b1, b2, b3, b4, b5, b6, b7, b8, b9, b10, b11, b12, b13, b14, b15, rfl⟩ : ∃ b0 b1 b2 b3 b4 b5 b6 b7 b8 b9 b10 b11 b12 b13 b14 b15, a = [b0, b1, b2, b3, b4, b5, b6, b7, b8, b9, b10, b11, b12, b13, b14, b15] := by
    match a, ha with
    | [b0, b1, b2, b3, b4, b5, b6, b7, b8, b9, b10, b11, b12, b13, b14, b15], _ => exact ⟨_, _, _, _, _, _, _, _, _, _, _, _, _, _, _, _, rfl⟩
  have k := fun i => hb.cell i
  have k0 := k 0
  have k1 := k 1
  have k2 := k 2
  have k3 := k 3
  have k4 := k 4
  have k5 := k 5
  have k6 := k 6
  have k7 := k 7
  have k8 := k 8
  have k9 := k 9
  have k10 := k 10
  have k11 := k 11
  have k12 := k 12
  have k13 := k 13
  have k14 := k 14
  have k15 := k 15
  simp [arr] at k0 k1 k2 k3 k4 k5 k6 k7 k8 k9 k10 k11 k12 k13 k14 k15
  simp [results, hfn, h2, k0, k1, k2, k3, k4, k5, k6, k7, k8, k9, k10, k11, k12, k13, k14, k15, go_sem, arr]
set_option maxHeartbeats 1000000 in
theorem nCut_walk (a : Tx) (ha : a.length = 16) (k : Nat) (hk : k ≤ 16) (w : World) : Calls Tryz.prog 113 #[.agg (arr a), .int .i64 (8 * k : Int)] w fun e w' => Below w.heap.size w w' ∧ e = .returned (.agg (arr (cutK a k))) := by
  have HA := Lib.hid ha
  have hl : (cutK a k).length = 16 := by rw [cutK_len a (by omega), ha]
  have hf : cutI a k 16 = cutK a k := by rw [← ha]; exact cutI_full a (by omega)
  obtain ⟨C, hC⟩ : ∃ C, cutK a k = C := ⟨_, rfl⟩
  rw [hC] at hl hf ⊢
  have HF := Lib.hid hf
  have HLC := Lib.hid hl
  clear hl hf hC
  go_enter Tryz.func113, Tryz.ntmps113
  have hb1 := (Blk.new w 88 (arr a)).alloc (.cells (arr (List.replicate 16 0)) 88)
  have hb2 := Blk.new (w.alloc (.cells (arr a) 88)) 88 (arr (List.replicate 16 0))
  have hs : (w.alloc (.cells (arr a) 88)).heap.size = w.heap.size + 1 := by simp
  rw [hs] at hb2
  have HB1 := Lib.hid hb1
  have HB2 := Lib.hid hb2
  have HBL := Lib.hid (((Below.refl w.heap.size w).alloc (Nat.le_refl _) (.cells (arr a) 88)).alloc (by simp) (.cells (arr (List.replicate 16 0)) 88))
  clear hb1 hb2 hs
  have hz : arr (List.replicate 16 0) = #[.int .u8 0, .int .u8 0, .int .u8 0, .int .u8 0, .int .u8 0, .int .u8 0, .int .u8 0, .int .u8 0, .int .u8 0, .int .u8 0, .int .u8 0, .int .u8 0, .int .u8 0, .int .u8 0, .int .u8 0, .int .u8 0] := rfl
  go_upto_region 2 with fail
  rw [← hz]
  generalize (w.alloc (.cells (arr a) 88)).alloc (.cells (arr (List.replicate 16 0)) 88) = w2 at *
  go_loopg [5, 6, 7, 14, 19] 16 (fun j s5 s6 s7 s14 s19 wr => ∃ i : Nat, s7 = .int .i64 (i : Int) ∧ i + j = 16 ∧ Hid (Blk wr w.heap.size 88 (arr (cutI a k i))) ∧ Hid (Blk wr (w.heap.size + 1) 88 (arr (List.replicate 16 0))) ∧ Hid (Below w.heap.size w wr))
  case atStart => exact ⟨0, rfl, by omega, by rw [cutI_zero]; exact HB1, HB2, HBL⟩
  case round =>
    obtain ⟨i, rfl, hi, B1, B2, BL⟩ := hrel
    clear HB1 HB2 HBL
    by_cases hlt : i < 16
    · have hlt1 : (i : Int) < 16 := by omega
      have hil : i < a.length := by omega
      have kc : wr.cell? ⟨w.heap.size, i, none⟩ = some (u8v a[i]) := (B1.out.cell i).trans (cutI_arr a (by omega) hil)
      have fc := B1.out.frozen i
      unfold u8v at kc
      by_cases hik : i < k
      · have hk1 : ¬ (8 * (k : Int) - 8 * (i : Int)) ≤ 0 := by omega
        have hk2 : ¬ (8 * (k : Int) - 8 * (i : Int)) < 8 := by omega
        have HS := Lib.hid (cutI_same a (k := k) (by omega) hik)
        go_wp2_with fail
        go_roundg (gk - 1)
        case rel => exact ⟨i + 1, by go_num, by omega, by rw [← HS.out]; exact B1, B2, BL⟩
        case measure => omega
      · have hk1 : (8 * (k : Int) - 8 * (i : Int)) ≤ 0 := by omega
        have HS := Lib.hid (cutI_succ a (k := k) (by omega) hil)
        rw [if_neg hik] at HS
        go_wp2_with fail
        go_roundg (gk - 1)
        case rel => exact ⟨i + 1, by go_num, by omega, Lib.hid (by rw [← HS.out, ← arr_set]; exact B1.out.set_ i (u8v 0)), Lib.hid (B2.out.far (p := ⟨w.heap.size, i, none⟩) (by show w.heap.size + 1 ≠ w.heap.size; omega) _), Lib.hid (BL.out.setCell (Nat.le_refl _) _)⟩
        case measure => omega
    · have hlt1 : ¬ (i : Int) < 16 := by omega
      obtain rfl : i = 16 := by omega
      rw [HF.out] at B1
      obtain ⟨b0, b1, b2, b3, b4, b5, b6, b7, b8, b9, b10, b11, b12, b13, b14, b15, he⟩ := arr16 HLC.out
      subst he
      have k0 : wr.cell? ⟨w.heap.size, 0, none⟩ = some (.int .u8 (b0.toNat : Int)) := B1.out.cell 0
      have k1 : wr.cell? ⟨w.heap.size, 1, none⟩ = some (.int .u8 (b1.toNat : Int)) := B1.out.cell 1
      have k2 : wr.cell? ⟨w.heap.size, 2, none⟩ = some (.int .u8 (b2.toNat : Int)) := B1.out.cell 2
      have k3 : wr.cell? ⟨w.heap.size, 3, none⟩ = some (.int .u8 (b3.toNat : Int)) := B1.out.cell 3
      have k4 : wr.cell? ⟨w.heap.size, 4, none⟩ = some (.int .u8 (b4.toNat : Int)) := B1.out.cell 4
      have k5 : wr.cell? ⟨w.heap.size, 5, none⟩ = some (.int .u8 (b5.toNat : Int)) := B1.out.cell 5
      have k6 : wr.cell? ⟨w.heap.size, 6, none⟩ = some (.int .u8 (b6.toNat : Int)) := B1.out.cell 6
      have k7 : wr.cell? ⟨w.heap.size, 7, none⟩ = some (.int .u8 (b7.toNat : Int)) := B1.out.cell 7
      have k8 : wr.cell? ⟨w.heap.size, 8, none⟩ = some (.int .u8 (b8.toNat : Int)) := B1.out.cell 8
      have k9 : wr.cell? ⟨w.heap.size, 9, none⟩ = some (.int .u8 (b9.toNat : Int)) := B1.out.cell 9
      have k10 : wr.cell? ⟨w.heap.size, 10, none⟩ = some (.int .u8 (b10.toNat : Int)) := B1.out.cell 10
      have k11 : wr.cell? ⟨w.heap.size, 11, none⟩ = some (.int .u8 (b11.toNat : Int)) := B1.out.cell 11
      have k12 : wr.cell? ⟨w.heap.size, 12, none⟩ = some (.int .u8 (b12.toNat : Int)) := B1.out.cell 12
      have k13 : wr.cell? ⟨w.heap.size, 13, none⟩ = some (.int .u8 (b13.toNat : Int)) := B1.out.cell 13
      have k14 : wr.cell? ⟨w.heap.size, 14, none⟩ = some (.int .u8 (b14.toNat : Int)) := B1.out.cell 14
      have k15 : wr.cell? ⟨w.heap.size, 15, none⟩ = some (.int .u8 (b15.toNat : Int)) := B1.out.cell 15
      have z0 : wr.cell? ⟨w.heap.size + 1, 0, none⟩ = some (.int .u8 0) := B2.out.cell 0
      have f0 := B2.out.frozen 0
      have z1 : wr.cell? ⟨w.heap.size + 1, 1, none⟩ = some (.int .u8 0) := B2.out.cell 1
      have f1 := B2.out.frozen 1
      have z2 : wr.cell? ⟨w.heap.size + 1, 2, none⟩ = some (.int .u8 0) := B2.out.cell 2
      have f2 := B2.out.frozen 2
      have z3 : wr.cell? ⟨w.heap.size + 1, 3, none⟩ = some (.int .u8 0) := B2.out.cell 3
      have f3 := B2.out.frozen 3
      have z4 : wr.cell? ⟨w.heap.size + 1, 4, none⟩ = some (.int .u8 0) := B2.out.cell 4
      have f4 := B2.out.frozen 4
      have z5 : wr.cell? ⟨w.heap.size + 1, 5, none⟩ = some (.int .u8 0) := B2.out.cell 5
      have f5 := B2.out.frozen 5
      have z6 : wr.cell? ⟨w.heap.size + 1, 6, none⟩ = some (.int .u8 0) := B2.out.cell 6
      have f6 := B2.out.frozen 6
      have z7 : wr.cell? ⟨w.heap.size + 1, 7, none⟩ = some (.int .u8 0) := B2.out.cell 7
      have f7 := B2.out.frozen 7
      have z8 : wr.cell? ⟨w.heap.size + 1, 8, none⟩ = some (.int .u8 0) := B2.out.cell 8
      have f8 := B2.out.frozen 8
      have z9 : wr.cell? ⟨w.heap.size + 1, 9, none⟩ = some (.int .u8 0) := B2.out.cell 9
      have f9 := B2.out.frozen 9
      have z10 : wr.cell? ⟨w.heap.size + 1, 10, none⟩ = some (.int .u8 0) := B2.out.cell 10
      have f10 := B2.out.frozen 10
      have z11 : wr.cell? ⟨w.heap.size + 1, 11, none⟩ = some (.int .u8 0) := B2.out.cell 11
      have f11 := B2.out.frozen 11
      have z12 : wr.cell? ⟨w.heap.size + 1, 12, none⟩ = some (.int .u8 0) := B2.out.cell 12
      have f12 := B2.out.frozen 12
      have z13 : wr.cell? ⟨w.heap.size + 1, 13, none⟩ = some (.int .u8 0) := B2.out.cell 13
      have f13 := B2.out.frozen 13
      have z14 : wr.cell? ⟨w.heap.size + 1, 14, none⟩ = some (.int .u8 0) := B2.out.cell 14
      have f14 := B2.out.frozen 14
      have z15 : wr.cell? ⟨w.heap.size + 1, 15, none⟩ = some (.int .u8 0) := B2.out.cell 15
      have f15 := B2.out.frozen 15
      clear hi hlt HF HLC
      go_wp2_with fail
      have hB := fill16 B2.out b0 b1 b2 b3 b4 b5 b6 b7 b8 b9 b10 b11 b12 b13 b14 b15
      have hW := fill16_below BL.out (Nat.le_succ _) b0 b1 b2 b3 b4 b5 b6 b7 b8 b9 b10 b11 b12 b13 b14 b15
      exact bodyPost_ret (res_arr rfl rfl hB rfl) rfl ⟨hW, rfl⟩
end Go.Proofs.YtjnjnccfojfghaaGreatDoor

/-! The walks of path's lower, while, only. Condition: the texts' lengths. -/
namespace Go.Proofs.YtjnjnccfojfghaaGreatDoor
open Go.RowKit
set_option linter.unusedVariables false
/-! ### how many bytes of a set stand ahead -/
def whileM (s cs : Tx) : Nat := (s.takeWhile (cs.contains ·)).length
theorem while_stop : ∀ {s cs : Tx} {n : Nat}, n ≤ s.length → (∀ (i : Nat) (c : UInt8), i < n → s[i]? = some c → cs.contains c = true) → (∀ c, s[n]? = some c → cs.contains c = false) → whileM s cs = n
  | [], cs, n, h, _, _ => by
    simp at h
    subst h
    rfl
  | x :: r, cs, 0, _, _, h2 => by
    have := h2 x rfl
    unfold whileM
    rw [List.takeWhile_cons, if_neg (by rw [this]; decide)]
    rfl
  | x :: r, cs, n + 1, h, h1, h2 => by
    have hx := h1 0 x (by omega) rfl
    have ih := while_stop (s := r) (cs := cs) (n := n) (by simpa using h) (fun i c hi hc => h1 (i + 1) c (by omega) (by simpa using hc)) (fun c hc => h2 c (by simpa using hc))
    unfold whileM at ih ⊢
    rw [List.takeWhile_cons, if_pos hx, List.length_cons, ih]
theorem while_all {s cs : Tx} : whileM s cs = s.length ↔ s.all (cs.contains ·) = true := by
  unfold whileM
  induction s with
  | nil => simp
  | cons x r ih =>
    rw [List.takeWhile_cons, List.all_cons, List.length_cons]
    cases h : cs.contains x with
    | true => simpa using ih
    | false => simp
theorem idxB_yes {cs : Tx} {c : UInt8} (h : cs.contains c = true) : 0 ≤ Lib.indexByte cs c := by
  rw [indexByte_mem]
  simpa using h
theorem idxB_no {cs : Tx} {c : UInt8} (h : cs.contains c = false) : ¬ 0 ≤ Lib.indexByte cs c := by
  rw [indexByte_mem]
  simpa using h
theorem idxB_walk (cs : Tx) (c : UInt8) (w : World) : Calls Tryz.prog 109 #[.string (bs cs), .int .u8 (c.toNat : Int)] w fun e w' => e = .returned (.int .i64 (Lib.indexByte cs c)) ∧ w' = w := by
  have h := Tryz.strings_IndexByte (bs cs) (c.toNat : Int) w
  have e : ((c.toNat : Int).toNat.toUInt8) = c := by simp
  rw [bs_list, e] at h
  exact h
set_option maxHeartbeats 1000000 in
theorem while_walk (s cs : Tx) (hs : s.length ≤ 1099511627776) (w : World) : Calls Tryz.prog 118 #[.string (bs s), .string (bs cs)] w fun e w' => e = .returned (.int .i64 (whileM s cs : Int)) ∧ w' = w := by
  have HS := Lib.hid (bs_size s)
  have hsz : ((bs s).size : Int) = (s.length : Int) := by rw [bs_size]
  have KI := Lib.hid (fun c W => idxB_walk cs c W)
  obtain ⟨n0, hn0⟩ : ∃ n0, whileM s cs = n0 := ⟨_, rfl⟩
  have HN := Lib.hid hn0
  rw [hn0]
  clear hn0
  go_enter Tryz.func118, Tryz.ntmps118
  go_wp2_with fail
  go_loopg [5] s.length (fun k s5 wr => ∃ n : Nat, s5 = .int .i64 (n : Int) ∧ n + k = s.length ∧ Hid (∀ (i : Nat) (c : UInt8), i < n → s[i]? = some c → cs.contains c = true) ∧ wr = w)
  case atStart => exact ⟨0, rfl, by omega, Lib.hid (fun i c hi => absurd hi (by omega)), rfl⟩
  case round =>
    obtain ⟨n, rfl, hn, HA, rfl⟩ := hrel
    by_cases hlt : n < s.length
    · have hlt1 : (n : Int) < ((bs s).size : Int) := by omega
      have hlt2 : n < (bs s).size := by rw [bs_size]; exact hlt
      have hg : (bs s)[n]'hlt2 = s[n] := rfl
      have HGET : Hid (s[n]? = some s[n]) := Lib.hid (List.getElem?_eq_getElem hlt)
      obtain ⟨c, hc⟩ : ∃ c, s[n] = c := ⟨_, rfl⟩
      rw [hc] at hg HGET
      have KI2 := Lib.hid (KI.out c)
      clear hc
      have HNN := Lib.hid hn
      have HLT := Lib.hid hlt
      cases hcc : cs.contains c with
      | true =>
        have h1 := idxB_yes hcc
        have HCC := Lib.hid hcc
        clear hcc hn hlt
        go_wp2_with fail
        refine (KI2.out _).mono ?_
        rintro e w2 ⟨rfl, rfl⟩
        go_wp2_with fail
        go_roundg (gk - 1)
        case rel => exact ⟨n + 1, by go_num, by have := HNN.out; have := HLT.out; omega, Lib.hid (fun i d hi hd => by
          by_cases hin : i < n
          · exact HA.out i d hin hd
          · obtain rfl : i = n := by omega
            rw [HGET.out] at hd
            obtain rfl := Option.some.inj hd
            exact HCC.out), rfl⟩
        case measure => have := HNN.out; have := HLT.out; omega
      | false =>
        have h1 := idxB_no hcc
        have HF : Hid (n0 = n) := Lib.hid (by rw [← HN.out]; exact while_stop (by omega) HA.out (fun d hd => by rw [HGET.out] at hd; obtain rfl := Option.some.inj hd; exact hcc))
        clear hcc hn hlt
        go_wp2_with fail
        refine (KI2.out _).mono ?_
        rintro e w2 ⟨rfl, rfl⟩
        go_wp2_with fail
        go_ret
        exact ⟨by rw [HF.out]; rfl, rfl⟩
    · have hlt1 : ¬ (n : Int) < ((bs s).size : Int) := by omega
      have HF : Hid (n0 = n) := Lib.hid (by rw [← HN.out]; exact while_stop (by omega) HA.out (fun d hd => by rw [List.getElem?_eq_none (by omega)] at hd; cases hd))
      clear hn hlt
      go_wp2_with fail
      go_ret
      exact ⟨by rw [HF.out]; rfl, rfl⟩
theorem only_walk (s cs : Tx) (hs : s.length ≤ 1099511627776) (w : World) : Calls Tryz.prog 84 #[.string (bs s), .string (bs cs)] w fun e w' => e = .returned (.bool (s.all (cs.contains ·))) ∧ w' = w := by
  have KW := Lib.hid (while_walk s cs hs w)
  have hsz : ((bs s).size : Int) = (s.length : Int) := by rw [bs_size]
  have hb : ((whileM s cs : Int) == ((bs s).size : Int)) = s.all (cs.contains ·) := by
    rw [hsz, Bool.eq_iff_iff, beq_iff_eq, ← while_all]
    omega
  generalize s.all (cs.contains ·) = F at *
  generalize whileM s cs = n at *
  clear hsz
  go_enter Tryz.func84, Tryz.ntmps84
  go_wp2_with fail
  refine KW.out.mono ?_
  rintro e w2 ⟨rfl, rfl⟩
  go_wp2_with fail
  go_ret
  exact ⟨by rw [← hb]; rfl, rfl⟩
/-! ### letters in lower case -/
def uppS : Tx := [65, 66, 67, 68, 69, 70, 71, 72, 73, 74, 75, 76, 77, 78, 79, 80, 81, 82, 83, 84, 85, 86, 87, 88, 89, 90]
def lowS : Tx := [97, 98, 99, 100, 101, 102, 103, 104, 105, 106, 107, 108, 109, 110, 111, 112, 113, 114, 115, 116, 117, 118, 119, 120, 121, 122]
theorem upp_all : ∀ c : UInt8, (65 ≤ c.toNat ∧ c.toNat ≤ 90 → Lib.indexByte uppS c = ((c.toNat - 65 : Nat) : Int) ∧ lowS[c.toNat - 65]? = some (lowC c)) ∧ (¬ (65 ≤ c.toNat ∧ c.toNat ≤ 90) → Lib.indexByte uppS c = -1) := by
  have h : ∀ i : Fin 256, ((65 ≤ i.val ∧ i.val ≤ 90 → Lib.indexByte uppS (UInt8.ofNat i.val) = ((i.val - 65 : Nat) : Int) ∧ lowS[i.val - 65]? = some (lowC (UInt8.ofNat i.val))) ∧ (¬ (65 ≤ i.val ∧ i.val ≤ 90) → Lib.indexByte uppS (UInt8.ofNat i.val) = -1)) := by decide +kernel
  intro c
  have := h ⟨c.toNat, c.toNat_lt⟩
  simpa using this
end Go.Proofs.YtjnjnccfojfghaaGreatDoor
