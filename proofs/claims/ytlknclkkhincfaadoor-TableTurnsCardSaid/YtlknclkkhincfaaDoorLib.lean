/-
  Words for bytes in memory, over any program: a slice that reads as a list of bytes. No condition.
-/
import Derived.WalkKit
import Derived.Handy
import Derived.BigQuiet
import Derived.Deep.QuietTactic
import Derived.Deep.LoopGhost
import Derived.Deep.Light
import Derived.Lib.Hide
import Derived.Lib.ItoaNum
import Derived.Lib.ConvBytes
import Derived.Lib.AppendIntMem
namespace Go.Proofs.YtlknclkkhincfaaDoor
open Go.RowKit
set_option linter.unusedVariables false

/-- byte i of a list, as a number; 0 behind its end -/
def bt (l : List UInt8) (i : Nat) : Int := ((l.getD i 0).toNat : Int)
theorem bt_lo (l : List UInt8) (i : Nat) : 0 ≤ bt l i := by unfold bt; omega
theorem bt_hi (l : List UInt8) (i : Nat) : bt l i ≤ 255 := by
  unfold bt; have := (l.getD i 0).toNat_lt; omega
theorem drop_bt {l : List UInt8} {j : Nat} (h : j < l.length) : ∃ c, l.drop j = c :: l.drop (j + 1) ∧ (c.toNat : Int) = bt l j := by
  refine ⟨l[j], List.drop_eq_getElem_cons h, ?_⟩
  unfold bt; rw [List.getD_eq_getElem?_getD, List.getElem?_eq_getElem h]; rfl

/-- a slice's address reads as a list of bytes, below block B -/
def RB (w : World) (B : Nat) (A : Option Addr) (l : List UInt8) : Prop :=
  l = [] ∨ ∃ b off, A = some ⟨b, off, none⟩ ∧ b < B ∧ ∀ i, i < l.length → w.cell? ⟨b, off + i, none⟩ = some (.int .u8 (bt l i))
theorem RB.at_ {w : World} {B : Nat} {A : Option Addr} {l : List UInt8} (h : RB w B A l) {j : Nat} (hj : j < l.length) :
    ∃ b off, A = some ⟨b, off, none⟩ ∧ b < B ∧ ∀ i, i < l.length → w.cell? ⟨b, off + i, none⟩ = some (.int .u8 (bt l i)) := by
  rcases h with h | h
  · rw [h] at hj; simp at hj
  · exact h

/-- a test, laid ahead of a walk as a rule for '==' alone -/
theorem on_eq (x y : Int) {p : Prop} (f : Hid (x = y) → Hid ((x == y) = true) → p) (g : Hid (¬ x = y) → Hid ((x == y) = false) → p) : p := by
  by_cases hx : x = y
  · exact f hx (by unfold Hid; simpa using hx)
  · exact g hx (by unfold Hid; simpa using hx)

/-- the same, '!=' too -/
theorem on_ne (x y : Int) {p : Prop} (f : Hid (x = y) → Hid ((x == y) = true ∧ (x != y) = false) → p) (g : Hid (¬ x = y) → Hid ((x == y) = false ∧ (x != y) = true) → p) : p := by
  by_cases hx : x = y
  · exact f hx (by unfold Hid; simpa using hx)
  · exact g hx (by unfold Hid; simpa using hx)
theorem ret3 {T : Int × Int × Int} {a b c : Int} (h : T = (a, b, c)) :
    Ending.returned (.tuple #[.int .i64 a, .int .i64 b, .int .i64 c]) = .returned (.tuple #[.int .i64 T.1, .int .i64 T.2.1, .int .i64 T.2.2]) := by rw [h]
theorem pow10_le {j : Nat} (h : j ≤ 16) : (10 : Int) ^ j ≤ 10000000000000000 := by
  have : (10 : Nat) ^ j ≤ 10 ^ 16 := Nat.pow_le_pow_right (by omega) h
  have e : ((10 : Nat) ^ j : Nat) = ((10 : Int) ^ j) := by simp
  omega

/-! ### strings -/
theorem str_eq {s : ByteArray} {l : List UInt8} (h : s.data.toList = l) : s = ⟨l.toArray⟩ := by
  subst h; cases s; rfl
theorem ret_str {s : ByteArray} {l : List UInt8} (h : s.data.toList = l) : Ending.returned (.string s) = .returned (.string ⟨l.toArray⟩) := by rw [str_eq h]
theorem size_len (s : ByteArray) : s.size = s.data.toList.length := rfl
theorem app_list (s t : ByteArray) : (s ++ t).data.toList = s.data.toList ++ t.data.toList := by simp [ByteArray.data_append]
/-- 'string([]byte{x})' -/
theorem run_conv1 {P : Program} (src dst e : TypeId) (hs : P.underlying src = some (.slice e)) (he : P.underlying e = some (.int .u8)) (hd : P.underlying dst = some .string) (W : World) (x : Int) :
    (convert src dst (.slice (some ⟨W.heap.size, 0, none⟩) 1 1)).run P (W.alloc (.cells #[.int .u8 x] e)) = .ok (.string (strOfNums [x])) (W.alloc (.cells #[.int .u8 x] e)) := by
  refine run_convert_bytes_arg _ src e hs he _ _ 1 1 [x] rfl ?_ dst hd
  intro i hi
  obtain rfl : i = 0 := by omega
  simp

theorem decDigits_len {u : Nat} (h : u < 10 ^ 19) : (Lib.decDigits u).length ≤ 19 := by
  rw [Lib.decDigits_length]
  by_cases h0 : u = 0
  · subst h0; rw [Lib.nDigits_small (by omega)]; omega
  · rcases Nat.lt_or_ge 19 (Lib.nDigits u) with h1 | h1
    · exfalso
      have key : ∀ (k v : Nat), 10 ^ k ≤ 10 ^ k * (v + 1) := fun k v => Nat.le_mul_of_pos_right _ (by omega)
      have : ∀ (k v : Nat), v < 10 ^ (k + 1) → Lib.nDigits v ≤ k + 1 := by
        intro k
        induction k with
        | zero => intro v hv; rw [Lib.nDigits_small (by omega)]; omega
        | succ k ih =>
          intro v hv
          by_cases hv10 : v < 10
          · rw [Lib.nDigits_small hv10]; omega
          · rw [Lib.nDigits_big hv10]
            have := ih (v / 10) (by rw [Nat.pow_succ] at hv; omega)
            omega
      have := this 18 u h
      omega
    · exact h1

/-! ### slices of bytes that come back -/
/-- v is a slice that reads as l -/
def Out (w : World) (v : Value) (l : List UInt8) : Prop :=
  ∃ A c, v = .slice A l.length c ∧ l.length ≤ c ∧ c ≤ maxLen ∧ RB w w.heap.size A l
theorem Out.nil (w : World) : Out w (.slice none 0 0) [] := ⟨none, 0, rfl, Nat.le_refl _, by simp [maxLen], .inl rfl⟩
theorem RB.keep {w w' : World} {B B' : Nat} {A : Option Addr} {l : List UInt8} (h : RB w B A l) (hB : B ≤ B') (hk : ∀ p : Addr, p.block < B → w'.cell? p = w.cell? p) : RB w' B' A l := by
  rcases h with h | ⟨b, off, hA, hb, hc⟩
  · exact .inl h
  · exact .inr ⟨b, off, hA, by omega, fun i hi => (hk _ hb).trans (hc i hi)⟩
theorem RB.below {w w' : World} {B : Nat} {A : Option Addr} {l : List UInt8} (h : RB w B A l) (hb : Below B w w') : RB w' B A l := h.keep (Nat.le_refl _) fun _ hp => hb.cell hp
theorem RB.mono {w : World} {B B' : Nat} {A : Option Addr} {l : List UInt8} (h : RB w B A l) (hB : B ≤ B') : RB w B' A l := h.keep hB fun _ _ => rfl
theorem bt_getElem {l : List UInt8} {i : Nat} (h : i < l.length) : bt l i = (l[i].toNat : Int) := by
  unfold bt; rw [List.getD_eq_getElem?_getD, List.getElem?_eq_getElem h]; rfl
theorem RB.of_own {w : World} {base E n : Nat} {v : Value} {l : List UInt8} (h : w.ownsRow base E 1 v n (Lib.byteCells l)) : n = l.length ∧ Out w v l := by
  have hn : l.length = n := by have := h.1; rw [Nat.mul_one] at this; rw [← this]; simp [Lib.byteCells]
  refine ⟨hn.symm, ?_⟩
  subst hn
  rcases h.2 with ⟨rfl, h0⟩ | ⟨g, cap, cur, rfl, hb, hg, hc, hm, hs, ht⟩
  · obtain rfl : l = [] := List.eq_nil_of_length_eq_zero h0
    exact Out.nil w
  · refine ⟨some ⟨g, 0, none⟩, cap, rfl, hc, hm, .inr ⟨g, 0, rfl, ?_, fun i hi => ?_⟩⟩
    · exact (Array.getElem?_eq_some_iff.1 hg).1
    · have := h.cells (g := g) rfl i (.int .u8 (l[i].toNat : Int)) (by simp [Lib.byteCells, hi])
      rw [bt_getElem hi, ← this, Addr.add_lit, Nat.zero_add]
theorem RB.of_out' {w : World} {A : Option Addr} {n c : Nat} {l : List UInt8} (h : Out w (.slice A n c) l) (hn : l.length = n) : RB w w.heap.size A l := by
  obtain ⟨A', c', e, _, _, hr⟩ := h
  injection e with e1 e2 e3
  subst e1
  exact hr
theorem RB.of_out {w : World} {A : Option Addr} {c : Nat} {l : List UInt8} (h : Out w (.slice A l.length c) l) : RB w w.heap.size A l := RB.of_out' h rfl
theorem below_bytesWorld (w : World) (e : TypeId) (s : ByteArray) : Below w.heap.size w (Lib.bytesWorld w e s) :=
  ⟨rfl, rfl, rfl, by rw [Lib.bytesWorld_size]; omega, fun k hk => Lib.bytesWorld_at_old w e s k hk⟩
theorem out_bytesWorld (w : World) (e : TypeId) (s : ByteArray) (hs : s.size ≤ maxLen) :
    Out (Lib.bytesWorld w e s) (.slice (some ⟨w.heap.size, 0, none⟩) s.size (grownCap w s.size 0 e)) s.data.toList := by
  refine ⟨_, _, rfl, grownCap_ge w _ _ _, grownCap_le_maxLen w _ _ _ hs, .inr ⟨w.heap.size, 0, rfl, by rw [Lib.bytesWorld_size]; omega, fun i hi => ?_⟩⟩
  rw [Nat.zero_add, Lib.bytesWorld_cell w e s i (by rw [size_len]; exact hi)]
  rfl
/-- 'string(b)' of a slice that reads as l -/
theorem run_convRB {P : Program} (src dst e : TypeId) (hs : P.underlying src = some (.slice e)) (he : P.underlying e = some (.int .u8)) (hd : P.underlying dst = some .string)
    {w : World} {B : Nat} {A : Option Addr} {l : List UInt8} (h : RB w B A l) (n c : Nat) (hn : n = l.length) :
    (convert src dst (.slice A n c)).run P w = .ok (.string ⟨l.toArray⟩) w := by
  subst hn
  rcases h with rfl | ⟨b, off, rfl, _, hc⟩
  · rw [run_convert_bytes_string w src dst e _ _ c hs he hd]
    rcases A with _ | a
    · simp [Conv.bytesToString]; rfl
    · have hl := run_loadCells_list (P := P) w a [] (fun j v hj => by simp at hj)
      simp at hl
      simp [Conv.bytesToString, hl]; rfl
  · refine run_convert_bytes_back w src dst e ⟨b, off, none⟩ c l hs he hd fun j hj => ?_
    rw [Addr.add_lit, hc j hj, bt_getElem hj]
theorem RB.sub {w : World} {B : Nat} {b off : Nat} {l : List UInt8} (hb : b < B) (hc : ∀ i, i < l.length → w.cell? ⟨b, off + i, none⟩ = some (.int .u8 (bt l i))) (i n : Nat) (hn : i + n ≤ l.length) :
    RB w B (some ⟨b, off + i, none⟩) ((l.drop i).take n) := by
  refine .inr ⟨b, off + i, rfl, hb, fun k hk => ?_⟩
  rw [List.length_take, List.length_drop] at hk
  rw [Nat.add_assoc, hc (i + k) (by omega)]
  unfold bt
  rw [List.getD_eq_getElem?_getD, List.getD_eq_getElem?_getD, List.getElem?_take_of_lt (by omega), List.getElem?_drop]
theorem take_drop_len {l : List UInt8} {i n : Nat} (h : i + n ≤ l.length) : n = ((l.drop i).take n).length := by
  rw [List.length_take, List.length_drop]; omega
theorem out_conv (w : World) (e : TypeId) (s : ByteArray) {l : List UInt8} {n : Nat} (h : s.data.toList = l) (hn : l.length = n) (hm : n ≤ maxLen) :
    Out (Lib.bytesWorld w e s) (.slice (some ⟨w.heap.size, 0, none⟩) n (grownCap w n 0 e)) l := by
  subst hn; subst h
  exact out_bytesWorld w e s hm
end Go.Proofs.YtlknclkkhincfaaDoor
