/-
  Bytes with one of them turned have another sum. No condition.
-/
import Derived.Test.YtfnhaddgdfkmcaaDoorSum
namespace Go.Proofs.YtfnhaddgdfkmcaaDoor
open Go.RowKit
set_option linter.unusedVariables false

/-! ### the plain law -/
theorem xor_inj {a b p : Nat} (h : a ^^^ p = b ^^^ p) : a = b := by
  have := congrArg (· ^^^ p) h
  simpa [Nat.xor_assoc] using this
theorem xor_inj' {a b p : Nat} (h : p ^^^ a = p ^^^ b) : a = b := by
  rw [Nat.xor_comm p a, Nat.xor_comm p b] at h; exact xor_inj h
theorem top_bit {a : Nat} (h : a < 2147483648) : 2147483648 ≤ a ^^^ 3988292384 := by
  refine Nat.ge_two_pow_of_testBit (i := 31) ?_
  rw [Nat.testBit_xor, Nat.testBit_lt_two_pow (x := a) (i := 31) h]
  decide
theorem gbit_inj {c d : Nat} (hc : c < 4294967296) (hd : d < 4294967296) (h : gbit c = gbit d) : c = d := by
  unfold gbit at h
  by_cases h1 : c % 2 = 1 <;> by_cases h2 : d % 2 = 1
  · rw [if_pos h1, if_pos h2] at h
    have := xor_inj h
    omega
  · rw [if_pos h1, if_neg h2] at h
    have := top_bit (a := c / 2) (by omega)
    omega
  · rw [if_neg h1, if_pos h2] at h
    have := top_bit (a := d / 2) (by omega)
    omega
  · rw [if_neg h1, if_neg h2] at h
    omega
theorem gits_lt : ∀ (k : Nat) {c : Nat}, c < 4294967296 → gits k c < 4294967296
  | 0, _, h => h
  | k + 1, _, h => gits_lt k (gbit_lt h)
theorem gits_inj : ∀ (k : Nat) {c d : Nat}, c < 4294967296 → d < 4294967296 → gits k c = gits k d → c = d
  | 0, _, _, _, _, h => h
  | k + 1, _, _, hc, hd, h => gbit_inj hc hd (gits_inj k (gbit_lt hc) (gbit_lt hd) h)
theorem u8_lt32 (x : UInt8) : x.toNat < 4294967296 := by have := x.toNat_lt; omega
theorem crcF_lt : ∀ (l : List UInt8) {c : Nat}, c < 4294967296 → crcF l c < 4294967296
  | [], _, h => h
  | x :: l, _, h => crcF_lt l (gits_lt 8 (xor32 h (u8_lt32 x)))
theorem crcF_inj : ∀ (l : List UInt8) {c d : Nat}, c < 4294967296 → d < 4294967296 → crcF l c = crcF l d → c = d
  | [], _, _, _, _, h => h
  | x :: l, _, _, hc, hd, h => xor_inj (gits_inj 8 (xor32 hc (u8_lt32 x)) (xor32 hd (u8_lt32 x)) (crcF_inj l (gits_lt 8 (xor32 hc (u8_lt32 x))) (gits_lt 8 (xor32 hd (u8_lt32 x))) h))
theorem crcF_append : ∀ (a b : List UInt8) (c : Nat), crcF (a ++ b) c = crcF b (crcF a c)
  | [], _, _ => rfl
  | x :: a, b, c => by rw [List.cons_append, crcF, crcF_append a b]; rfl
theorem crc_turned {l : List UInt8} {k : Nat} (hk : k < l.length) {y : UInt8} (hy : y ≠ l[k]) : crc l ≠ crc (l.set k y) := by
  intro h
  have h' := xor_inj (show crcF l 4294967295 ^^^ 4294967295 = crcF (l.set k y) 4294967295 ^^^ 4294967295 from h)
  have e1 : l = l.take k ++ l[k] :: l.drop (k + 1) := by rw [← List.drop_eq_getElem_cons hk, List.take_append_drop]
  have e2 : l.set k y = l.take k ++ y :: l.drop (k + 1) := by rw [List.set_eq_take_append_cons_drop, if_pos hk]
  rw [e2] at h'
  conv at h' => lhs; rw [e1]
  rw [crcF_append, crcF_append, crcF, crcF] at h'
  have hp := crcF_lt (l.take k) (c := 4294967295) (by omega)
  have h2 := crcF_inj _ (gits_lt 8 (xor32 hp (u8_lt32 _))) (gits_lt 8 (xor32 hp (u8_lt32 _))) h'
  have h3 := xor_inj' (gits_inj 8 (xor32 hp (u8_lt32 _)) (xor32 hp (u8_lt32 _)) h2)
  exact hy (UInt8.toNat_inj.1 h3).symm

theorem crc_lt (l : List UInt8) : crc l < 4294967296 := xor32 (crcF_lt l (by omega)) (by omega)
end Go.Proofs.YtfnhaddgdfkmcaaDoor
