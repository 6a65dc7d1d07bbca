/-
  The walks of Sum of both: the sum of Ethernet, bit by bit. No condition but the sizes that the form gives.
-/
import Derived.Test.YtfnhaddgdfkmcaaDoorProg
import Derived.Test.YtfnhaddgdfkmcaaDoorLib
namespace Go.Proofs.YtfnhaddgdfkmcaaDoor
open Go.RowKit
set_option linter.unusedVariables false

/-- one bit -/
def gbit (c : Nat) : Nat := if c % 2 = 1 then (c / 2) ^^^ 3988292384 else c / 2
def gits : Nat → Nat → Nat
  | 0, c => c
  | k + 1, c => gits k (gbit c)
def crcF : List UInt8 → Nat → Nat
  | [], c => c
  | x :: r, c => crcF r (gits 8 (c ^^^ x.toNat))
/-- the sum -/
def crc (l : List UInt8) : Nat := crcF l 4294967295 ^^^ 4294967295

theorem xor32 {a b : Nat} (ha : a < 4294967296) (hb : b < 4294967296) : a ^^^ b < 4294967296 := Nat.xor_lt_two_pow (n := 32) ha hb
theorem gbit_lt {c : Nat} (h : c < 4294967296) : gbit c < 4294967296 := by
  unfold gbit; split
  · exact xor32 (by omega) (by omega)
  · omega

theorem gbit_bits {d : Nat} (hd : d < 4294967296) :
    bits .xor .u32 ((d : Int) / 2) (bits .and .u32 3988292384 (-bits .and .u32 (d : Int) 1 % 4294967296)) = ((gbit d : Nat) : Int) := by
  have e1 : bits .and .u32 (d : Int) 1 = ((d % 2 : Nat) : Int) := by
    rw [show (1 : Int) = ((1 : Nat) : Int) from rfl, u32_and_nat d 1 hd (by omega), Nat.and_one_is_mod]
  rw [e1]
  unfold gbit
  have e2 : (d : Int) / 2 = ((d / 2 : Nat) : Int) := by omega
  rw [e2]
  split
  · rename_i h
    rw [h, show (-((1 : Nat) : Int) % 4294967296) = ((4294967295 : Nat) : Int) from by omega, show (3988292384 : Int) = ((3988292384 : Nat) : Int) from rfl,
      u32_and_nat _ _ (by omega) (by omega), show (3988292384 &&& 4294967295 : Nat) = 3988292384 from by decide, u32_xor_nat _ _ (by omega) (by omega)]
  · rename_i h
    rw [show d % 2 = 0 from by omega, show (-((0 : Nat) : Int) % 4294967296) = ((0 : Nat) : Int) from by omega, show (3988292384 : Int) = ((3988292384 : Nat) : Int) from rfl,
      u32_and_nat _ _ (by omega) (by omega), show (3988292384 &&& 0 : Nat) = 0 from by decide, u32_xor_nat _ _ (by omega) (by omega), Nat.xor_zero]

set_option maxRecDepth 100000 in
set_option maxHeartbeats 1000000 in
theorem sum_any (A : Option Addr) (l : List UInt8) (cp : Nat) (w : World) (B : Nat) (h : RB w B A l) (hl : l.length ≤ maxLen) :
    Calls Tryd.prog 26 #[.slice A l.length cp] w fun e w' => w = w' ∧ e = .returned (.int .u32 (crc l : Nat)) := by
  unfold maxLen at hl
  unfold crc
  obtain ⟨T, hT⟩ : ∃ T, crcF l 4294967295 = T := ⟨_, rfl⟩
  have HT := Lib.hid hT
  rw [hT]; clear hT
  go_enter Tryd.func26, Tryd.ntmps26
  go_wp2
  go_loopg [3, 8] l.length (fun k c i wr => w = wr ∧ ∃ (j : Nat) (m : Nat), j + k = l.length ∧ c = .int .u32 m ∧ i = .int .i64 j ∧ m < 4294967296 ∧ Hid (crcF (l.drop j) m = T))
  case atStart => exact ⟨rfl, 0, 4294967295, by omega, rfl, rfl, by omega, HT⟩
  case round =>
    obtain ⟨rfl, j, m, hj, rfl, rfl, hm, H⟩ := hrel
    by_cases hlt : j < l.length
    · obtain ⟨c, hc1, hc2⟩ := drop_bt hlt
      obtain ⟨b, off, rfl, hB, hcell⟩ := h.at_ hlt
      have cj := hcell j hlt
      rw [← hc2] at cj
      rw [hc1, crcF] at H
      have hx := xor32 hm (show c.toNat < 4294967296 by have := c.toNat_lt; omega)
      have hc3 := c.toNat_lt
      clear hcell h hc1 hc2
      have hj2 : (j : Int) < (l.length : Int) := by omega
      have hxe := u32_xor_nat m c.toNat hm (by omega)
      generalize hy : m ^^^ c.toNat = y at *
      clear hy
      go_wp2
      go_loopg [3, 16] 8 (fun k c i wr => w = wr ∧ ∃ (d : Nat), c = .int .u32 d ∧ i = .int .i64 (8 - (k : Int)) ∧ k ≤ 8 ∧ d < 4294967296 ∧ Hid (gits k d = gits 8 y))
      case atStart => exact ⟨rfl, y, rfl, rfl, by omega, hx, Lib.hid rfl⟩
      case round =>
        obtain ⟨rfl, d, rfl, rfl, hk, hd, H2⟩ := hrel
        by_cases hz : gk = 0
        · subst hz
          go_wp2
          go_roundg (l.length - (j + 1))
          case rel =>
            go_light
            have e : d = gits 8 y := H2.out
            rw [← e] at H
            exact ⟨rfl, j + 1, d, by omega, rfl, by go_num, hd, H⟩
          case measure => omega
        · go_wp2
          go_roundg (gk - 1)
          case rel =>
            go_light
            refine ⟨rfl, gbit d, congrArg _ (gbit_bits hd), congrArg _ (by omega), by omega, gbit_lt hd, ?_⟩
            unfold Hid
            rw [← H2.out]
            conv => rhs; rw [show gk = gk - 1 + 1 by omega]
            rfl
          case measure => omega
    · go_wp2
      go_ret
      have e1 : bits .xor .u32 IntKind.u32.max (m : Int) = ((4294967295 ^^^ m : Nat) : Int) := u32_xor_nat 4294967295 m (by omega) hm
      have e2 : T = m := by rw [← H.out, List.drop_eq_nil_of_le (by omega)]; rfl
      refine ⟨rfl, ?_⟩
      show Ending.returned (.int .u32 (bits .xor .u32 IntKind.u32.max (m : Int))) = _
      rw [e1, e2, Nat.xor_comm]
set_option maxRecDepth 100000 in
set_option maxHeartbeats 1000000 in
theorem rsum_any (A : Option Addr) (l : List UInt8) (cp : Nat) (w : World) (B : Nat) (h : RB w B A l) (hl : l.length ≤ maxLen) :
    Calls Tryd.prog 23 #[.slice A l.length cp] w fun e w' => w = w' ∧ e = .returned (.int .u32 (crc l : Nat)) := by
  unfold maxLen at hl
  unfold crc
  obtain ⟨T, hT⟩ : ∃ T, crcF l 4294967295 = T := ⟨_, rfl⟩
  have HT := Lib.hid hT
  rw [hT]; clear hT
  go_enter Tryd.func23, Tryd.ntmps23
  go_wp2
  go_loopg [3, 4] l.length (fun k c i wr => w = wr ∧ ∃ (j : Nat) (m : Nat), j + k = l.length ∧ c = .int .u32 m ∧ i = .int .i64 j ∧ m < 4294967296 ∧ Hid (crcF (l.drop j) m = T))
  case atStart => exact ⟨rfl, 0, 4294967295, by omega, rfl, rfl, by omega, HT⟩
  case round =>
    obtain ⟨rfl, j, m, hj, rfl, rfl, hm, H⟩ := hrel
    by_cases hlt : j < l.length
    · obtain ⟨c, hc1, hc2⟩ := drop_bt hlt
      obtain ⟨b, off, rfl, hB, hcell⟩ := h.at_ hlt
      have cj := hcell j hlt
      rw [← hc2] at cj
      rw [hc1, crcF] at H
      have hx := xor32 hm (show c.toNat < 4294967296 by have := c.toNat_lt; omega)
      have hc3 := c.toNat_lt
      clear hcell h hc1 hc2
      have hj2 : (j : Int) < (l.length : Int) := by omega
      have hxe := u32_xor_nat m c.toNat hm (by omega)
      generalize hy : m ^^^ c.toNat = y at *
      clear hy
      go_wp2
      go_loopg [3, 5] 8 (fun k c i wr => w = wr ∧ ∃ (d : Nat), c = .int .u32 d ∧ i = .int .i64 (8 - (k : Int)) ∧ k ≤ 8 ∧ d < 4294967296 ∧ Hid (gits k d = gits 8 y))
      case atStart => exact ⟨rfl, y, rfl, rfl, by omega, hx, Lib.hid rfl⟩
      case round =>
        obtain ⟨rfl, d, rfl, rfl, hk, hd, H2⟩ := hrel
        by_cases hz : gk = 0
        · subst hz
          go_wp2
          go_roundg (l.length - (j + 1))
          case rel =>
            go_light
            have e : d = gits 8 y := H2.out
            rw [← e] at H
            exact ⟨rfl, j + 1, d, by omega, rfl, by go_num, hd, H⟩
          case measure => omega
        · have hxe2 := u32_xor_nat (d / 2) 3988292384 (by omega) (by omega)
          have hgd : Hid (gbit d = _) := Lib.hid (by unfold gbit; rfl)
          go_wp2
          all_goals
            go_roundg (gk - 1)
            case rel =>
              go_light
              refine ⟨rfl, gbit d, ?_, congrArg _ (by omega), by omega, gbit_lt hd, ?_⟩
              · rw [hgd.out]
                split
                · first
                  | (exfalso; simp at *; omega)
                  | (rw [← hxe2]; congr 1)
                · first
                  | (exfalso; simp at *; omega)
                  | (congr 1)
              · unfold Hid
                rw [← H2.out]
                conv => rhs; rw [show gk = gk - 1 + 1 by omega]
                rfl
            case measure => omega
    · go_wp2
      go_ret
      have e1 := u32_xor_nat m 4294967295 hm (by omega)
      have e2 : T = m := by rw [← H.out, List.drop_eq_nil_of_le (by omega)]; rfl
      refine ⟨rfl, ?_⟩
      rw [e2, ← e1]
      rfl
end Go.Proofs.YtfnhaddgdfkmcaaDoor
