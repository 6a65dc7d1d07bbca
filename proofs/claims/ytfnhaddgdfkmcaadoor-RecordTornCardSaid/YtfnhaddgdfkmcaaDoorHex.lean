/-
  The walks of FormatUint at base 16, of Hex of both. No condition but the sizes that the form gives.
-/
import Derived.Test.YtfnhaddgdfkmcaaDoorProg
import Derived.Test.YtfnhaddgdfkmcaaDoorLib
import Derived.Test.YtfnhaddgdfkmcaaDoorApp
import Derived.Test.YtfnhaddgdfkmcaaDoorBlk
import Derived.Lib.Strings
namespace Go.Proofs.YtfnhaddgdfkmcaaDoor
open Go.RowKit
set_option linter.unusedVariables false

/-- a digit of base sixteen -/
def hdg (d : Nat) : UInt8 := if d < 10 then UInt8.ofNat (48 + d) else UInt8.ofNat (87 + d)
def hexD (u : Nat) : List UInt8 := if u < 16 then [hdg u] else hexD (u / 16) ++ [hdg (u % 16)]
termination_by u
decreasing_by omega

theorem hexD_len : ∀ (k u : Nat), u < 16 ^ (k + 1) → (hexD u).length ≤ k + 1
  | 0, u, h => by rw [hexD, if_pos (by omega)]; simp
  | k + 1, u, h => by
    rw [hexD]
    split
    · simp
    · rw [List.length_append]
      have := hexD_len k (u / 16) (by rw [Nat.pow_succ] at h; omega)
      simp
      omega
theorem and15 {x : Nat} (hx : x < 18446744073709551616) : bits .and .u64 (x : Int) 15 = ((x % 16 : Nat) : Int) := by
  rw [show (15 : Int) = ((15 : Nat) : Int) from rfl, u64_and_nat x 15 hx (by omega), show (15 : Nat) = 2 ^ 4 - 1 from rfl, Nat.and_two_pow_sub_one_eq_mod]
def dgs36 : Array UInt8 := #[48, 49, 50, 51, 52, 53, 54, 55, 56, 57, 97, 98, 99, 100, 101, 102, 103, 104, 105, 106, 107, 108, 109, 110, 111, 112, 113, 114, 115, 116, 117, 118, 119, 120, 121, 122]
theorem dgs36_fin : ∀ d : Fin 16, dgs36[d.val]? = some (hdg d.val) := by decide +kernel
theorem dgs36_at {d : Nat} (h : d < ((⟨#[48, 49, 50, 51, 52, 53, 54, 55, 56, 57, 97, 98, 99, 100, 101, 102, 103, 104, 105, 106, 107, 108, 109, 110, 111, 112, 113, 114, 115, 116, 117, 118, 119, 120, 121, 122]⟩ : ByteArray).size)) (hd : d < 16) : (⟨#[48, 49, 50, 51, 52, 53, 54, 55, 56, 57, 97, 98, 99, 100, 101, 102, 103, 104, 105, 106, 107, 108, 109, 110, 111, 112, 113, 114, 115, 116, 117, 118, 119, 120, 121, 122]⟩ : ByteArray)[d]'h = hdg d := by
  have := dgs36_fin ⟨d, hd⟩
  rw [Array.getElem?_eq_some_iff] at this
  exact this.2
theorem hexD_big {u : Nat} (h : 16 ≤ u) : hexD u = hexD (u / 16) ++ [hdg (u % 16)] := by rw [hexD, if_neg (by omega)]
theorem hexD_small {u : Nat} (h : u < 16) : hexD u = [hdg u] := by rw [hexD, if_pos h]
theorem u8i : ∃ i, Tryd.prog.info? 5 = some i ∧ i.zero = some (.int .u8 0) ∧ i.size = 1 ∧ i.bytes = 1 := info_parts (by kernel_rfl)
theorem pow2_16 (w : World) : Calls Tryd.prog 85 #[.int .i64 16] w fun e w' => w = w' ∧ e = .returned (.bool true) := by
  go_enter Tryd.func85, Tryd.ntmps85
  go_wp2
  go_ret
  exact ⟨rfl, rfl⟩
theorem tzc : IntKind.u64.wrap (bits .and .u64 16 (IntKind.u64.wrap (-16)) * 285870213051353865) / 288230376151711744 = 15 := by decide +kernel
theorem tz16 (w : World) (htab : w.cell? ⟨5, 15, none⟩ = some (.int .u8 4)) :
    Calls Tryd.prog 86 #[.int .u64 16] w fun e w' => w = w' ∧ e = .returned (.int .i64 4) := by
  have hc := tzc
  go_enter Tryd.func86, Tryd.ntmps86
  go_wp2
  go_ret
  exact ⟨rfl, rfl⟩

set_option maxRecDepth 100000 in
set_option maxHeartbeats 1000000 in
theorem formatBits_16 (u : Nat) (w : World) (hu : u < 18446744073709551616) (htab : w.cell? ⟨5, 15, none⟩ = some (.int .u8 4)) (hg : 5 < w.heap.size) :
    Calls Tryd.prog 73 #[.slice none 0 0, .int .u64 u, .int .i64 16, .bool false, .bool false] w fun e w' => Below w.heap.size w w' ∧
      e = .returned (.tuple #[.slice none 0 0, .string ⟨(hexD u).toArray⟩]) := by
  have hTl := hexD_len 15 u (by omega)
  obtain ⟨T, hT⟩ : ∃ T, hexD u = T := ⟨_, rfl⟩
  have HT := Lib.hid hT
  rw [hT] at hTl ⊢; clear hT
  have h1 := Lib.hid pow2_16
  have h2 := Lib.hid tz16
  go_enter Tryd.func73, Tryd.ntmps73
  go_wp2_with fail
  refine (h1.out _).mono ?_
  rintro e w1 ⟨rfl, rfl⟩
  go_wp2_with fail
  refine (h2.out _ (by rw [World.cell?_alloc_lt _ _ _ hg]; exact htab)).mono ?_
  rintro e w1 ⟨rfl, rfl⟩
  go_wp2_with fail
  go_loopg [1, 13] u (fun k v i wr => Below w.heap.size w wr ∧ ∃ (j : Nat) (cs : Array Value) (sfx : List UInt8), v = .int .u64 k ∧ i = .int .i64 j ∧ Blk wr w.heap.size 108 cs ∧ cs.size = 65 ∧ j + sfx.length = 65 ∧ k < 18446744073709551616 ∧
      Hid (cs.toList.drop j = Lib.byteCells sfx) ∧ Hid (hexD k ++ sfx = T))
  case atStart => exact ⟨(Below.refl _ _).alloc (Nat.le_refl _) _, 65, Tryd.zeroCells108, [], rfl, rfl, Blk.new _ _ _, rfl, rfl, hu, Lib.hid rfl, Lib.hid (by rw [List.append_nil]; exact HT.out)⟩
  case round =>
    obtain ⟨hb, j, cs, sfx, rfl, rfl, hblk, hcs, hj, hx, H1, H2⟩ := hrel
    have hl1 := congrArg List.length H2.out
    rw [List.length_append] at hl1
    have hand : bits .and .u64 (gk : Int) 15 = ((gk % 16 : Nat) : Int) := and15 hx
    have hm : gk % 16 < 16 := Nat.mod_lt _ (by omega)
    have hj1 : 1 ≤ j := by omega
    have hj2 : j ≤ 65 := by omega
    by_cases hlt : 16 ≤ gk
    · generalize hd : gk % 16 = d at *
      have HD := Lib.hid hd; clear hd
      have HB := Lib.hid hblk
      obtain ⟨v0, hv0⟩ : ∃ v, wr.cell? ⟨w.heap.size, j - 1, none⟩ = some v := ⟨cs[j - 1]'(by omega), by rw [hblk.cell, Array.getElem?_eq_getElem (by omega)]⟩
      have hfr := hblk.frozen (j - 1)
      clear hblk hl1
      go_wp2
      go_roundg (gk / 16)
      case rel =>
        refine ⟨?_, j - 1, _, hdg d :: sfx, ?_, ?_, HB.out.set_ _ _, ?_, ?_, ?_, ?_, ?_⟩
        all_goals go_light
        · exact hb.setCell (Nat.le_refl _) _
        · congr 1
        · congr 1; omega
        · rw [Array.size_setIfInBounds]; exact hcs
        · simp only [List.length_cons]; omega
        · omega
        · unfold Hid
          rw [drop_set _ _ _ (by omega), show j - 1 + 1 = j by omega, H1.out, dgs36_at _ hm]
          rfl
        · unfold Hid
          rw [← H2.out, hexD_big hlt, HD.out, List.append_assoc]
          rfl
      case measure => omega
    · have HB := Lib.hid hblk
      obtain ⟨v0, hv0⟩ : ∃ v, wr.cell? ⟨w.heap.size, j - 1, none⟩ = some v := ⟨cs[j - 1]'(by omega), by rw [hblk.cell, Array.getElem?_eq_getElem (by omega)]⟩
      have hfr := hblk.frozen (j - 1)
      clear hblk hl1 hand hm
      have hj3 : ¬ (65 : Nat) = j - 1 := by omega
      have hsl := run_sliceAt_lo (P := Tryd.prog) 108 5 65 Tryd.underlying108 ⟨_, u8i.choose_spec.1, u8i.choose_spec.2.2.1⟩ w.heap.size (j - 1) ((j : Int) - 1) .i64 (by omega) (by omega)
      have hcv : ∀ (x : Value), Hid (x = .int .u8 ((hdg gk).toNat : Int)) → (convert 23 9 (.slice (some ⟨w.heap.size, j - 1, none⟩) (65 - (j - 1)) (65 - (j - 1)))).run Tryd.prog (wr.setCell ⟨w.heap.size, j - 1, none⟩ x) = .ok (.string ⟨(hdg gk :: sfx).toArray⟩) (wr.setCell ⟨w.heap.size, j - 1, none⟩ x) := by
        intro x hx
        refine run_convRB _ _ 5 Tryd.underlying23 Tryd.underlying5 Tryd.underlying9 (Blk.rb (HB.out.set_ (j - 1) x) (j - 1) (l := hdg gk :: sfx) ?_ (Nat.lt_succ_self _)) _ _ (by simp only [List.length_cons]; omega)
        rw [drop_set _ _ _ (by omega), show j - 1 + 1 = j by omega, H1.out, hx.out]
        rfl
      have hx := hcv _ (Lib.hid (show _ = Value.int .u8 ((hdg gk).toNat : Int) from congrArg (fun c : UInt8 => Value.int .u8 (c.toNat : Int)) (dgs36_at (d := gk) (by show gk < 36; omega) (by omega))))
      clear hcv
      go_wp2
      go_ret2
      go_light
      refine ⟨hb.setCell (Nat.le_refl _) _, ?_⟩
      rw [← H2.out, hexD_small (by omega)]
      rfl

theorem formatUint_16 (u : Nat) (w : World) (hu : u < 18446744073709551616) (htab : w.cell? ⟨5, 15, none⟩ = some (.int .u8 4)) (hg : 5 < w.heap.size) :
    Calls Tryd.prog 49 #[.int .u64 u, .int .i64 16] w fun e w' => Below w.heap.size w w' ∧ e = .returned (.string ⟨(hexD u).toArray⟩) := by
  have h1 := Lib.hid (formatBits_16 u w hu htab hg)
  go_enter Tryd.func49, Tryd.ntmps49
  go_wp2_with fail
  go_in
  go_wp2_with fail
  refine h1.out.mono ?_
  rintro e w1 ⟨hb, rfl⟩
  go_wp2
  go_ret
  exact ⟨hb, rfl⟩

/-- eight digits -/
def hex8 (n : Nat) : List UInt8 := List.replicate (8 - (hexD n).length) 48 ++ hexD n
def hexK : Nat → Nat → List UInt8
  | 0, _ => []
  | k + 1, n => hexK k (n / 16) ++ [hdg (n % 16)]
theorem hexK_zero : ∀ k, hexK k 0 = List.replicate k 48
  | 0 => rfl
  | k + 1 => by
    rw [hexK, hexK_zero k, List.replicate_succ']
    rfl
theorem hexK_eq : ∀ (k n : Nat), 0 < k → n < 16 ^ k → hexK k n = List.replicate (k - (hexD n).length) 48 ++ hexD n
  | k + 1, n, _, h => by
    rw [hexK]
    by_cases hn : n < 16
    · rw [hexD_small hn, show n / 16 = 0 by omega, hexK_zero, show n % 16 = n by omega]
      rfl
    · have hk : 0 < k := by
        rcases Nat.eq_zero_or_pos k with h0 | h0
        · subst h0; omega
        · exact h0
      rw [hexK_eq k (n / 16) hk (by rw [Nat.pow_succ] at h; omega), hexD_big (u := n) (by omega), List.length_append, List.length_singleton, Nat.add_sub_add_right, List.append_assoc]
theorem hexD_pos (u : Nat) : 1 ≤ (hexD u).length := by
  rw [hexD]; split <;> simp

set_option maxHeartbeats 1000000 in
theorem hex_any (n : Nat) (w : World) (hn : n < 4294967296) (htab : w.cell? ⟨5, 15, none⟩ = some (.int .u8 4)) (hg : 5 < w.heap.size) :
    Calls Tryd.prog 25 #[.int .u32 n] w fun e w' => Below w.heap.size w w' ∧ e = .returned (.string ⟨(hex8 n).toArray⟩) := by
  have h1 := Lib.hid (formatUint_16 n w (by omega) htab hg)
  have hl := hexD_len 7 n (by omega)
  have hl0 := hexD_pos n
  unfold hex8
  generalize hexD n = T at *
  obtain ⟨s, hs⟩ : ∃ s : ByteArray, s = ⟨T.toArray⟩ := ⟨_, rfl⟩
  have hsz : s.size = T.length := by rw [hs]; rfl
  have HS := Lib.hid hs
  rw [← hs] at h1
  clear hs
  have h2 : s.size ≤ 8 := by omega
  have HZ := Lib.hid hsz; clear hsz
  go_enter Tryd.func25, Tryd.ntmps25
  go_wp2_with (go_at_call 49; refine h1.out.mono ?_; rintro e w1 ⟨hb, rfl⟩)
  go_ret
  refine ⟨hb, ?_⟩
  refine ret_str ?_
  have hsT : s.data.toList = T := by rw [HS.out]
  rw [app_list, Lib.extract_data, hsT, ← HZ.out]
  congr 1
  have key : ∀ m : Fin 9, (List.take (8 - m.val) (List.drop m.val [48, 48, 48, 48, 48, 48, 48, 48]) : List UInt8) = List.replicate (8 - m.val) 48 := by decide +kernel
  exact key ⟨s.size, by omega⟩

theorem hexdig_fin : ∀ d : Fin 16, ((⟨#[48, 49, 50, 51, 52, 53, 54, 55, 56, 57, 97, 98, 99, 100, 101, 102]⟩ : ByteArray).data[d.val]?) = some (hdg d.val) := by decide +kernel
theorem hexdig_at {d : Nat} (h : d < (⟨#[48, 49, 50, 51, 52, 53, 54, 55, 56, 57, 97, 98, 99, 100, 101, 102]⟩ : ByteArray).size) : (⟨#[48, 49, 50, 51, 52, 53, 54, 55, 56, 57, 97, 98, 99, 100, 101, 102]⟩ : ByteArray)[d]'h = hdg d := by
  have := hexdig_fin ⟨d, h⟩
  rw [Array.getElem?_eq_some_iff] at this
  exact this.2

set_option maxHeartbeats 1000000 in
theorem rhex_any (n : Nat) (w : World) (hn : n < 4294967296) :
    Calls Tryd.prog 22 #[.int .u32 n] w fun e w' => Below w.heap.size w w' ∧ e = .returned (.string ⟨(hex8 n).toArray⟩) := by
  have hE : hexK 8 n = hex8 n := hexK_eq 8 n (by omega) (by omega)
  obtain ⟨T, hT⟩ : ∃ T, hex8 n = T := ⟨_, rfl⟩
  have HT := Lib.hid (hE.trans hT)
  rw [hT]; clear hT hE
  have hmk : ∀ w, (Instr.makeSlice 23 (.int .i64 8) (.int .i64 8)).run Tryd.prog w = .ok (.slice (some ⟨w.heap.size, 0, none⟩) 8 8) (w.alloc (.cells #[.int .u8 0, .int .u8 0, .int .u8 0, .int .u8 0, .int .u8 0, .int .u8 0, .int .u8 0, .int .u8 0] 5)) := fun _ => by kernel_rfl
  go_enter Tryd.func22, Tryd.ntmps22
  go_wp2
  go_loopg [0, 5] 9 (fun k v i wr => Below w.heap.size w wr ∧ ∃ (x : Nat) (cs : Array Value) (sfx : List UInt8), v = .int .u32 x ∧ i = .int .i64 ((k : Int) - 2) ∧ 1 ≤ k ∧ k ≤ 9 ∧ Blk wr w.heap.size 5 cs ∧ cs.size = 8 ∧ sfx.length + k = 9 ∧ x < 4294967296 ∧
      Hid (cs.toList.drop (k - 1) = Lib.byteCells sfx) ∧ Hid (hexK (k - 1) x ++ sfx = T))
  case atStart => exact ⟨(Below.refl _ _).alloc (Nat.le_refl _) _, n, _, [], rfl, rfl, by omega, by omega, Blk.new _ _ _, rfl, rfl, hn, Lib.hid rfl, Lib.hid (by rw [List.append_nil]; exact HT.out)⟩
  case round =>
    obtain ⟨hb, x, cs, sfx, rfl, rfl, hk1, hk9, hblk, hcs, hj, hx, H1, H2⟩ := hrel
    have HB := Lib.hid hblk
    by_cases hlt : 2 ≤ gk
    · obtain ⟨v0, hv0⟩ : ∃ v, wr.cell? ⟨w.heap.size, gk - 2, none⟩ = some v := ⟨cs[gk - 2]'(by omega), by rw [hblk.cell, Array.getElem?_eq_getElem (by omega)]⟩
      have hfr := hblk.frozen (gk - 2)
      clear hblk
      go_wp2
      go_roundg (gk - 1)
      case rel =>
        refine ⟨?_, x / 16, _, hdg (x % 16) :: sfx, ?_, ?_, by omega, by omega, HB.out.set_ _ _, ?_, ?_, ?_, ?_, ?_⟩
        all_goals go_light
        · exact hb.setCell (Nat.le_refl _) _
        · congr 1
        · congr 1; omega
        · rw [Array.size_setIfInBounds]; exact hcs
        · simp only [List.length_cons]; omega
        · omega
        · unfold Hid
          rw [show gk - 1 - 1 = gk - 2 by omega, drop_set _ _ _ (by omega), show gk - 2 + 1 = gk - 1 by omega, H1.out, hexdig_at]
          rfl
        · unfold Hid
          rw [← H2.out]
          conv => rhs; rw [show gk - 1 = gk - 1 - 1 + 1 by omega, hexK, List.append_assoc]
          rfl
      case measure => omega
    · obtain rfl : gk = 1 := by omega
      have hcv := run_convRB (P := Tryd.prog) 23 9 5 Tryd.underlying23 Tryd.underlying5 Tryd.underlying9 (Blk.rb hblk 0 (l := sfx) H1.out (Nat.lt_succ_self _)) 8 8 (by omega)
      clear hblk
      go_wp2
      go_ret
      refine ⟨hb, ?_⟩
      rw [← H2.out]
      rfl
end Go.Proofs.YtfnhaddgdfkmcaaDoor
