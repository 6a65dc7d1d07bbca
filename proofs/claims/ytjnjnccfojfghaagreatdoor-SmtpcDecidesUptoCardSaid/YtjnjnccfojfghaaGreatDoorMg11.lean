/-
  Several texts in one: Hex, ScLong. Conditions: each part names its own.
-/
import Derived.Test.YtjnjnccfojfghaaGreatDoorProg
import Derived.Test.YtjnjnccfojfghaaGreatDoorMg1
import Derived.Lib.Strings
import Derived.Test.YtjnjnccfojfghaaGreatDoorMg8
import Derived.Test.YtjnjnccfojfghaaGreatDoorMg9
import Derived.Test.YtjnjnccfojfghaaGreatDoorMg4
import Derived.Deep.RegionHeld3
set_option linter.unusedSimpArgs false
/-! The walks of FormatUint at base 16, of Hex of both. No condition but the sizes that the form gives. -/
namespace Go.Proofs.YtjnjnccfojfghaaGreatDoor
open Go.RowKit
set_option linter.unusedVariables false

/-- a digit of base sixteen -/
def hdg (d : Nat) : UInt8 := if d < 10 then UInt8.ofNat (48 + d) else UInt8.ofNat (87 + d)
def hexD (u : Nat) : List UInt8 := if u < 16 then [hdg u] else hexD (u / 16) ++ [hdg (u % 16)]
termination_by u
decreasing_by omega

theorem hexD_len : ∀ (k u : Nat), u < 16 ^ (k + 1) → (hexD u).length ≤ k + 1
  | 0, u, h => by rw [hexD, if_pos (by omega)]; simp
  | k + 1, u, h => by
    rw [hexD]
    split
    · simp
    · rw [List.length_append]
      have := hexD_len k (u / 16) (by rw [Nat.pow_succ] at h; omega)
      simp
      omega
theorem and15 {x : Nat} (hx : x < 18446744073709551616) : bits .and .u64 (x : Int) 15 = ((x % 16 : Nat) : Int) := by
  rw [show (15 : Int) = ((15 : Nat) : Int) from rfl, u64_and_nat x 15 hx (by omega), show (15 : Nat) = 2 ^ 4 - 1 from rfl, Nat.and_two_pow_sub_one_eq_mod]
def dgs36 : Array UInt8 := #[48, 49, 50, 51, 52, 53, 54, 55, 56, 57, 97, 98, 99, 100, 101, 102, 103, 104, 105, 106, 107, 108, 109, 110, 111, 112, 113, 114, 115, 116, 117, 118, 119, 120, 121, 122]
theorem dgs36_fin : ∀ d : Fin 16, dgs36[d.val]? = some (hdg d.val) := by decide +kernel
theorem dgs36_at {d : Nat} (h : d < ((⟨#[48, 49, 50, 51, 52, 53, 54, 55, 56, 57, 97, 98, 99, 100, 101, 102, 103, 104, 105, 106, 107, 108, 109, 110, 111, 112, 113, 114, 115, 116, 117, 118, 119, 120, 121, 122]⟩ : ByteArray).size)) (hd : d < 16) : (⟨#[48, 49, 50, 51, 52, 53, 54, 55, 56, 57, 97, 98, 99, 100, 101, 102, 103, 104, 105, 106, 107, 108, 109, 110, 111, 112, 113, 114, 115, 116, 117, 118, 119, 120, 121, 122]⟩ : ByteArray)[d]'h = hdg d := by
  have := dgs36_fin ⟨d, hd⟩
  rw [Array.getElem?_eq_some_iff] at this
  exact this.2
theorem hexD_big {u : Nat} (h : 16 ≤ u) : hexD u = hexD (u / 16) ++ [hdg (u % 16)] := by rw [hexD, if_neg (by omega)]
theorem hexD_small {u : Nat} (h : u < 16) : hexD u = [hdg u] := by rw [hexD, if_pos h]
theorem u8i : ∃ i, Tryz.prog.info? 5 = some i ∧ i.zero = some (.int .u8 0) ∧ i.size = 1 ∧ i.bytes = 1 := info_parts (by kernel_rfl)
theorem pow2_16 (w : World) : Calls Tryz.prog 209 #[.int .i64 16] w fun e w' => w = w' ∧ e = .returned (.bool true) := by
  go_enter Tryz.func209, Tryz.ntmps209
  go_wp2
  go_ret
  exact ⟨rfl, rfl⟩
theorem tzc : IntKind.u64.wrap (bits .and .u64 16 (IntKind.u64.wrap (-16)) * 285870213051353865) / 288230376151711744 = 15 := by decide +kernel
theorem tz16 (w : World) (htab : w.cell? ⟨7, 15, none⟩ = some (.int .u8 4)) :
    Calls Tryz.prog 210 #[.int .u64 16] w fun e w' => w = w' ∧ e = .returned (.int .i64 4) := by
  have hc := tzc
  go_enter Tryz.func210, Tryz.ntmps210
  go_wp2
  go_ret
  exact ⟨rfl, rfl⟩

set_option maxRecDepth 100000 in
set_option maxHeartbeats 1000000 in
theorem formatBits_16 (u : Nat) (w : World) (hu : u < 18446744073709551616) (htab : w.cell? ⟨7, 15, none⟩ = some (.int .u8 4)) (hg : 7 < w.heap.size) :
    Calls Tryz.prog 188 #[.slice none 0 0, .int .u64 u, .int .i64 16, .bool false, .bool false] w fun e w' => Below w.heap.size w w' ∧
      e = .returned (.tuple #[.slice none 0 0, .string ⟨(hexD u).toArray⟩]) := by
  have hTl := hexD_len 15 u (by omega)
  obtain ⟨T, hT⟩ : ∃ T, hexD u = T := ⟨_, rfl⟩
  have HT := Lib.hid hT
  rw [hT] at hTl ⊢; clear hT
  have h1 := Lib.hid pow2_16
  have h2 := Lib.hid tz16
  go_enter Tryz.func188, Tryz.ntmps188
  go_wp2_with fail
  refine (h1.out _).mono ?_
  rintro e w1 ⟨rfl, rfl⟩
  go_wp2_with fail
  refine (h2.out _ (by rw [World.cell?_alloc_lt _ _ _ hg]; exact htab)).mono ?_
  rintro e w1 ⟨rfl, rfl⟩
  go_wp2_with fail
  go_loopg [1, 13] u (fun k v i wr => Below w.heap.size w wr ∧ ∃ (j : Nat) (cs : Array Value) (sfx : List UInt8), v = .int .u64 k ∧ i = .int .i64 j ∧ Blk wr w.heap.size 215 cs ∧ cs.size = 65 ∧ j + sfx.length = 65 ∧ k < 18446744073709551616 ∧
      Hid (cs.toList.drop j = Lib.byteCells sfx) ∧ Hid (hexD k ++ sfx = T))
  case atStart => exact ⟨(Below.refl _ _).alloc (Nat.le_refl _) _, 65, Tryz.zeroCells215, [], rfl, rfl, Blk.new _ _ _, rfl, rfl, hu, Lib.hid rfl, Lib.hid (by rw [List.append_nil]; exact HT.out)⟩
  case round =>
    obtain ⟨hb, j, cs, sfx, rfl, rfl, hblk, hcs, hj, hx, H1, H2⟩ := hrel
    have hl1 := congrArg List.length H2.out
    rw [List.length_append] at hl1
    have hand : bits .and .u64 (gk : Int) 15 = ((gk % 16 : Nat) : Int) := and15 hx
    have hm : gk % 16 < 16 := Nat.mod_lt _ (by omega)
    have hj1 : 1 ≤ j := by omega
    have hj2 : j ≤ 65 := by omega
    by_cases hlt : 16 ≤ gk
    · generalize hd : gk % 16 = d at *
      have HD := Lib.hid hd; clear hd
      have HB := Lib.hid hblk
      obtain ⟨v0, hv0⟩ : ∃ v, wr.cell? ⟨w.heap.size, j - 1, none⟩ = some v := ⟨cs[j - 1]'(by omega), by rw [hblk.cell, Array.getElem?_eq_getElem (by omega)]⟩
      have hfr := hblk.frozen (j - 1)
      clear hblk hl1
      go_wp2
      go_roundg (gk / 16)
      case rel =>
        refine ⟨?_, j - 1, _, hdg d :: sfx, ?_, ?_, HB.out.set_ _ _, ?_, ?_, ?_, ?_, ?_⟩
        all_goals go_light
        · exact hb.setCell (Nat.le_refl _) _
        · congr 1
        · congr 1; omega
        · rw [Array.size_setIfInBounds]; exact hcs
        · simp only [List.length_cons]; omega
        · omega
        · unfold Hid
          rw [drop_set _ _ _ (by omega), show j - 1 + 1 = j by omega, H1.out, dgs36_at _ hm]
          rfl
        · unfold Hid
          rw [← H2.out, hexD_big hlt, HD.out, List.append_assoc]
          rfl
      case measure => omega
    · have HB := Lib.hid hblk
      obtain ⟨v0, hv0⟩ : ∃ v, wr.cell? ⟨w.heap.size, j - 1, none⟩ = some v := ⟨cs[j - 1]'(by omega), by rw [hblk.cell, Array.getElem?_eq_getElem (by omega)]⟩
      have hfr := hblk.frozen (j - 1)
      clear hblk hl1 hand hm
      have hj3 : ¬ (65 : Nat) = j - 1 := by omega
      have hsl := run_sliceAt_lo (P := Tryz.prog) 215 5 65 Tryz.underlying215 ⟨_, u8i.choose_spec.1, u8i.choose_spec.2.2.1⟩ w.heap.size (j - 1) ((j : Int) - 1) .i64 (by omega) (by omega)
      have hcv : ∀ (x : Value), Hid (x = .int .u8 ((hdg gk).toNat : Int)) → (convert 25 9 (.slice (some ⟨w.heap.size, j - 1, none⟩) (65 - (j - 1)) (65 - (j - 1)))).run Tryz.prog (wr.setCell ⟨w.heap.size, j - 1, none⟩ x) = .ok (.string ⟨(hdg gk :: sfx).toArray⟩) (wr.setCell ⟨w.heap.size, j - 1, none⟩ x) := by
        intro x hx
        refine run_convRB _ _ 5 Tryz.underlying25 Tryz.underlying5 Tryz.underlying9 (Blk.rb (HB.out.set_ (j - 1) x) (j - 1) (l := hdg gk :: sfx) ?_ (Nat.lt_succ_self _)) _ _ (by simp only [List.length_cons]; omega)
        rw [drop_set _ _ _ (by omega), show j - 1 + 1 = j by omega, H1.out, hx.out]
        rfl
      have hx := hcv _ (Lib.hid (show _ = Value.int .u8 ((hdg gk).toNat : Int) from congrArg (fun c : UInt8 => Value.int .u8 (c.toNat : Int)) (dgs36_at (d := gk) (by show gk < 36; omega) (by omega))))
      clear hcv
      go_wp2
      go_ret2
      go_light
      refine ⟨hb.setCell (Nat.le_refl _) _, ?_⟩
      rw [← H2.out, hexD_small (by omega)]
      rfl

theorem formatUint_16 (u : Nat) (w : World) (hu : u < 18446744073709551616) (htab : w.cell? ⟨7, 15, none⟩ = some (.int .u8 4)) (hg : 7 < w.heap.size) :
    Calls Tryz.prog 114 #[.int .u64 u, .int .i64 16] w fun e w' => Below w.heap.size w w' ∧ e = .returned (.string ⟨(hexD u).toArray⟩) := by
  have h1 := Lib.hid (formatBits_16 u w hu htab hg)
  go_enter Tryz.func114, Tryz.ntmps114
  go_wp2_with fail
  go_in
  go_wp2_with fail
  refine h1.out.mono ?_
  rintro e w1 ⟨hb, rfl⟩
  go_wp2
  go_ret
  exact ⟨hb, rfl⟩

/-- eight digits -/
def hex8 (n : Nat) : List UInt8 := List.replicate (8 - (hexD n).length) 48 ++ hexD n
def hexK : Nat → Nat → List UInt8
  | 0, _ => []
  | k + 1, n => hexK k (n / 16) ++ [hdg (n % 16)]
theorem hexK_zero : ∀ k, hexK k 0 = List.replicate k 48
  | 0 => rfl
  | k + 1 => by
    rw [hexK, hexK_zero k, List.replicate_succ']
    rfl
theorem hexK_eq : ∀ (k n : Nat), 0 < k → n < 16 ^ k → hexK k n = List.replicate (k - (hexD n).length) 48 ++ hexD n
  | k + 1, n, _, h => by
    rw [hexK]
    by_cases hn : n < 16
    · rw [hexD_small hn, show n / 16 = 0 by omega, hexK_zero, show n % 16 = n by omega]
      rfl
    · have hk : 0 < k := by
        rcases Nat.eq_zero_or_pos k with h0 | h0
        · subst h0; omega
        · exact h0
      rw [hexK_eq k (n / 16) hk (by rw [Nat.pow_succ] at h; omega), hexD_big (u := n) (by omega), List.length_append, List.length_singleton, Nat.add_sub_add_right, List.append_assoc]
theorem hexD_pos (u : Nat) : 1 ≤ (hexD u).length := by
  rw [hexD]; split <;> simp

theorem hexdig_fin : ∀ d : Fin 16, ((⟨#[48, 49, 50, 51, 52, 53, 54, 55, 56, 57, 97, 98, 99, 100, 101, 102]⟩ : ByteArray).data[d.val]?) = some (hdg d.val) := by decide +kernel
theorem hexdig_at {d : Nat} (h : d < (⟨#[48, 49, 50, 51, 52, 53, 54, 55, 56, 57, 97, 98, 99, 100, 101, 102]⟩ : ByteArray).size) : (⟨#[48, 49, 50, 51, 52, 53, 54, 55, 56, 57, 97, 98, 99, 100, 101, 102]⟩ : ByteArray)[d]'h = hdg d := by
  have := hexdig_fin ⟨d, h⟩
  rw [Array.getElem?_eq_some_iff] at this
  exact this.2

end Go.Proofs.YtjnjnccfojfghaaGreatDoor

/-! The walk of cidr.long. Condition: what the tables hold. -/
namespace Go.Proofs.YtjnjnccfojfghaaGreatDoor
open Go.RowKit
set_option linter.unusedVariables false
def gvM (a : Tx) (i : Nat) : Tx := hexD ((a.getD (2 * i) 0).toNat * 256 + (a.getD (2 * i + 1) 0).toNat)
def strC (L : List Tx) : Array Value := (L.map (fun x => Value.string (bs x))).toArray
def hexG (a : Tx) : List Tx := (List.range 8).map (gvM a)
def doneG (a : Tx) (j : Nat) : List Tx := (List.range j).map (gvM a) ++ List.replicate (8 - j) []
theorem doneG_set (a : Tx) {j : Nat} (h : j < 8) : (doneG a j).set j (gvM a j) = doneG a (j + 1) := by
  have hl : ((List.range j).map (gvM a)).length = j := by simp
  unfold doneG
  rw [List.set_append_right _ _ (by omega), hl, Nat.sub_self, List.range_succ]
  obtain ⟨m, hm⟩ : ∃ m, 8 - j = m + 1 := ⟨7 - j, by omega⟩
  rw [hm, show 8 - (j + 1) = m from by omega, List.replicate_succ]
  simp
theorem doneG_len (a : Tx) {j : Nat} (h : j ≤ 8) : (doneG a j).length = 8 := by unfold doneG; simp; omega
theorem strC_set (L : List Tx) (j : Nat) (x : Tx) : (strC L).setIfInBounds j (.string (bs x)) = strC (L.set j x) := by simp [strC, List.map_set]
theorem strC_at (L : List Tx) {j : Nat} {x : Tx} (h : L[j]? = some x) : (strC L)[j]? = some (.string (bs x)) := by simp [strC, h]
theorem doneG_end (a : Tx) : doneG a 8 = hexG a := by unfold doneG hexG; simp
theorem hexG_len (a : Tx) : (hexG a).length = 8 := by unfold hexG; simp
theorem hexG_small (a : Tx) : ∀ x ∈ hexG a, x.length ≤ 4 := by
  intro x hx
  unfold hexG at hx
  obtain ⟨i, _, rfl⟩ := List.mem_map.1 hx
  unfold gvM
  have h1 := (a.getD (2 * i) 0).toNat_lt
  have h2 := (a.getD (2 * i + 1) 0).toNat_lt
  exact hexD_len 3 _ (by omega)
def runAt (G : List Tx) (i : Nat) : Nat := ((G.drop i).takeWhile (· == [48])).length
theorem run_stop : ∀ {L : List Tx} {n : Nat}, n ≤ L.length → (∀ t, t < n → L[t]? = some [48]) → L[n]? ≠ some [48] → (L.takeWhile (· == [48])).length = n
  | [], n, h, _, _ => by simp at h; subst h; rfl
  | x :: r, 0, _, _, h2 => by
    have hx : ¬ x = [48] := fun e => h2 (by rw [e]; rfl)
    rw [List.takeWhile_cons, if_neg (by simpa using hx)]
    rfl
  | x :: r, n + 1, h, h1, h2 => by
    have hx : x = [48] := Option.some.inj (h1 0 (by omega))
    rw [List.takeWhile_cons, if_pos (by simpa using hx), List.length_cons]
    rw [run_stop (L := r) (n := n) (by simpa using h) (fun t ht => h1 (t + 1) (by omega)) (fun e => h2 e)]
theorem runAt_le (G : List Tx) (i : Nat) : runAt G i ≤ G.length - i := by
  unfold runAt
  have := (List.takeWhile_sublist (fun x : Tx => x == [48]) (l := G.drop i)).length_le
  rw [List.length_drop] at this
  exact this
def bestN (G : List Tx) : Nat → Nat × Nat
  | 0 => (0, 1)
  | j + 1 => if (bestN G j).2 < runAt G j then (j, runAt G j) else bestN G j
theorem bestN_le (G : List Tx) (h8 : G.length = 8) : ∀ j, j ≤ 8 → (bestN G j).1 + (bestN G j).2 ≤ 8 ∧ 1 ≤ (bestN G j).2
  | 0, _ => ⟨by show 0 + 1 ≤ 8; omega, Nat.le_refl 1⟩
  | j + 1, h => by
    have ih := bestN_le G h8 j (by omega)
    have hr := runAt_le G j
    unfold bestN
    by_cases hlt : (bestN G j).2 < runAt G j
    · rw [if_pos hlt]
      exact ⟨by show j + runAt G j ≤ 8; omega, by show 1 ≤ runAt G j; omega⟩
    · rw [if_neg hlt]; exact ih
def longG (G : List Tx) : Tx := if (bestN G 8).2 = 1 then Lib.join G [58] else Lib.join (G.take (bestN G 8).1) [58] ++ [58, 58] ++ Lib.join (G.drop ((bestN G 8).1 + (bestN G 8).2)) [58]
def longM (a : Tx) : Tx := longG (hexG a)
theorem join_len : ∀ L : List Tx, (∀ x ∈ L, x.length ≤ 4) → (Lib.join L [58]).length ≤ 5 * L.length
  | [], _ => by simp [Lib.join, List.intercalate]
  | [x], h => by
    have := h x (by simp)
    simp [Lib.join, List.intercalate]; omega
  | x :: y :: r, h => by
    have ih := join_len (y :: r) (fun z hz => h z (by simp [hz]))
    have hx := h x (by simp)
    have e : Lib.join (x :: y :: r) [58] = x ++ [58] ++ Lib.join (y :: r) [58] := by simp [Lib.join, List.intercalate, List.intersperse]
    rw [e, List.length_append, List.length_append, List.length_singleton, List.length_cons]
    omega
theorem bs_lists (L : List Tx) : (L.map bs).map (·.data.toList) = L := by
  rw [List.map_map]
  refine (List.map_congr_left fun x _ => ?_).trans (List.map_id L)
  exact bs_list x
theorem join_walk (L : List Tx) (g o c : Nat) (W : World) (h4 : ∀ x ∈ L, x.length ≤ 4) (h8 : L.length ≤ 8) (hc : L.length ≤ c) (hg : g < W.heap.size) (hcell : ∀ (j : Nat) x, L[j]? = some x → W.cell? ⟨g, o + j, none⟩ = some (.string (bs x))) :
    Calls Tryz.prog 115 #[.slice (some ⟨g, o, none⟩) L.length c, .string (bs [58])] W fun e w' => Below W.heap.size W w' ∧ e = .returned (.string (bs (Lib.join L [58]))) := by
  have hj := join_len L h4
  have h := Tryz.strings_Join g o c (L.map bs) (bs [58]) W (fun j x hx => by
    rw [List.getElem?_map] at hx
    obtain ⟨y, hy, rfl⟩ := Option.map_eq_some_iff.1 hx
    exact hcell j y hy) hg (by rw [List.length_map]; omega) (by rw [List.length_map]; exact hc) (by rw [bs_lists, bs_list]; omega)
  rw [bs_lists, bs_list, List.length_map] at h
  exact h.mono fun e w' ⟨h1, h2⟩ => ⟨h2, h1⟩
theorem run_slice8lo (g lo : Nat) (hlo : lo ≤ 8) : ∃ o, (lo < 8 → o = lo) ∧ ∀ W, (Instr.sliceAt 141 (.pointer (some ⟨g, 0, none⟩)) (some (.int .i64 (lo : Int))) none none).run Tryz.prog W = .ok (.slice (some ⟨g, o, none⟩) (8 - lo) (8 - lo)) W := by
  have h8 : (Tryz.prog.info? 9).map (·.size) = some 1 := by kernel_rfl
  obtain ⟨i, hi, hs⟩ := Option.map_eq_some_iff.1 h8
  by_cases h : lo < 8
  · have hne : ¬ 8 = lo := by omega
    have h1 : (lo : Int) ≤ 8 := by omega
    refine ⟨lo, fun _ => rfl, fun W => ?_⟩
    simp [Instr.sliceAt, Instr.sureAddr, run_underlying Tryz.underlying141, Instr.sliceBounds, run_sliceBound, sizeOf, typeInfo, hi, hs, hne, h1, Addr.add_lit]
  · obtain rfl : lo = 8 := by omega
    refine ⟨0, fun h => absurd h (by decide), fun W => ?_⟩
    simp [Instr.sliceAt, Instr.sureAddr, run_underlying Tryz.underlying141, Instr.sliceBounds, run_sliceBound, sizeOf, typeInfo, hi, hs]
theorem run_slice8hi (g hi : Nat) (hhi : hi ≤ 8) : ∀ W, (Instr.sliceAt 141 (.pointer (some ⟨g, 0, none⟩)) none (some (.int .i64 (hi : Int))) none).run Tryz.prog W = .ok (.slice (some ⟨g, 0, none⟩) hi 8) W := by
  have h8 : (Tryz.prog.info? 9).map (·.size) = some 1 := by kernel_rfl
  obtain ⟨i, hi2, hs⟩ := Option.map_eq_some_iff.1 h8
  have h1 : (hi : Int) ≤ 8 := by omega
  intro W
  simp [Instr.sliceAt, Instr.sureAddr, run_underlying Tryz.underlying141, Instr.sliceBounds, run_sliceBound, sizeOf, typeInfo, hi2, hs, h1, Addr.add_lit]
theorem run_slice8all (g : Nat) : ∀ W, (Instr.sliceAt 141 (.pointer (some ⟨g, 0, none⟩)) none none none).run Tryz.prog W = .ok (.slice (some ⟨g, 0, none⟩) 8 8) W := by
  have h8 : (Tryz.prog.info? 9).map (·.size) = some 1 := by kernel_rfl
  obtain ⟨i, hi2, hs⟩ := Option.map_eq_some_iff.1 h8
  intro W
  simp [Instr.sliceAt, Instr.sureAddr, run_underlying Tryz.underlying141, Instr.sliceBounds, run_sliceBound, sizeOf, typeInfo, hi2, hs, Addr.add_lit]
theorem bdrewC {B : Nat} {a w : World} (h : Below B a w) : Below B a w.drew := ⟨h.os, h.tape, h.output, h.size, h.block⟩
set_option maxRecDepth 4000 in
set_option maxHeartbeats 4000000 in
theorem long_walk (a : Tx) (ha : a.length = 16) (w : World) (T : TabC w) : Calls Tryz.prog 80 #[.agg (arr a)] w fun e w' => Below w.heap.size w w' ∧ e = .returned (.string (bs (longM a))) := by
  have HA := Lib.hid ha
  obtain ⟨F, hF⟩ : ∃ F, longM a = F := ⟨_, rfl⟩
  have HF : Hid (F = longG (hexG a)) := Lib.hid hF.symm
  rw [hF]
  clear hF
  have KF : Hid (∀ u : Nat, u < 65536 → ∀ W, TabC W → Calls Tryz.prog 114 #[.int .u64 (u : Int), .int .i64 16] W fun e w' => Below W.heap.size W w' ∧ e = .returned (.string (bs (hexD u)))) := Lib.hid fun u hu W TW => formatUint_16 u W (by omega) TW.db (World.block_lt_of_cell? _ _ TW.db)
  have TW := Lib.hid T
  have hb1 := (Blk.new w 88 (arr a)).alloc (.cells (strC (doneG a 0)) 141)
  have hb2 := Blk.new (w.alloc (.cells (arr a) 88)) 141 (strC (doneG a 0))
  have hs : (w.alloc (.cells (arr a) 88)).heap.size = w.heap.size + 1 := by simp
  rw [hs] at hb2
  have HB1 := Lib.hid hb1
  have HB2 := Lib.hid hb2
  have HBL := Lib.hid (((Below.refl w.heap.size w).alloc (Nat.le_refl _) (.cells (arr a) 88)).alloc (by simp) (.cells (strC (doneG a 0)) 141))
  clear hb1 hb2 hs T ha
  go_enter Tryz.func80, Tryz.ntmps80
  go_upto_region 2 with fail
  have hz : strC (doneG a 0) = #[.string ⟨#[]⟩, .string ⟨#[]⟩, .string ⟨#[]⟩, .string ⟨#[]⟩, .string ⟨#[]⟩, .string ⟨#[]⟩, .string ⟨#[]⟩, .string ⟨#[]⟩] := rfl
  rw [← hz]
  generalize (w.alloc (.cells (arr a) 88)).alloc (.cells (strC (doneG a 0)) 141) = w2 at *
  go_wp2_with fail
  go_loopg [4, 9] 8 (fun k s4 i wr => ∃ j : Nat, i = .int .i64 (j : Int) ∧ j + k = 8 ∧ Hid (Blk wr w.heap.size 88 (arr a)) ∧ Hid (Blk wr (w.heap.size + 1) 141 (strC (doneG a j))) ∧ Hid (Below w.heap.size w wr))
  case atStart => exact ⟨0, rfl, by omega, HB1, HB2, HBL⟩
  case round =>
    obtain ⟨j, rfl, hj, B1, B2, BL⟩ := hrel
    clear HB1 HB2 HBL
    by_cases hlt : j < 8
    · have hj8 : (j : Int) < 8 := by omega
      have h1 : 2 * j < a.length := by have := HA.out; omega
      have h2 : 2 * j + 1 < a.length := by have := HA.out; omega
      obtain ⟨x, hx⟩ : ∃ x, a[2 * j]? = some x := ⟨_, List.getElem?_eq_getElem h1⟩
      obtain ⟨y, hy⟩ : ∃ y, a[2 * j + 1]? = some y := ⟨_, List.getElem?_eq_getElem h2⟩
      have HG : Hid (gvM a j = hexD (x.toNat * 256 + y.toNat)) := Lib.hid (by
        unfold gvM
        rw [List.getD_eq_getElem?_getD, List.getD_eq_getElem?_getD, hx, hy]; rfl)
      have kx : wr.cell? ⟨w.heap.size, 2 * j, none⟩ = some (.int .u8 (x.toNat : Int)) := (B1.out.cell _).trans (by simp [arr, hx, u8v])
      have ky : wr.cell? ⟨w.heap.size, 2 * j + 1, none⟩ = some (.int .u8 (y.toNat : Int)) := (B1.out.cell _).trans (by simp [arr, hy, u8v])
      have hi1 : (2 * (j : Int)) < 16 := by omega
      have hi2 : (2 * (j : Int) + 1) < 16 := by omega
      have hxl := x.toNat_lt
      have hyl := y.toNat_lt
      have hor : bits .or .u64 ((x.toNat : Int) * 256) (y.toNat : Int) = ((x.toNat * 256 + y.toNat : Nat) : Int) := by
        have h := u64_or_nat (x.toNat * 256) y.toNat (by omega) (by omega)
        have h2 := Nat.two_pow_add_eq_or_of_lt (i := 8) (b := y.toNat) (by omega) x.toNat
        have h3 : x.toNat * 256 ||| y.toNat = x.toNat * 256 + y.toNat := by
          rw [Nat.mul_comm]
          exact h2.symm
        rw [h3] at h
        rw [← h]
        rfl
      have KFU := Lib.hid (KF.out (x.toNat * 256 + y.toNat) (by omega) wr (TW.out.keep BL.out))
      have KFV := Lib.hid (KF.out (x.toNat * 256 + y.toNat) (by omega) wr.drew (TW.out.keep (bdrewC BL.out)))
      rw [← HG.out] at KFU KFV
      obtain ⟨u, hu⟩ : ∃ u : Int, ((x.toNat * 256 + y.toNat : Nat) : Int) = u := ⟨_, rfl⟩
      rw [hu] at hor KFU KFV
      obtain ⟨xi, hxi⟩ : ∃ xi : Int, (x.toNat : Int) = xi := ⟨_, rfl⟩
      obtain ⟨yi, hyi⟩ : ∃ yi : Int, (y.toNat : Int) = yi := ⟨_, rfl⟩
      rw [hxi] at hor kx
      rw [hyi] at hor ky
      have hx0 : 0 ≤ xi := by omega
      have hx1 : xi < 256 := by omega
      have hy0 : 0 ≤ yi := by omega
      have hy1 : yi < 256 := by omega
      have HS := Lib.hid (show wr.cell? ⟨w.heap.size, 2 * j, none⟩ = some (.int .u8 xi) ∧ wr.cell? ⟨w.heap.size, 2 * j + 1, none⟩ = some (.int .u8 yi) from ⟨kx, ky⟩)
      have hbl : w.heap.size < wr.heap.size := B1.out.lt
      have hgl : w.heap.size + 1 < wr.heap.size := B2.out.lt
      clear hxi hyi hu hx hy hxl hyl h1 h2 hi1 hi2
      obtain ⟨m, hm⟩ : ∃ m, 2 * j = m := ⟨_, rfl⟩
      rw [hm] at kx ky HS
      have hw1 : IntKind.i64.wrap (2 * (j : Int)) = (m : Int) := by rw [IntWalk.i64_in _ (by omega)]; omega
      have hw2 : IntKind.i64.wrap ((m : Int) + 1) = (m : Int) + 1 := IntWalk.i64_in _ (by omega)
      have hm0 : (0 : Int) ≤ (m : Int) := by omega
      have hm1 : (m : Int) < 16 := by omega
      have hm2 : (m : Int) + 1 < 16 := by omega
      have hm3 : (0 : Int) ≤ (m : Int) + 1 := by omega
      have hj0 : (0 : Int) ≤ (j : Int) := by omega
      have KC : Hid ((strC (doneG a j))[j]? = some (.string (bs []))) := Lib.hid (strC_at _ (by
        unfold doneG
        have hl : ((List.range j).map (gvM a)).length = j := by simp
        rw [List.getElem?_append_right (by omega), hl, Nat.sub_self, List.getElem?_replicate, if_pos (by omega)]))
      have hwy : IntKind.u64.wrap yi = yi := IntWalk.u64_in _ (by omega)
      have hwx : IntKind.u64.wrap xi = xi := IntWalk.u64_in _ (by omega)
      have hwx2 : IntKind.u64.wrap (xi * 256) = xi * 256 := IntWalk.u64_in _ (by omega)
      go_upto_region 5 with fail
      go_region_held3 (fun w' => w'.cell? ⟨w.heap.size, m, none⟩ = some (.int .u8 xi) ∧ w'.cell? ⟨w.heap.size, m + 1, none⟩ = some (.int .u8 yi))
        (first | exact HS.out | exact HS4.out | exact ⟨(World.cell?_setCell_far _ ⟨w.heap.size + 1, j, none⟩ ⟨w.heap.size, m, none⟩ _ (by show w.heap.size + 1 ≠ w.heap.size; omega)).trans HS4.out.1, (World.cell?_setCell_far _ ⟨w.heap.size + 1, j, none⟩ ⟨w.heap.size, m + 1, none⟩ _ (by show w.heap.size + 1 ≠ w.heap.size; omega)).trans HS4.out.2⟩)
        (first | (go_at_call 114; refine KFV.out.mono ?_; rintro e w4 ⟨hb4, rfl⟩; have HB4 := Lib.hid hb4; have HS4 := Lib.hid (show w4.cell? ⟨w.heap.size, m, none⟩ = some (.int .u8 xi) ∧ w4.cell? ⟨w.heap.size, m + 1, none⟩ = some (.int .u8 yi) from ⟨(hb4.cell (p := ⟨w.heap.size, m, none⟩) hbl).trans HS.out.1, (hb4.cell (p := ⟨w.heap.size, m + 1, none⟩) hbl).trans HS.out.2⟩); have hbk4 := B2.out.drew.keep hb4; have kc4 := (hbk4.cell j).trans KC.out; have kf4 := hbk4.frozen j; have HBK4 := Lib.hid hbk4; clear hb4 hbk4))
      go_wp2_with fail
      go_roundg (gk - 1)
      case rel => exact ⟨j + 1, by go_num, by omega, Lib.hid ((B1.out.drew.keep HB4.out).far (p := ⟨w.heap.size + 1, j, none⟩) (by show w.heap.size ≠ w.heap.size + 1; omega) _), Lib.hid (by
        have h := HBK4.out.set_ j (.string (bs (gvM a j)))
        rw [strC_set, doneG_set a hlt] at h
        exact h), Lib.hid (((bdrewC BL.out).trans (HB4.out.mono (bdrewC BL.out).size)).setCell (Nat.le_succ _) _)⟩
      case measure => omega
    · obtain rfl : j = 8 := by omega
      rw [doneG_end] at B2
      have hGl := hexG_len a
      have HG4 := Lib.hid (hexG_small a)
      generalize hexG a = G at *
      have HGL := Lib.hid hGl
      have HBN := Lib.hid (bestN_le G hGl)
      clear hGl hlt hj
      go_wp2_with fail
      go_loopg [5, 6, 7, 8, 29] 8 (fun k s5 s6 s7 s8 i wx => ∃ j : Nat, i = .int .i64 (j : Int) ∧ j + k = 8 ∧ s5 = .int .i64 ((bestN G j).1 : Int) ∧ s6 = .int .i64 ((bestN G j).2 : Int) ∧ wx = wr)
      case atStart => exact ⟨0, rfl, by omega, rfl, rfl, rfl⟩
      case round =>
        obtain ⟨j, rfl, hj, rfl, rfl, rfl⟩ := hrel
        obtain ⟨gq, rfl⟩ : ∃ gq, gq = gk := ⟨_, rfl⟩
        by_cases hlt : j < 8
        · have hj8 : (j : Int) < 8 := by omega
          have hbn := HBN.out j (by omega)
          have HST : Hid (bestN G (j + 1) = if (bestN G j).2 < runAt G j then (j, runAt G j) else bestN G j) := Lib.hid rfl
          obtain ⟨b1, hb1⟩ : ∃ b1, (bestN G j).1 = b1 := ⟨_, rfl⟩
          obtain ⟨b2, hb2⟩ : ∃ b2, (bestN G j).2 = b2 := ⟨_, rfl⟩
          rw [hb1, hb2] at hbn
          have HBE : Hid (bestN G j = (b1, b2)) := Lib.hid (by rw [← hb1, ← hb2])
          rw [hb1, hb2]
          rw [hb2] at HST
          have HJ := Lib.hid hj
          clear hj hb1 hb2
          go_wp2_with fail
          go_loopg [8] 8 (fun k s8 wx => ∃ n : Nat, s8 = .int .i64 (n : Int) ∧ n + k = 8 ∧ j + n ≤ 8 ∧ Hid (∀ t, t < n → (G.drop j)[t]? = some [48]) ∧ wx = wr)
          case atStart => exact ⟨0, rfl, by omega, by omega, Lib.hid (fun t h => absurd h (by omega)), rfl⟩
          case round =>
            obtain ⟨n, rfl, hn, hjn, HT, rfl⟩ := hrel
            have HFIN : Hid ((G.drop j)[n]? ≠ some [48] → runAt G j = n) := Lib.hid fun h => run_stop (by rw [List.length_drop]; have := HGL.out; omega) HT.out h
            by_cases hjn8 : j + n < 8
            · have hjni : (j : Int) + (n : Int) < 8 := by omega
              obtain ⟨x, hx⟩ : ∃ x, G[j + n]? = some x := ⟨_, List.getElem?_eq_getElem (by have := HGL.out; omega)⟩
              have hx2 : (G.drop j)[n]? = some x := by rw [List.getElem?_drop]; exact hx
              have kc : wr.cell? ⟨w.heap.size + 1, j + n, none⟩ = some (.string (bs x)) := (B2.out.cell _).trans (strC_at _ hx)
              have he : ((bs x).toList == [48]) = decide (x = [48]) := by rw [bs_nil]; exact Bool.eq_iff_iff.2 (by simp)
              by_cases h48 : x = [48]
              · rw [decide_eq_true h48] at he
                have HX2 : Hid ((G.drop j)[n]? = some [48]) := Lib.hid (by rw [hx2, h48])
                clear hx hx2 h48
                go_wp2_with fail
                go_roundg (gk - 1)
                case rel => exact ⟨n + 1, by go_num, by omega, by omega, Lib.hid (fun t ht => by
                  by_cases htn : t < n
                  · exact HT.out t htn
                  · obtain rfl : t = n := by omega
                    exact HX2.out), rfl⟩
                case measure => omega
              · rw [decide_eq_false h48] at he
                have HR := Lib.hid (HFIN.out (by rw [hx2]; exact fun e => h48 (Option.some.inj e)))
                clear hx hx2 h48
                rw [HR.out] at HST
                rcases Nat.lt_or_ge b2 n with hb | hb
                · have hbi : (n : Int) > (b2 : Int) := by omega
                  have HBB := Lib.hid hb
                  clear hb
                  go_wp2_with fail
                  go_roundg (gq - 1)
                  case rel => exact ⟨j + 1, by go_num, by have := HJ.out; omega, by rw [HST.out, if_pos HBB.out], by rw [HST.out, if_pos HBB.out], rfl⟩
                  case measure => have := HJ.out; omega
                · have hbi : ¬ (n : Int) > (b2 : Int) := by omega
                  have HBB : Hid (¬ b2 < n) := Lib.hid (by omega)
                  clear hb
                  go_wp2_with fail
                  go_roundg (gq - 1)
                  case rel => exact ⟨j + 1, by go_num, by have := HJ.out; omega, by rw [HST.out, if_neg HBB.out, HBE.out], by rw [HST.out, if_neg HBB.out, HBE.out], rfl⟩
                  case measure => have := HJ.out; omega
            · have hjni : ¬ (j : Int) + (n : Int) < 8 := by omega
              have HR := Lib.hid (HFIN.out (by rw [List.getElem?_drop, List.getElem?_eq_none (by have := HGL.out; omega)]; exact fun e => by cases e))
              rw [HR.out] at HST
              rcases Nat.lt_or_ge b2 n with hb | hb
              · have hbi : (n : Int) > (b2 : Int) := by omega
                have HBB := Lib.hid hb
                clear hb
                go_wp2_with fail
                go_roundg (gq - 1)
                case rel => exact ⟨j + 1, by go_num, by have := HJ.out; omega, by rw [HST.out, if_pos HBB.out], by rw [HST.out, if_pos HBB.out], rfl⟩
                case measure => have := HJ.out; omega
              · have hbi : ¬ (n : Int) > (b2 : Int) := by omega
                have HBB : Hid (¬ b2 < n) := Lib.hid (by omega)
                clear hb
                go_wp2_with fail
                go_roundg (gq - 1)
                case rel => exact ⟨j + 1, by go_num, by have := HJ.out; omega, by rw [HST.out, if_neg HBB.out, HBE.out], by rw [HST.out, if_neg HBB.out, HBE.out], rfl⟩
                case measure => have := HJ.out; omega
        · obtain rfl : j = 8 := by omega
          have hbn := HBN.out 8 (Nat.le_refl _)
          have hFG : longG G = if (bestN G 8).2 = 1 then Lib.join G [58] else Lib.join (G.take (bestN G 8).1) [58] ++ [58, 58] ++ Lib.join (G.drop ((bestN G 8).1 + (bestN G 8).2)) [58] := rfl
          rw [hFG] at HF
          generalize (bestN G 8).1 = b1 at *
          generalize (bestN G 8).2 = b2 at *
          obtain ⟨hb8, hb1⟩ := hbn
          have hwl : w.heap.size + 1 < wr.heap.size := B2.out.lt
          have hall := run_slice8all (w.heap.size + 1)
          have hhi := run_slice8hi (w.heap.size + 1) b1 (by omega)
          obtain ⟨o, ho, hlo⟩ := run_slice8lo (w.heap.size + 1) (b1 + b2) hb8
          have hsum : ((b1 + b2 : Nat) : Int) = (b1 : Int) + (b2 : Int) := by omega
          rw [hsum] at hlo
          have hp : bs [58] = ⟨#[58]⟩ := rfl
          by_cases h1 : b2 = 1
          · have h1i : ((b2 : Int) == 1) = true := by rw [h1]; rfl
            have KJ := Lib.hid (join_walk G (w.heap.size + 1) 0 8 wr HG4.out (by have := HGL.out; omega) (by have := HGL.out; omega) hwl (fun j x hj => (B2.out.cell _).trans (by rw [Nat.zero_add]; exact strC_at _ hj)))
            rw [HGL.out, hp] at KJ
            rw [if_pos h1] at HF
            clear h1 hFG ho hlo hhi
            go_wp2_with fail
            refine KJ.out.mono ?_
            rintro e w5 ⟨hb5, rfl⟩
            have HB5 := Lib.hid (BL.out.trans (hb5.mono BL.out.size))
            clear hb5
            go_wp2_with fail
            go_ret
            exact ⟨HB5.out, by rw [HF.out]; rfl⟩
          · have h1i : ((b2 : Int) == 1) = false := beq_eq_false_iff_ne.2 (by omega)
            rw [if_neg h1] at HF
            clear h1 hFG hall
            have HO := Lib.hid ho
            have hta : (G.take b1).length = b1 := by rw [List.length_take]; have := HGL.out; omega
            have hdr : (G.drop (b1 + b2)).length = 8 - (b1 + b2) := by rw [List.length_drop, HGL.out]
            have KJ1 := Lib.hid (fun (n : Over wr.heap.size wr) => join_walk (G.take b1) (w.heap.size + 1) 0 8 n.v (fun x hx => HG4.out x (List.mem_of_mem_take hx)) (by omega) (by omega) (Nat.lt_of_lt_of_le hwl n.ok.size) (fun j x hj => ((B2.out.below n.ok hwl).cell _).trans (by
              rw [Nat.zero_add]
              refine strC_at _ ?_
              rw [List.getElem?_take] at hj
              split at hj
              · exact hj
              · cases hj)))
            have KJ2 := Lib.hid (fun (n : Over wr.heap.size wr) => join_walk (G.drop (b1 + b2)) (w.heap.size + 1) o (8 - (b1 + b2)) n.v (fun x hx => HG4.out x (List.mem_of_mem_drop hx)) (by omega) (by omega) (Nat.lt_of_lt_of_le hwl n.ok.size) (fun j x hj => ((B2.out.below n.ok hwl).cell _).trans (by
              have hjl := (List.getElem?_eq_some_iff.1 hj).1
              rw [hdr] at hjl
              rw [HO.out (by omega)]
              refine strC_at _ ?_
              rw [List.getElem?_drop] at hj
              exact hj)))
            have hj1 := join_len (G.take b1) (fun x hx => HG4.out x (List.mem_of_mem_take hx))
            have hj2 := join_len (G.drop (b1 + b2)) (fun x hx => HG4.out x (List.mem_of_mem_drop hx))
            rw [hta] at hj1 KJ1
            rw [hdr] at hj2 KJ2
            rw [hp] at KJ1 KJ2
            generalize Lib.join (G.take b1) [58] = J1 at *
            generalize Lib.join (G.drop (b1 + b2)) [58] = J2 at *
            have hz1 : (bs J1).size ≤ 100 := by rw [bs_size]; omega
            have hz2 : (bs J2).size ≤ 100 := by rw [bs_size]; omega
            have hw12 : IntKind.i64.wrap ((b1 : Int) + (b2 : Int)) = (b1 : Int) + (b2 : Int) := IntWalk.i64_in _ (by omega)
            clear hj1 hj2 hta hdr ho
            go_upto_region 19 with fail
            refine wp_region_below wr.heap.size (by kernel_rfl) (by kernel_rfl) ?_
            repeat (go_big_quiet_step (fail))
            go_big_quiet_step ((go_at_call 115; go_loud (with_reducible exact calls_over _ (KJ1.out _) (Nat.le_refl _))))
            repeat (go_big_quiet_step (fail))
            go_big_quiet_step ((go_at_call 115; go_loud (with_reducible exact calls_over _ (KJ2.out _) (Nat.le_refl _))))
            repeat (go_big_quiet_step (fail))
            refine wpQuiet_nil ?_
            rintro _ ⟨⟨w5, hb5⟩, rfl⟩
            have HB5 := Lib.hid (BL.out.trans (hb5.mono BL.out.size))
            clear hb5
            go_wp2_with fail
            go_ret
            refine ⟨HB5.out, ?_⟩
            rw [HF.out]
            show Ending.returned (.string _) = Ending.returned (.string _)
            congr 2
end Go.Proofs.YtjnjnccfojfghaaGreatDoor
