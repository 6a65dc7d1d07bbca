/-
  The walk of the law CodecTurned, and the plain law that bytes with one of them turned have another sum. Its conditions: what the form gives.
-/
import Derived.Test.YtliigjmbgbckpaaDoorShown
import Derived.Laws.OwnMore
namespace Go.Proofs.YtliigjmbgbckpaaDoor
open Go.RowKit
set_option linter.unusedVariables false

/-! ### the plain law -/
theorem xor_inj {a b p : Nat} (h : a ^^^ p = b ^^^ p) : a = b := by
  have := congrArg (· ^^^ p) h
  simpa [Nat.xor_assoc] using this
theorem xor_inj' {a b p : Nat} (h : p ^^^ a = p ^^^ b) : a = b := by
  rw [Nat.xor_comm p a, Nat.xor_comm p b] at h; exact xor_inj h
theorem top_bit {a : Nat} (h : a < 2147483648) : 2147483648 ≤ a ^^^ 3988292384 := by
  refine Nat.ge_two_pow_of_testBit (i := 31) ?_
  rw [Nat.testBit_xor, Nat.testBit_lt_two_pow (x := a) (i := 31) h]
  decide
theorem gbit_inj {c d : Nat} (hc : c < 4294967296) (hd : d < 4294967296) (h : gbit c = gbit d) : c = d := by
  unfold gbit at h
  by_cases h1 : c % 2 = 1 <;> by_cases h2 : d % 2 = 1
  · rw [if_pos h1, if_pos h2] at h
    have := xor_inj h
    omega
  · rw [if_pos h1, if_neg h2] at h
    have := top_bit (a := c / 2) (by omega)
    omega
  · rw [if_neg h1, if_pos h2] at h
    have := top_bit (a := d / 2) (by omega)
    omega
  · rw [if_neg h1, if_neg h2] at h
    omega
theorem gits_lt : ∀ (k : Nat) {c : Nat}, c < 4294967296 → gits k c < 4294967296
  | 0, _, h => h
  | k + 1, _, h => gits_lt k (gbit_lt h)
theorem gits_inj : ∀ (k : Nat) {c d : Nat}, c < 4294967296 → d < 4294967296 → gits k c = gits k d → c = d
  | 0, _, _, _, _, h => h
  | k + 1, _, _, hc, hd, h => gbit_inj hc hd (gits_inj k (gbit_lt hc) (gbit_lt hd) h)
theorem u8_lt32 (x : UInt8) : x.toNat < 4294967296 := by have := x.toNat_lt; omega
theorem crcF_lt : ∀ (l : List UInt8) {c : Nat}, c < 4294967296 → crcF l c < 4294967296
  | [], _, h => h
  | x :: l, _, h => crcF_lt l (gits_lt 8 (xor32 h (u8_lt32 x)))
theorem crcF_inj : ∀ (l : List UInt8) {c d : Nat}, c < 4294967296 → d < 4294967296 → crcF l c = crcF l d → c = d
  | [], _, _, _, _, h => h
  | x :: l, _, _, hc, hd, h => xor_inj (gits_inj 8 (xor32 hc (u8_lt32 x)) (xor32 hd (u8_lt32 x)) (crcF_inj l (gits_lt 8 (xor32 hc (u8_lt32 x))) (gits_lt 8 (xor32 hd (u8_lt32 x))) h))
theorem crcF_append : ∀ (a b : List UInt8) (c : Nat), crcF (a ++ b) c = crcF b (crcF a c)
  | [], _, _ => rfl
  | x :: a, b, c => by rw [List.cons_append, crcF, crcF_append a b]; rfl
theorem crc_turned {l : List UInt8} {k : Nat} (hk : k < l.length) {y : UInt8} (hy : y ≠ l[k]) : crc l ≠ crc (l.set k y) := by
  intro h
  have h' := xor_inj (show crcF l 4294967295 ^^^ 4294967295 = crcF (l.set k y) 4294967295 ^^^ 4294967295 from h)
  have e1 : l = l.take k ++ l[k] :: l.drop (k + 1) := by rw [← List.drop_eq_getElem_cons hk, List.take_append_drop]
  have e2 : l.set k y = l.take k ++ y :: l.drop (k + 1) := by rw [List.set_eq_take_append_cons_drop, if_pos hk]
  rw [e2] at h'
  conv at h' => lhs; rw [e1]
  rw [crcF_append, crcF_append, crcF, crcF] at h'
  have hp := crcF_lt (l.take k) (c := 4294967295) (by omega)
  have h2 := crcF_inj _ (gits_lt 8 (xor32 hp (u8_lt32 _))) (gits_lt 8 (xor32 hp (u8_lt32 _))) h'
  have h3 := xor_inj' (gits_inj 8 (xor32 hp (u8_lt32 _)) (xor32 hp (u8_lt32 _)) h2)
  exact hy (UInt8.toNat_inj.1 h3).symm

/-! ### the walk -/
set_option maxHeartbeats 2000000 in
theorem lawTurned (A : Option Addr) (l : List UInt8) (cp : Nat) (at_ by_ : Int) (w : World) (T : Tabs w) (h : RB w w.heap.size A l) (hl : l.length ≤ 140737488351232)
    (a0 : -9223372036854775808 ≤ at_) (a1 : at_ ≤ 9223372036854775807) (b0 : 0 ≤ by_) (b1 : by_ ≤ 255) :
    Calls Tryd.prog 6 #[.slice A l.length cp, .int .i64 at_, .int .u8 by_] w fun e w' => Below w.heap.size w w' ∧ e = .returned (.bool true) := by
  by_cases hd : l.length = 0 ∨ at_ < 0 ∨ by_ = 0
  · go_enter Tryd.func6, Tryd.ntmps6
    go_wp2_with fail
    refine (shown_any w T).mono ?_
    rintro e w1 ⟨hb1, rfl⟩
    have hd' := Lib.hid hd; clear hd
    refine on_eq (l.length : Int) 0 (fun X1 X2 => ?_) (fun X1 X2 => ?_) <;> have X3 := X2.out <;> clear X2
    · go_wp2
      go_ret
      exact ⟨hb1, rfl⟩
    · by_cases h2 : at_ < 0
      · go_wp2
        go_ret
        exact ⟨hb1, rfl⟩
      · have h3 : by_ = 0 := by rcases hd'.out with h | h | h; (have := X1.out; omega); omega; exact h
        subst h3
        go_wp2
        go_ret
        exact ⟨hb1, rfl⟩
  · have hlp : 0 < l.length := by omega
    have hat : 0 ≤ at_ := by omega
    have hby : 0 < by_ := by omega
    clear hd
    have q1 : (0 : Int) ≤ at_ % (l.length : Int) := Int.emod_nonneg _ (by omega)
    have q2 : at_ % (l.length : Int) < (l.length : Int) := Int.emod_lt_of_pos _ (by omega)
    obtain ⟨k, hk⟩ := Int.eq_ofNat_of_zero_le q1
    rw [hk] at q1 q2
    have hkl : k < l.length := by omega
    obtain ⟨y, rfl⟩ := Int.eq_ofNat_of_zero_le b0
    have e1 : ((l.length : Int) == 0) = false := beq_eq_false_iff_ne.2 (by omega)
    have e2 : ((y : Int) == 0) = false := beq_eq_false_iff_ne.2 (by omega)
    have q3 : (0 : Int) < (l.length : Int) := by omega
    have hx := l[k].toNat_lt
    have hxor : bits .xor .u8 (bt l k) (y : Int) = ((l[k].toNat ^^^ y : Nat) : Int) := by rw [bt_getElem hkl]; exact u8_xor_nat _ _ (by omega) (by omega)
    have hxl : l[k].toNat ^^^ y < 256 := Nat.xor_lt_two_pow (n := 8) (by omega) (by omega)
    obtain ⟨z, hz⟩ : ∃ z : UInt8, z.toNat = l[k].toNat ^^^ y := ⟨UInt8.ofNat (l[k].toNat ^^^ y), by rw [UInt8.toNat_ofNat']; omega⟩
    rw [← hz] at hxor
    have hne : z ≠ l[k] := by
      intro hzz
      rw [hzz] at hz
      have : (l[k].toNat ^^^ 0) = l[k].toNat ^^^ y := by rw [Nat.xor_zero]; exact hz
      have := xor_inj' this
      omega
    have hcr := crc_turned hkl hne
    have HC : Hid (((crc l : Nat) : Int) ≠ ((crc (l.set k z) : Nat) : Int)) := Lib.hid (fun hh => hcr (Int.ofNat.inj hh))
    have HL : Hid ((l.set k z).length = l.length) := Lib.hid (by simp)
    clear hcr hne hz hxl hx
    go_enter Tryd.func6, Tryd.ntmps6
    go_wp2_with fail
    refine (shown_any w T).mono ?_
    rintro e w1 ⟨hb1, rfl⟩
    have hs1 := hb1.size
    have hr1 := Lib.hid (h.below hb1)
    clear h
    go_wp2_with (first
      | (at_builtin; refine wpList_appB _ u8 (.tmp 25) (.tmp 26) rfl rfl w.heap.size rfl (OwnB.made _ _ _ hs1) l.length cp rfl rfl (hr1.out.alloc (by omega) _) (by first | omega | (simp; omega)) (by first | omega | (simp; omega)) ?_; intro v4 w4 ho4 hb6; rw [List.nil_append] at ho4; obtain ⟨g, c5, rfl, hg1, hg2⟩ := ho4.form hlp; have HO4 := Lib.hid ho4; have cell4 := ho4.cell hkl; have free4 := ho4.free k; clear ho4)
      | (go_at_call 16; refine (sum_any (some ⟨g, 0, none⟩) l c5 w4 w4.heap.size (RB.of_out HO4.out.out) (by simp [maxLen]; omega)).mono ?_; rintro e w6 ⟨rfl, rfl⟩)
      | (go_at_call 16; have t1 := sum_any (some ⟨g, 0, none⟩) (l.set k z) c5 _ _ (RB.of_out' (HO4.out.set_ k z).out HL.out) (by simp [maxLen]; omega); rw [HL.out] at t1; refine t1.mono ?_; clear t1; rintro e w6 ⟨rfl, rfl⟩))
    go_ret
    refine ⟨((hb1.alloc hs1 _).trans hb6).setCell hg1 _, ?_⟩
    have hne : (((crc l : Nat) : Int) != ((crc (l.set k z) : Nat) : Int)) = true := bne_iff_ne.2 HC.out
    show Ending.returned (.bool (((crc l : Nat) : Int) != ((crc (l.set k z) : Nat) : Int))) = _
    rw [hne]
end Go.Proofs.YtliigjmbgbckpaaDoor
