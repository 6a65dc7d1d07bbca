/-
  A body in one line, in plain words; the walk of the program's Unfold. Conditions: a text's length.
-/
import Derived.Test.YtgbbadbffcjamaaDoorHdS0
import Derived.Lib.CountLaws
import Derived.Lib.Replace
import Derived.Lib.SplitLaws
import Derived.Shelf.Strings.SlTrimAscii
namespace Go.Proofs.YtgbbadbffcjamaaDoor
open Go.RowKit
set_option linter.unusedVariables false
/-- without the CR LF ahead of a byte of p -/
def unfP (p : UInt8 → Bool) : List UInt8 → List UInt8
  | [] => []
  | a :: r => match r with
    | b :: c :: t => if a = 13 ∧ b = 10 ∧ p c = true then unfP p (c :: t) else a :: unfP p (b :: c :: t)
    | [b] => [a, b]
    | [] => [a]
section
variable {old new : List UInt8}
theorem ix_miss {c : UInt8} {r : List UInt8} (h : old.isPrefixOf (c :: r) = false) : Lib.index (c :: r) old = if Lib.index r old = -1 then -1 else Lib.index r old + 1 := by
  rw [Lib.index, h]; simp
theorem ct_miss (h0 : old ≠ []) {c : UInt8} {r : List UInt8} (h : old.isPrefixOf (c :: r) = false) : Lib.count (c :: r) old = Lib.count r old := by
  have hx := ix_miss h
  by_cases hm : Lib.index r old = -1
  · rw [Lib.count_miss hm, Lib.count_miss (by rw [hx, if_pos hm])]
  · have hge := Lib.index_ge r old
    obtain ⟨j, hj⟩ : ∃ j : Nat, Lib.index r old = j := ⟨(Lib.index r old).toNat, by omega⟩
    have hx' : Lib.index (c :: r) old = ((j + 1 : Nat) : Int) := by rw [hx, if_neg hm, hj]; omega
    rw [Lib.count_hit h0 hj, Lib.count_hit h0 hx']
    congr 2
    rw [show j + 1 + old.length = (j + old.length) + 1 by omega, List.drop_succ_cons]
/-- what ReplaceAll makes of a text -/
def repA (old new s : List UInt8) : List UInt8 := Lib.replaceK old new (Lib.count s old) s
theorem repA_miss (h0 : old ≠ []) {c : UInt8} {r : List UInt8} (h : old.isPrefixOf (c :: r) = false) : repA old new (c :: r) = c :: repA old new r := by
  unfold repA
  rw [ct_miss h0 h]
  cases hk : Lib.count r old with
  | zero => rfl
  | succ k =>
    have hx := ix_miss h
    by_cases hm : Lib.index r old = -1
    · rw [Lib.count_miss hm] at hk; omega
    · have hge := Lib.index_ge r old
      obtain ⟨j, hj⟩ : ∃ j : Nat, Lib.index r old = j := ⟨(Lib.index r old).toNat, by omega⟩
      have hx' : Lib.index (c :: r) old = ((j + 1 : Nat) : Int) := by rw [hx, if_neg hm, hj]; omega
      rw [Lib.replaceK_hit old new k r j hj, Lib.replaceK_hit old new k (c :: r) (j + 1) hx']
      rw [show j + 1 + old.length = (j + old.length) + 1 by omega, List.drop_succ_cons]
      simp
end
theorem repA_hit (b : UInt8) (r : List UInt8) : repA [13, 10, b] [b] (13 :: 10 :: b :: r) = b :: repA [13, 10, b] [b] r := by
  have hi : Lib.index (13 :: 10 :: b :: r) [13, 10, b] = ((0 : Nat) : Int) := by rw [Lib.index]; simp [List.isPrefixOf]
  unfold repA
  rw [Lib.count_hit (by simp) hi, Nat.add_comm, Lib.replaceK_hit _ _ _ _ 0 hi]
  rfl
theorem unf_rep (b : UInt8) (hb : b ≠ 13) : ∀ (k : Nat) (s : List UInt8), s.length ≤ k → repA [13, 10, b] [b] s = unfP (fun c => c == b) s
  | 0, s, h => by
    obtain rfl : s = [] := List.eq_nil_of_length_eq_zero (by omega)
    rfl
  | k + 1, [], _ => rfl
  | k + 1, [a], _ => by
    rw [repA_miss (by simp) (by simp [List.isPrefixOf])]
    rfl
  | k + 1, [a, c], _ => by
    rw [repA_miss (by simp) (by simp [List.isPrefixOf]), repA_miss (by simp) (by simp [List.isPrefixOf])]
    rfl
  | k + 1, a :: x :: c :: t, h => by
    rw [unfP]
    by_cases hc : a = 13 ∧ x = 10 ∧ (c == b) = true
    · obtain ⟨rfl, rfl, hcb⟩ := hc
      obtain rfl : c = b := by simpa using hcb
      rw [if_pos ⟨rfl, rfl, hcb⟩, repA_hit, ← unf_rep c hb k (c :: t) (by simp at h ⊢; omega), repA_miss (by simp) (by simp [List.isPrefixOf, Ne.symm hb])]
    · rw [if_neg hc, ← unf_rep b hb k (x :: c :: t) (by simp at h ⊢; omega), repA_miss (by simp) (by
        simp only [List.isPrefixOf, Bool.and_eq_false_iff, beq_eq_false_iff_ne, Bool.and_true]
        by_cases h1 : a = 13
        · by_cases h2 : x = 10
          · refine .inr (.inr fun e => hc ⟨h1, h2, by simp [e]⟩)
          · exact .inr (.inl (Ne.symm h2))
        · exact .inl (Ne.symm h1))]
theorem replaceAll_unf (b : UInt8) (hb : b ≠ 13) (s : List UInt8) : Lib.replaceAll s [13, 10, b] [b] = unfP (fun c => c == b) s := by
  unfold Lib.replaceAll Lib.replace
  have hne : (([13, 10, b] : List UInt8) == [b]) = false := by simp
  rw [hne]
  simp only [Bool.false_eq_true, if_false]
  have : Lib.replaceNum s [13, 10, b] (-1) = Lib.count s [13, 10, b] := by unfold Lib.replaceNum; simp
  rw [this]
  exact unf_rep b hb s.length s (Nat.le_refl _)
theorem unfP_len (p : UInt8 → Bool) : ∀ (k : Nat) (s : List UInt8), s.length ≤ k → (unfP p s).length ≤ s.length
  | 0, s, h => by
    obtain rfl : s = [] := List.eq_nil_of_length_eq_zero (by omega)
    simp [unfP]
  | k + 1, [], _ => by simp [unfP]
  | k + 1, [a], _ => by simp [unfP]
  | k + 1, [a, c], _ => by simp [unfP]
  | k + 1, a :: x :: c :: t, h => by
    rw [unfP]
    split
    · have := unfP_len p k (c :: t) (by simp at h ⊢; omega)
      simp at this ⊢
      omega
    · have := unfP_len p k (x :: c :: t) (by simp at h ⊢; omega)
      simp at this ⊢
      omega
def ws4 : List UInt8 := [32, 9, 13, 10]
/-- a body in one line -/
def unfold11 (s : List UInt8) : List UInt8 := Lib.trimS (unfP (fun c => c == 9) (unfP (fun c => c == 32) s)) ws4
set_option maxHeartbeats 1000000 in
theorem unfold_walk (s : ByteArray) (w : World) (hM : Mx w) (hs : s.size ≤ 7000000) :
    Calls Tryd.prog 19 #[.string s] w fun e w' => Below w.heap.size w w' ∧ e = .returned (.string ⟨(unfold11 s.data.toList).toArray⟩) := by
  have HM := Lib.hid hM
  have hl : s.data.toList.length ≤ 7000000 := by rw [← Lib.size_eq]; exact hs
  obtain ⟨a, ha⟩ : ∃ a, a = unfP (fun c => c == 32) s.data.toList := ⟨_, rfl⟩
  have hal : a.length ≤ 7000000 := by rw [ha]; exact Nat.le_trans (unfP_len _ _ _ (Nat.le_refl _)) hl
  obtain ⟨b, hb⟩ : ∃ b, b = unfP (fun c => c == 9) a := ⟨_, rfl⟩
  have hbl : b.length ≤ 7000000 := by rw [hb]; exact Nat.le_trans (unfP_len _ _ _ (Nat.le_refl _)) hal
  have hF : unfold11 s.data.toList = Lib.trimS b ws4 := by unfold unfold11; rw [← ha, ← hb]
  rw [hF]
  have ct (x y : ByteArray) (h : 1 ≤ y.size) : Lib.countB x y ≤ x.size := Lib.countB_le y h x.size x (Nat.le_refl _)
  have e32 : (⟨#[13, 10]⟩ ++ ⟨#[32]⟩ : ByteArray) = ⟨#[13, 10, 32]⟩ := by decide +kernel
  have e09 : (⟨#[13, 10]⟩ ++ ⟨#[9]⟩ : ByteArray) = ⟨#[13, 10, 9]⟩ := by decide +kernel
  have K1 := Lib.hid fun (w1 : World) (h : Mx w1) => by
    obtain ⟨m, hm⟩ := h
    exact Tryd.strings_ReplaceAll s ⟨#[13, 10, 32]⟩ ⟨#[32]⟩ m w1 (by omega) hm (by decide) (by have := ct s ⟨#[13, 10, 32]⟩ (by decide); have e : (⟨#[32]⟩ : ByteArray).size = 1 := rfl; rw [e, Nat.mul_one]; omega)
  have K2 := Lib.hid fun (w1 : World) (h : Mx w1) => by
    obtain ⟨m, hm⟩ := h
    have hsz : (⟨a.toArray⟩ : ByteArray).size ≤ 7000000 := by rw [sv_size]; exact hal
    exact Tryd.strings_ReplaceAll ⟨a.toArray⟩ ⟨#[13, 10, 9]⟩ ⟨#[9]⟩ m w1 (by omega) hm (by decide) (by have := ct ⟨a.toArray⟩ ⟨#[13, 10, 9]⟩ (by decide); have e : (⟨#[9]⟩ : ByteArray).size = 1 := rfl; rw [e, Nat.mul_one]; omega)
  have K3 : Hid (∀ w1 : World, Calls Tryd.prog 39 #[.string ⟨b.toArray⟩, .string ⟨#[32, 9, 13, 10]⟩] w1 fun e w' => e = .returned (.string ⟨(Lib.trimS b ws4).toArray⟩) ∧ Below w1.heap.size w1 w') := Lib.hid fun (w1 : World) => Any.strings_Trim_laid Tryd.lays160 (by kernel_rfl) ⟨b.toArray⟩ ⟨#[32, 9, 13, 10]⟩ w1 (by rw [sv_size]; omega) (by decide) (ascii_of_all (by decide))
  have HA := Lib.hid ha
  have HBB := Lib.hid hb
  clear ha hb hF ct hM
  go_enter Tryd.func19, Tryd.ntmps19
  have bl := (Below.refl w.heap.size w).alloc (Nat.le_refl _) (.cells #[.string ⟨#[32]⟩, .string ⟨#[9]⟩] 9)
  have HB := Lib.hid bl
  have HK := Lib.hid (Blk.new w 9 #[.string ⟨#[32]⟩, .string ⟨#[9]⟩])
  clear bl
  go_wp2_with fail
  generalize w.alloc (.cells #[.string ⟨#[32]⟩, .string ⟨#[9]⟩] 9) = w0 at *
  go_loopg [0, 7] 2 (fun k s0 s7 wr => Hid (Below w.heap.size w wr) ∧ Hid (Blk wr w.heap.size 9 #[.string ⟨#[32]⟩, .string ⟨#[9]⟩]) ∧ ((k = 2 ∧ s7 = .int .i64 0 ∧ s0 = .string s) ∨ (k = 1 ∧ s7 = .int .i64 1 ∧ s0 = .string ⟨a.toArray⟩) ∨ (k = 0 ∧ s7 = .int .i64 2 ∧ s0 = .string ⟨b.toArray⟩)))
  case atStart => exact ⟨HB, HK, .inl ⟨rfl, rfl, rfl⟩⟩
  case round =>
    obtain ⟨HB2, HK2, hc⟩ := hrel
    clear HB HK
    have c0 : wr.cell? ⟨w.heap.size, 0, none⟩ = some (.string ⟨#[32]⟩) := HK2.out.cell 0
    have c1 : wr.cell? ⟨w.heap.size, 1, none⟩ = some (.string ⟨#[9]⟩) := HK2.out.cell 1
    rcases hc with ⟨rfl, rfl, rfl⟩ | ⟨rfl, rfl, rfl⟩ | ⟨rfl, rfl, rfl⟩
    · have KK := Lib.hid (K1.out wr (HM.out.below HB2.out))
      go_wp2_with fail
      with_reducible refine KK.out.mono ?_
      rintro e1 w1 ⟨rfl, hb1⟩
      have HB3 := Lib.hid (HB2.out.trans (hb1.mono HB2.out.size))
      have HK3 := Lib.hid (HK2.out.keep hb1)
      rw [show Lib.replaceAll s.data.toList (⟨#[13, 10, 32]⟩ : ByteArray).data.toList (⟨#[32]⟩ : ByteArray).data.toList = a by rw [HA.out]; exact replaceAll_unf 32 (by decide) _]
      clear hb1 KK
      go_wp2
      go_roundg 1
      case rel => exact ⟨HB3, HK3, .inr (.inl ⟨rfl, rfl, rfl⟩)⟩
      case measure => omega
    · have KK := Lib.hid (K2.out wr (HM.out.below HB2.out))
      go_wp2_with fail
      with_reducible refine KK.out.mono ?_
      rintro e1 w1 ⟨rfl, hb1⟩
      have HB3 := Lib.hid (HB2.out.trans (hb1.mono HB2.out.size))
      have HK3 := Lib.hid (HK2.out.keep hb1)
      rw [show Lib.replaceAll (⟨a.toArray⟩ : ByteArray).data.toList (⟨#[13, 10, 9]⟩ : ByteArray).data.toList (⟨#[9]⟩ : ByteArray).data.toList = b by rw [HBB.out]; exact replaceAll_unf 9 (by decide) _]
      clear hb1 KK
      go_wp2
      go_roundg 0
      case rel => exact ⟨HB3, HK3, .inr (.inr ⟨rfl, rfl, rfl⟩)⟩
      case measure => omega
    · have KK := Lib.hid (K3.out wr)
      go_wp2_with fail
      with_reducible refine KK.out.mono ?_
      rintro e1 w1 ⟨rfl, hb1⟩
      have HB3 := Lib.hid (HB2.out.trans (hb1.mono HB2.out.size))
      clear hb1 KK
      go_wp2
      go_ret
      exact ⟨HB3.out, rfl⟩
end Go.Proofs.YtgbbadbffcjamaaDoor
