/-
  The walks of waybillref03's text and number: they write behind a row that is the caller's own. No condition but the sizes.
-/
import Derived.Test.YtfnhaddgdfkmcaaDoorEnc0
import Derived.ArgAppend
namespace Go.Proofs.YtfnhaddgdfkmcaaDoor
open Go.RowKit Go.Sort
set_option linter.unusedVariables false

theorem RB.ofOut {w : World} {v : Value} {l : List UInt8} (h : Out w v l) : ∃ A c, v = .slice A l.length c ∧ l.length ≤ c ∧ c ≤ maxLen ∧ RB w w.heap.size A l := h
theorem own_base_le {w : World} {b b' E s n : Nat} {v : Value} {x : List Value} (h : w.ownsRow b E s v n x) (hb : b' ≤ b) : w.ownsRow b' E s v n x := by
  refine ⟨h.1, ?_⟩
  rcases h.2 with h1 | ⟨g, cap, cur, hv, hg, r⟩
  · exact .inl h1
  · exact .inr ⟨g, cap, cur, hv, by omega, r⟩
set_option maxHeartbeats 2000000 in
theorem rtx_walk (base : Nat) (v : Value) (l : List UInt8) (k : UInt8) (s : ByteArray) (w : World) (h : OwnB w base 5 v l) (hb : base ≤ w.heap.size) (hs : s.size ≤ maxLen) (hl : l.length ≤ 100000000000000) :
    Calls Tryd.prog 20 #[v, .int .u8 (k.toNat : Int), .string s] w fun e w' => Below base w w' ∧ ∃ v', e = .returned v' ∧ OwnB w' base 5 v' (l ++ ([k] ++ textB s.data.toList)) := by
  have HT := Lib.hid (fun w' => rtext_any s w' hs)
  have htl := textB_len s.data.toList
  generalize textB s.data.toList = tb at *
  generalize textE s.data.toList = te at *
  have HO := Lib.hid h
  have hk0 : 0 ≤ (k.toNat : Int) := by omega
  have hk1 : (k.toNat : Int) ≤ 255 := by have := k.toNat_lt; omega
  clear h
  go_enter Tryd.func20, Tryd.ntmps20
  go_upto_region 2 with (at_builtin; refine wpList_appB _ u8 (.tmp 9) (.tmp 11) rfl rfl base rfl (HO.out.alloc _) (k := [k]) _ _ rfl rfl (RB.one _ _ _ _ rfl) (by simp; omega) (by simp; omega) ?_; intro v2 w2 ho2 hb2; have HO2 := Lib.hid ho2; clear ho2)
  have hs2 := hb2.size
  simp only [World.size_alloc] at hs2
  go_wp2_with fail
  refine (HT.out _).mono ?_
  rintro e w3 ⟨hb3, v3, rfl, ho3⟩
  obtain ⟨A3, c3, rfl, hc3, hm3, hr3⟩ := RB.ofOut ho3
  have HO3 := Lib.hid (HO2.out.below hb3)
  have hs3 := hb3.size
  have HR3 := Lib.hid hr3
  have hlk : (l ++ [k]).length + tb.length ≤ 200000000000000 := by simp; omega
  have HLK := Lib.hid hlk
  clear hr3 ho3 hlk
  go_wp2_with (at_builtin; refine wpList_appB _ u8 (.tmp 18) (.tmp 19) rfl rfl base rfl HO3.out _ _ rfl rfl HR3.out HLK.out (by omega) ?_; intro v4 w4 ho4 hb4)
  go_ret
  refine ⟨(((Below.refl _ _).alloc hb _).trans hb2).trans ((hb3.mono (by omega)).trans hb4), _, rfl, ?_⟩
  have h5 : l ++ [k] ++ tb = l ++ k :: tb := by simp
  rw [h5] at ho4
  exact ho4
set_option maxHeartbeats 2000000 in
theorem rnm_walk (base : Nat) (v : Value) (l : List UInt8) (k : UInt8) (n : Int) (w : World) (h : OwnB w base 5 v l) (hb : base ≤ w.heap.size) (h0 : -9223372036854775808 ≤ n) (h1 : n ≤ 9223372036854775807) (hl : l.length ≤ 100000000000000) :
    Calls Tryd.prog 46 #[v, .int .u8 (k.toNat : Int), .int .i64 n] w fun e w' => Below base w w' ∧ ∃ v', e = .returned v' ∧ OwnB w' base 5 v' (l ++ ([k] ++ numB n)) := by
  have HT := Lib.hid (fun w' => rnumber_any n w' h0 h1)
  have htl := numB_len n
  generalize numB n = tb at *
  generalize numE n = te at *
  have HO := Lib.hid h
  have hk0 : 0 ≤ (k.toNat : Int) := by omega
  have hk1 : (k.toNat : Int) ≤ 255 := by have := k.toNat_lt; omega
  clear h
  go_enter Tryd.func46, Tryd.ntmps46
  go_upto_region 2 with (at_builtin; refine wpList_appB _ u8 (.tmp 9) (.tmp 11) rfl rfl base rfl (HO.out.alloc _) (k := [k]) _ _ rfl rfl (RB.one _ _ _ _ rfl) (by simp; omega) (by simp; omega) ?_; intro v2 w2 ho2 hb2; have HO2 := Lib.hid ho2; clear ho2)
  have hs2 := hb2.size
  simp only [World.size_alloc] at hs2
  go_wp2_with fail
  refine (HT.out _).mono ?_
  rintro e w3 ⟨hb3, v3, rfl, ho3⟩
  obtain ⟨A3, c3, rfl, hc3, hm3, hr3⟩ := RB.ofOut ho3
  have HO3 := Lib.hid (HO2.out.below hb3)
  have hs3 := hb3.size
  have HR3 := Lib.hid hr3
  have hlk : (l ++ [k]).length + tb.length ≤ 200000000000000 := by simp; omega
  have HLK := Lib.hid hlk
  clear hr3 ho3 hlk
  go_wp2_with (at_builtin; refine wpList_appB _ u8 (.tmp 18) (.tmp 19) rfl rfl base rfl HO3.out _ _ rfl rfl HR3.out HLK.out (by omega) ?_; intro v4 w4 ho4 hb4)
  go_ret
  refine ⟨(((Below.refl _ _).alloc hb _).trans hb2).trans ((hb3.mono (by omega)).trans hb4), _, rfl, ?_⟩
  have h5 : l ++ [k] ++ tb = l ++ k :: tb := by simp
  rw [h5] at ho4
  exact ho4
set_option maxHeartbeats 2000000 in
theorem rnm_full (A : Option Addr) (l : List UInt8) (k : UInt8) (n : Int) (w : World) (h : RB w w.heap.size A l) (hp : 0 < l.length) (h0 : -9223372036854775808 ≤ n) (h1 : n ≤ 9223372036854775807) (hl : l.length ≤ 100000000000000) :
    Calls Tryd.prog 46 #[.slice A l.length l.length, .int .u8 (k.toNat : Int), .int .i64 n] w fun e w' => Below w.heap.size w w' ∧ ∃ v', e = .returned v' ∧ OwnB w' w.heap.size 5 v' (l ++ ([k] ++ numB n)) := by
  have HT := Lib.hid (fun w' => rnumber_any n w' h0 h1)
  have htl := numB_len n
  generalize numB n = tb at *
  generalize numE n = te at *
  obtain ⟨b, off, rfl, hB, hcell⟩ := h.at_ hp
  obtain ⟨iu, hi1, hi2, hi3, hi4⟩ := u8.hi
  have HC := Lib.hid hcell
  have hk0 : 0 ≤ (k.toNat : Int) := by omega
  have hk1 : (k.toNat : Int) ≤ 255 := by have := k.toNat_lt; omega
  clear h hcell
  have HOLD : Hid (∀ j u, (Lib.byteCells l)[j]? = some u → (w.alloc (.cells #[.int .u8 (k.toNat : Int)] 5)).cell? ((⟨b, off, none⟩ : Addr).add j) = some u) := Lib.hid fun j u hu => by
    have hj : j < l.length := by
      have := (List.getElem?_eq_some_iff.1 hu).1
      simpa [Lib.byteCells] using this
    rw [Addr.add_lit]
    have e : (w.alloc (.cells #[.int .u8 (k.toNat : Int)] 5)).cell? ⟨b, off + j, none⟩ = w.cell? ⟨b, off + j, none⟩ := ((Below.refl w.heap.size w).alloc (Nat.le_refl _) _).cell hB
    rw [e, HC.out j hj, ← hu]
    simp [Lib.byteCells, hj, bt_getElem hj]
  have HLB : Hid ((Lib.byteCells l).length = l.length * 1) := Lib.hid (by simp [Lib.byteCells])
  have HI := Lib.hid hi1
  have HI2 := Lib.hid hi2
  have HI3 := Lib.hid hi3
  have HI4 := Lib.hid hi4
  clear hi1 hi2 hi3 hi4
  go_enter Tryd.func46, Tryd.ntmps46
  go_upto_region 2 with (at_builtin; go_loud (refine wpList_append_grows _ rfl (.tmp 9) (.tmp 11) 23 rfl 5 iu (.int .u8 0) 1 1 u8.ht HI.out HI2.out HI3.out HI4.out rfl (by decide) (some ⟨b, off, none⟩) l.length l.length (Lib.byteCells l) rfl (by simp) HLB.out (fun _ e => by injection e with e; subst e; exact HOLD.out) ⟨w.heap.size, 0, none⟩ 1 1 [.int .u8 (k.toNat : Int)] rfl rfl (fun j u hu => one_new w 5 _ _ rfl j u hu) (by simp [Value.oneCell']) (by omega) (by simp only [maxLen]; omega) (by omega) ?_; intro v2 w2 ho2 hg2; have HO2 := Lib.hid ho2; have HG2 := Lib.hid hg2; clear ho2 hg2))
  have O2 : OwnB w2 w.heap.size 5 v2 (l ++ [k]) := by
    have := HO2.out
    unfold OwnB
    rw [List.length_append, Lib.byteCells_append]
    exact own_base_le this (by simp)
  have HO2 := Lib.hid O2
  have hb2 : Below w.heap.size (w.alloc (.cells #[.int .u8 (k.toNat : Int)] 5)) w2 := ⟨HG2.out.os, HG2.out.tape, HG2.out.output, HG2.out.size, fun i hi => HG2.out.block i (by simp; omega) (by simp)⟩
  clear O2
  have hs2 := hb2.size
  simp only [World.size_alloc] at hs2
  go_wp2_with fail
  refine (HT.out _).mono ?_
  rintro e w3 ⟨hb3, v3, rfl, ho3⟩
  obtain ⟨A3, c3, rfl, hc3, hm3, hr3⟩ := RB.ofOut ho3
  have HO3 := Lib.hid (HO2.out.below hb3)
  have hs3 := hb3.size
  have HR3 := Lib.hid hr3
  have hlk : (l ++ [k]).length + tb.length ≤ 200000000000000 := by simp; omega
  have HLK := Lib.hid hlk
  clear hr3 ho3 hlk
  go_wp2_with (at_builtin; refine wpList_appB _ u8 (.tmp 18) (.tmp 19) rfl rfl w.heap.size rfl HO3.out _ _ rfl rfl HR3.out HLK.out (by omega) ?_; intro v4 w4 ho4 hb4)
  go_ret
  refine ⟨(((Below.refl _ _).alloc (Nat.le_refl _) _).trans hb2).trans ((hb3.mono (by omega)).trans hb4), _, rfl, ?_⟩
  have h5 : l ++ [k] ++ tb = l ++ k :: tb := by simp
  rw [h5] at ho4
  exact ho4
end Go.Proofs.YtfnhaddgdfkmcaaDoor
