/-
  The walk of the law's looks. Conditions: the sizes.
-/
import Derived.Test.YtihhadgkcdkemaaDoorPDoes0
import Derived.BigQuiet
import Derived.Deep.QuietTactic
import Derived.Deep.RegionHeld3
namespace Go.Proofs.YtihhadgkcdkemaaDoor
open Go.RowKit Go.Maps
set_option linter.unusedVariables false
theorem Both.drewN {w0 w : World} {B : Nat} {own : Nat → Nat × Nat} {pb rb : Nat} {S S' : List Pq} (h : Both w0 w B own pb rb S S') (q : Nat) : Both w0 (w.drewN q) B own pb rb S S' :=
  ⟨h.p, h.r, bdrewN h.b _, h.s, h.z⟩
def LooksPost (w0 : World) (B : Nat) (pb rb : Nat) (S : List Pq) (e : Ending) (w' : World) : Prop :=
  ∃ own', Both w0 w' B own' pb rb S S ∧ e = .returned (.bool true)
set_option maxRecDepth 100000 in
set_option maxHeartbeats 4000000 in
theorem looks_walk (w0 w : World) (B : Nat) (own : Nat → Nat × Nat) (pb rb : Nat) (S : List Pq) (h : Both w0 w B own pb rb S S) (hS : S.length ≤ 10000) (k : Int) (f t : ByteArray) (hf : f.size ≤ maxLen) (ht : t.size ≤ maxLen) (most : Int)
    (Ab : Option Addr) (n c : Nat) :
    Calls Tryd.prog 14 #[.pointer (some ⟨pb, 0, none⟩), .pointer (some ⟨rb, 0, none⟩), .agg #[.int .i64 k, .string f, .string t, .int .i64 most, .slice Ab n c]] w (LooksPost w0 B pb rb S) := by
  have HI := Lib.hid h
  have HF := Lib.hid hf
  have HT := Lib.hid ht
  have HB0 := Lib.hid h.s
  clear h hf ht
  have HBx := Lib.hid ((Below.refl w.heap.size w).alloc (Nat.le_refl _) (.cells #[.int .i64 k, .string f, .string t, .int .i64 most, .slice Ab n c] 40))
  have HX0 := Lib.hid (Blk.new w 40 #[.int .i64 k, .string f, .string t, .int .i64 most, .slice Ab n c])
  have HIx := Lib.hid (HI.out.below HBx.out)
  have KW := Lib.hid (pwait_walk _ _ pb S HIx.out.p (by omega))
  go_enter Tryd.func14, Tryd.ntmps14
  go_wp2_with fail
  with_reducible refine KW.out.mono ?_
  rintro e w1 ⟨hb1, v, g, rfl, hX, hg⟩
  have HB1 := Lib.hid (HBx.out.trans (hb1.mono HBx.out.size))
  have HX1 := Lib.hid (HX0.out.keep hb1)
  have HXg := Lib.hid hX
  have HGg : Hid (∀ k, g = some k → w.heap.size + 1 ≤ k) := Lib.hid fun k hk => by have := hg k hk; simpa using this
  have HI1 := Lib.hid (HI.out.below HB1.out)
  obtain ⟨Av, nv, cv, rfl, hl1, hl2, hl3⟩ := hX.sl
  have KR := Lib.hid (rwait_walk w1 _ rb S HI1.out.r (by omega))
  clear hb1 hX hg KW HIx HX0 HBx
  go_wp2_with fail
  with_reducible refine KR.out.mono ?_
  rintro e w2 ⟨hb2, Ak, ck, rfl, hk1, hk2, hRS, hge⟩
  obtain ⟨N, hN⟩ : ∃ N, waitQ S = N := ⟨_, rfl⟩
  rw [hN] at HXg hRS hk1 hl1
  rw [hN]
  rw [List.length_map, Nat.mul_one] at hl1
  obtain ⟨m, hm⟩ : ∃ m, m = N.length := ⟨_, rfl⟩
  rw [← hm] at hl1 hk1
  rw [← hm]
  subst hl1
  have HM := Lib.hid hm
  have HMl : Hid ((N.map Value.string).length = m) := Lib.hid (by rw [List.length_map, hm])
  have HB2 := Lib.hid (HB1.out.trans (hb2.mono HB1.out.size))
  have HX2 := Lib.hid (HX1.out.keep hb2)
  have HXg2 := Lib.hid (HXg.out.below hb2 fun k hk => HXg.out.lt hk)
  have HI2 := Lib.hid (HI1.out.below hb2)
  have HGm : Hid (∀ k, g = some k → cutM w1 (cutM w own) k = (0, 0) ∧ B ≤ k) := Lib.hid fun k hk => by
    have h1 := HGg.out k hk
    have h2 := HXg.out.lt hk
    exact ⟨(cutM_old h2).trans (cutM_new (by omega)), by have := HB0.out; omega⟩
  have HKs : Hid (∀ b off, Ak = some ⟨b, off, none⟩ → ∀ i, i < m → w2.cell? ⟨b, off + i, none⟩ = some (.string (st N i))) := Lib.hid fun b off e i hi => by
    obtain ⟨b', o', e', -, hc⟩ := hRS.at_ (j := i) (by omega)
    rw [e] at e'; cases e'
    exact hc i (by omega)
  have HKa : Hid (0 < m → ∃ b off, Ak = some ⟨b, off, none⟩ ∧ w1.heap.size ≤ b) := Lib.hid fun h0 => by
    obtain ⟨b', o', e', -, hc⟩ := hRS.at_ (j := 0) (by omega)
    exact ⟨b', o', e', hge _ _ e'⟩
  have HGl : Hid (∀ k, g = some k → k < w1.heap.size) := Lib.hid fun k hk => HXg.out.lt hk
  have HXm : Hid (cutM w1 (cutM w own) w.heap.size = (0, 0)) := Lib.hid (by
    unfold cutM
    split
    · rw [if_neg (Nat.lt_irrefl _)]
    · rfl)
  have hmc : m ≤ 9223372036854775807 := by simp only [maxLen] at hk2; omega
  have hmc2 : cv ≤ 9223372036854775807 := by simp only [maxLen] at hl3; omega
  have hkc2 : ck ≤ 9223372036854775807 := by simp only [maxLen] at hk2; omega
  have hne : ((m : Int) != (m : Int)) = false := by simp
  clear hb2 hRS hge hN hm KR HX1 HXg HI1 HB1 hk2 hl3
  go_wp2_with fail
  go_loopg [9] m (fun q s9 wr => ∃ (j : Nat) (xs : List Value), j + q = m ∧ s9 = .int .i64 (j : Int) ∧ Hid (Both w0 wr B (cutM w1 (cutM w own)) pb rb S S) ∧ Hid (OwnX 1 wr g (.slice Av m cv) xs) ∧ Hid (xs.length = m ∧ ∀ i, j ≤ i → xs[i]? = (N.map Value.string)[i]?) ∧ Hid (∀ b off, Ak = some ⟨b, off, none⟩ → ∀ i, i < m → wr.cell? ⟨b, off + i, none⟩ = some (.string (st N i))) ∧ Hid (Blk wr w.heap.size 40 #[.int .i64 k, .string f, .string t, .int .i64 most, .slice Ab n c]))
  case atStart => exact ⟨0, _, by omega, rfl, HI2, HXg2, Lib.hid ⟨HMl.out, fun i _ => rfl⟩, HKs, HX2⟩
  case round =>
    obtain ⟨j, xs, hj, rfl, HI3, HX3, HXS, HKK, HXX⟩ := hrel
    clear HI2 HXg2 HKs HX2
    by_cases hlt : j < m
    · have hj1 : (j : Int) < (m : Int) := by omega
      have hj2 : (0 : Int) ≤ (j : Int) := by omega
      obtain ⟨gg, off, hgg, rfl, hglt, hcells, hfree⟩ := HX3.out.at_ (by omega)
      obtain ⟨kb, ko, rfl, hka⟩ := HKa.out (by omega)
      have hgl := HGl.out gg hgg
      have e1 : wr.cell? ⟨gg, off + j, none⟩ = some (.string (st N j)) := by
        rw [hcells j (by rw [HXS.out.1]; exact hlt), HXS.out.2 j (Nat.le_refl _), List.getElem?_map, List.getElem?_eq_getElem (by have := HM.out; omega), st_getElem]
        rfl
      have f1 := (hfree j (by omega)).2
      have e2 := HKK.out kb ko rfl j hlt
      obtain ⟨str, hstr⟩ : ∃ str, st N j = str := ⟨_, rfl⟩
      rw [hstr] at e1 e2
      have q1 : (str.toList != str.toList) = false := by simp
      have q2 : (str.toList == str.toList) = true := by simp
      have HXs := Lib.hid (fun q => (show OwnX 1 (wr.drewN q) g _ xs from HX3.out).set_ (by omega) j (by rw [HXS.out.1]; exact hlt) (.string ⟨#[55, 55]⟩))
      have HIs := Lib.hid (fun q => (Both.drewN HI3.out q).store ⟨gg, off + j, none⟩ (.string ⟨#[55, 55]⟩) (HGm.out gg hgg).1 (HGm.out gg hgg).2)
      have HSs : Hid ((xs.set j (.string ⟨#[55, 55]⟩)).length = m ∧ ∀ i, j + 1 ≤ i → (xs.set j (.string ⟨#[55, 55]⟩))[i]? = (N.map Value.string)[i]?) := Lib.hid ⟨by rw [List.length_set]; exact HXS.out.1, fun i hi => by rw [List.getElem?_set_ne (by omega)]; exact HXS.out.2 i (by omega)⟩
      have HKs : Hid (∀ q b o, (some ⟨kb, ko, none⟩ : Option Addr) = some ⟨b, o, none⟩ → ∀ i, i < m → ((wr.drewN q).setCell ⟨gg, off + j, none⟩ (.string ⟨#[55, 55]⟩)).cell? ⟨b, o + i, none⟩ = some (.string (st N i))) := Lib.hid fun q b o e i hi => by
        rw [World.cell?_setCell_other _ _ _ _ (fun h => by injection h with h1 h2; injection e with e; injection e with e3 e4; omega)]
        exact HKK.out b o e i hi
      have HXb := Lib.hid (fun q => (show Blk (wr.drewN q) w.heap.size _ _ from HXX.out).far (p := ⟨gg, off + j, none⟩) (by have := HGg.out gg hgg; show _ ≠ gg; omega) (.string ⟨#[55, 55]⟩))
      have HJ : Hid (j + gk = m) := Lib.hid hj
      clear hj hgg hglt hcells hfree hka hgl hstr HI3 HX3 HXS HKK HXX
      go_wp2_with fail
      go_quiet (fail)
      go_wp2_with fail
      go_roundg (gk - 1)
      case rel => exact ⟨j + 1, _, by have := HJ.out; omega, by go_num, Lib.hid (HIs.out nq), Lib.hid (HXs.out nq), HSs, Lib.hid (HKs.out nq), Lib.hid (HXb.out nq)⟩
      case measure => have := HJ.out; omega
    · have hj1 : ¬ (j : Int) < (m : Int) := by omega
      have x1 := HXX.out.cell 1
      have x2 := HXX.out.cell 2
      have K1 := Lib.hid fun q => len_walk (wr.drewN q) _ pb S HI3.out.p f t HF.out HT.out
      have K2 := Lib.hid fun q => rlen_walk (wr.drewN q) _ rb S HI3.out.r f t
      obtain ⟨a1, ha1⟩ : ∃ a1, lenQ S f t = a1 := ⟨_, rfl⟩
      rw [ha1] at K1 K2
      have t1 : ((a1 : Int) == (a1 : Int)) = true := by simp
      clear hj hlt ha1
      go_wp2_with fail
      go_quiet (first | (go_at_call 10; exact Calls.quiet_of (K1.out _)) | (go_at_call 25; exact Calls.quiet_of (K2.out _)))
      have HI4 := Lib.hid (HI3.out.drewN nq)
      have HX4 : Hid (Blk (wr.drewN nq) w.heap.size 40 #[.int .i64 k, .string f, .string t, .int .i64 most, .slice Ab n c]) := Lib.hid HXX.out
      clear K1 K2 x1 x2
      generalize wr.drewN nq = w4 at *
      have x1 := HX4.out.cell 1
      have x2 := HX4.out.cell 2
      have K1 := Lib.hid fun q => room_walk (w4.drewN q) _ pb S HI4.out.p f t HF.out HT.out
      have K2 := Lib.hid fun q => rroom_walk (w4.drewN q) _ rb S HI4.out.r f t
      obtain ⟨a2, ha2⟩ : ∃ a2, roomQ S f t = a2 := ⟨_, rfl⟩
      rw [ha2] at K1 K2
      have t2 : ((a2 : Int) == (a2 : Int)) = true := by simp
      clear ha2
      go_wp2_with fail
      go_quiet (first | (go_at_call 11; exact Calls.quiet_of (K1.out _)) | (go_at_call 26; exact Calls.quiet_of (K2.out _)))
      have HI5 := Lib.hid (HI4.out.drewN nq)
      have HX5 : Hid (Blk (w4.drewN nq) w.heap.size 40 #[.int .i64 k, .string f, .string t, .int .i64 most, .slice Ab n c]) := Lib.hid HX4.out
      clear K1 K2 x1 x2
      generalize w4.drewN nq = w5 at *
      have x1 := HX5.out.cell 1
      have x2 := HX5.out.cell 2
      have K1 := Lib.hid fun q => len_walk (w5.drewN q) _ pb S HI5.out.p t f HT.out HF.out
      have K2 := Lib.hid fun q => rlen_walk (w5.drewN q) _ rb S HI5.out.r t f
      obtain ⟨a3, ha3⟩ : ∃ a3, lenQ S t f = a3 := ⟨_, rfl⟩
      rw [ha3] at K1 K2
      have t3 : ((a3 : Int) == (a3 : Int)) = true := by simp
      clear ha3
      go_wp2_with fail
      go_quiet (first | (go_at_call 10; exact Calls.quiet_of (K1.out _)) | (go_at_call 25; exact Calls.quiet_of (K2.out _)))
      go_wp2_with fail
      go_ret
      exact ⟨_, HI5.out.drewN _, rfl⟩
end Go.Proofs.YtihhadgkcdkemaaDoor
