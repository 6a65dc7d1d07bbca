/-
  The walk of waybillref03's MarkAt. No condition but what the message is.
-/
import Derived.Test.YtfnhaddgdfkmcaaDoorMark
import Derived.Test.YtfnhaddgdfkmcaaDoorREnc
namespace Go.Proofs.YtfnhaddgdfkmcaaDoor
open Go.RowKit Go.Sort
set_option linter.unusedVariables false

set_option maxRecDepth 100000 in
set_option maxHeartbeats 4000000 in
theorem rmarkAt_walk (m : Msg) (A1 : Option Addr) (c1 : Nat) (A2 : Option Addr) (c2 : Nat) (i : Int) (w : World) (h : MsgAt w w.heap.size m A1 c1 A2 c2) :
    Calls Tryd.prog 13 #[.agg (mCells m A1 c1 A2 c2), .int .i64 i] w fun e w' => Below w.heap.size w w' ∧ e = AtAns m i := by
  have hblk := Blk.new w 25 (mCells m A1 c1 A2 c2)
  generalize hw0 : w.alloc (.cells (mCells m A1 c1 A2 c2) 25) = w0 at hblk
  have hb0 : Below w.heap.size w w0 := by rw [← hw0]; exact (Below.refl _ _).alloc (Nat.le_refl _) _
  have hs0 : w0.heap.size = w.heap.size + 1 := by rw [← hw0]; simp
  have h0 := (h.below hb0).mono hb0.size
  have HR := Lib.hid (rright_walk m A1 c1 A2 c2 w0 h0)
  have HB0 := Lib.hid hb0
  have hl1 := h.l1
  have hm1 := h.m1
  have KM : Hid (∀ w', Below w0.heap.size w0 w' → Blk w' w.heap.size 25 (mCells m A1 c1 A2 c2)) := Lib.hid fun w' hb => hblk.keep hb
  have K : Hid (∀ w', Below w0.heap.size w0 w' → w'.cell? ⟨w.heap.size, 0, none⟩ = some (.int .i64 m.time) ∧ w'.cell? ⟨w.heap.size, 1, none⟩ = some (.string m.frm) ∧ w'.cell? ⟨w.heap.size, 2, none⟩ = some (.slice A1 m.rcpts.length c1) ∧ w'.cell? ⟨w.heap.size, 3, none⟩ = some (.slice A2 m.data.length c2)) :=
    Lib.hid fun w' hb => ⟨(hblk.keep hb).cell 0, (hblk.keep hb).cell 1, (hblk.keep hb).cell 2, (hblk.keep hb).cell 3⟩
  obtain ⟨k0, k1, k2, k3⟩ := K.out w0 (Below.refl _ _)
  have HS0 := Lib.hid hs0
  by_cases hr : rightE m = 0
  · have MB := Lib.hid (right_ok hr)
    by_cases hi : 0 ≤ i ∧ i < (m.rcpts.length : Int)
    · obtain ⟨k, rfl⟩ := Int.eq_ofNat_of_zero_le hi.1
      have hA := at_ok hr hi
      have hk : k < m.rcpts.length := by omega
      have hai : atI m (k : Int) = (((hdB m ++ hdR false k m.rcpts).length : Nat) : Int) := by
        unfold atI
        rw [Int.toNat_natCast, List.getD_eq_getElem?_getD, hdR_at _ _ _ hk, List.length_append]
        simp
      rw [hai] at hA
      have HA := Lib.hid hA
      have HH := Lib.hid (fun w' (hb : Below w0.heap.size w0 w') => head_walk m A1 c1 A2 c2 k false w' ((h0.below hb).mono hb.size) MB.out.n1 (by omega))
      unfold HeadAns at HH
      rw [hr] at HR
      have hi2 : (k : Int) < (m.rcpts.length : Int) := hi.2
      generalize AtAns m (k : Int) = ans at *
      generalize hdB m ++ hdR false k m.rcpts = X at *
      obtain ⟨t, fr, L, d⟩ := m
      unfold mCells at *
      dsimp only at *
      clear h h0 hs0 hb0 hblk hA hr hi hai MB
      go_enter Tryd.func13, Tryd.ntmps13
      go_wp2_with fail
      refine HR.out.mono ?_
      rintro e w1 ⟨hb1, rfl⟩
      have HB1 := Lib.hid hb1
      obtain ⟨k0, k1, k2, k3⟩ := K.out w1 hb1
      have HL1 := Lib.hid (HH.out w1 hb1)
      clear hb1 HR HH
      go_wp2_with fail
      refine HL1.out.mono ?_
      rintro e w2 ⟨hb2, v, rfl, ho2⟩
      obtain ⟨A3, c3, rfl, -, -, -⟩ := ho2.out
      clear ho2
      go_wp2
      go_ret2
      exact ⟨HB0.out.trans ((HB1.out.trans (hb2.mono HB1.out.size)).mono HB0.out.size), HA.out.symm⟩
    · have HA := Lib.hid (at_arg (i := i) hr hi)
      rw [hr] at HR
      generalize AtAns m i = ans at *
      unfold mCells at *
      have hn : (0 : Int) ≤ (m.rcpts.length : Int) := by omega
      clear h h0 hs0 hb0 hblk hr
      by_cases hi0 : i < 0
      all_goals
        go_enter Tryd.func13, Tryd.ntmps13
        go_wp2_with fail
        refine HR.out.mono ?_
        rintro e w1 ⟨hb1, rfl⟩
        obtain ⟨k0, k1, k2, k3⟩ := K.out w1 hb1
        go_wp2
        go_ret2
        exact ⟨HB0.out.trans (hb1.mono HB0.out.size), HA.out.symm⟩
  · have HA := Lib.hid (at_bad (i := i) hr)
    have hr1 : (rightE m == 0) = false := beq_eq_false_iff_ne.2 hr
    have hr2 : (rightE m != 0) = true := bne_iff_ne.2 hr
    generalize AtAns m i = ans at *
    generalize rightE m = E at *
    unfold mCells at *
    clear h h0 hs0 hb0 hblk hr
    go_enter Tryd.func13, Tryd.ntmps13
    go_wp2_with fail
    refine HR.out.mono ?_
    rintro e w1 ⟨hb1, rfl⟩
    go_wp2
    go_ret2
    exact ⟨HB0.out.trans (hb1.mono HB0.out.size), HA.out.symm⟩
end Go.Proofs.YtfnhaddgdfkmcaaDoor
