/-
  The walk of record.MarkAt. No condition but what the message is and the tables of the library.
-/
import Derived.Test.YtfnhaddgdfkmcaaDoorEnc
namespace Go.Proofs.YtfnhaddgdfkmcaaDoor
open Go.RowKit Go.Sort
set_option linter.unusedVariables false

/-- what MarkAt answers -/
def atI (m : Msg) (i : Int) : Int := (mksI (hdB m).length m.rcpts).getD i.toNat 0
def atE (m : Msg) (i : Int) : Int := if rightE m = 0 then (if 0 ≤ i ∧ i < (m.rcpts.length : Int) then 0 else 1) else rightE m
def atV (m : Msg) (i : Int) : Int := if rightE m = 0 then (if 0 ≤ i ∧ i < (m.rcpts.length : Int) then atI m i else 0) else 0
def AtAns (m : Msg) (i : Int) : Ending := .returned (.tuple #[.int .i64 (atV m i), .int .i64 (atE m i)])
theorem at_bad {m : Msg} {i : Int} (h : ¬ rightE m = 0) : AtAns m i = .returned (.tuple #[.int .i64 0, .int .i64 (rightE m)]) := by unfold AtAns atV atE; rw [if_neg h, if_neg h]
theorem at_arg {m : Msg} {i : Int} (h : rightE m = 0) (hi : ¬ (0 ≤ i ∧ i < (m.rcpts.length : Int))) : AtAns m i = .returned (.tuple #[.int .i64 0, .int .i64 1]) := by unfold AtAns atV atE; rw [if_pos h, if_pos h, if_neg hi, if_neg hi]
theorem at_ok {m : Msg} {i : Int} (h : rightE m = 0) (hi : 0 ≤ i ∧ i < (m.rcpts.length : Int)) : AtAns m i = .returned (.tuple #[.int .i64 (atI m i), .int .i64 0]) := by unfold AtAns atV atE; rw [if_pos h, if_pos h, if_pos hi, if_pos hi]

set_option maxRecDepth 100000 in
set_option maxHeartbeats 4000000 in
theorem markAt_walk (m : Msg) (A1 : Option Addr) (c1 : Nat) (A2 : Option Addr) (c2 : Nat) (i : Int) (w : World) (h : MsgAt w w.heap.size m A1 c1 A2 c2) (T : Tabs w) :
    Calls Tryd.prog 12 #[.agg (mCells m A1 c1 A2 c2), .int .i64 i] w fun e w' => Below w.heap.size w w' ∧ e = AtAns m i := by
  have hblk := Blk.new w 25 (mCells m A1 c1 A2 c2)
  generalize hw0 : w.alloc (.cells (mCells m A1 c1 A2 c2) 25) = w0 at hblk
  have hb0 : Below w.heap.size w w0 := by rw [← hw0]; exact (Below.refl _ _).alloc (Nat.le_refl _) _
  have hs0 : w0.heap.size = w.heap.size + 1 := by rw [← hw0]; simp
  have h0 := (h.below hb0).mono hb0.size
  have HR := Lib.hid (mright_walk m A1 c1 A2 c2 w0 h0)
  have HB0 := Lib.hid hb0
  have HT0 := T.keep hb0
  have hl1 := h.l1
  have hm1 := h.m1
  have KM : Hid (∀ w', Below w0.heap.size w0 w' → Blk w' w.heap.size 25 (mCells m A1 c1 A2 c2)) := Lib.hid fun w' hb => hblk.keep hb
  have K : Hid (∀ w', Below w0.heap.size w0 w' → w'.cell? ⟨w.heap.size, 0, none⟩ = some (.int .i64 m.time) ∧ w'.cell? ⟨w.heap.size, 1, none⟩ = some (.string m.frm) ∧ w'.cell? ⟨w.heap.size, 2, none⟩ = some (.slice A1 m.rcpts.length c1) ∧ w'.cell? ⟨w.heap.size, 3, none⟩ = some (.slice A2 m.data.length c2)) :=
    Lib.hid fun w' hb => ⟨(hblk.keep hb).cell 0, (hblk.keep hb).cell 1, (hblk.keep hb).cell 2, (hblk.keep hb).cell 3⟩
  obtain ⟨k0, k1, k2, k3⟩ := K.out w0 (Below.refl _ _)
  have hLAY : rightE m = 0 → Hid (∀ w', Below w0.heap.size w0 w' → Calls Tryd.prog 24 #[.agg (mCells m A1 c1 A2 c2)] w' fun e w'' => Below w'.heap.size w' w'' ∧ LayAns w' m e w'') :=
    fun hr => Lib.hid fun w' hb => lay_walk m A1 c1 A2 c2 w' ((h0.below hb).mono hb.size) (right_ok hr).n1 (HT0.keep hb).pow10
  have HS0 := Lib.hid hs0
  by_cases hr : rightE m = 0
  · have HLAY := hLAY hr
    by_cases hi : 0 ≤ i ∧ i < (m.rcpts.length : Int)
    · obtain ⟨k, rfl⟩ := Int.eq_ofNat_of_zero_le hi.1
      have hA := at_ok hr hi
      have hML := mksI_len m.rcpts (hdB m).length
      have hai : (mksI (hdB m).length m.rcpts)[k]? = some (atI m (k : Int)) := by
        have hk : k < (mksI (hdB m).length m.rcpts).length := by omega
        unfold atI
        rw [Int.toNat_natCast, List.getD_eq_getElem?_getD, List.getElem?_eq_getElem hk]
        rfl
      have HA := Lib.hid hA
      unfold LayAns at HLAY
      rw [hr] at HR
      have hi2 : (k : Int) < (m.rcpts.length : Int) := hi.2
      generalize AtAns m (k : Int) = ans at *
      generalize atI m (k : Int) = z at *
      generalize mksI (hdB m).length m.rcpts = M at *
      generalize layB m = lb at *
      obtain ⟨t, fr, L, d⟩ := m
      unfold mCells at *
      dsimp only at *
      have HAI := Lib.hid hai
      clear h h0 hs0 hb0 HT0 T hblk hA hr hi hLAY hai
      go_enter Tryd.func12, Tryd.ntmps12
      go_wp2_with fail
      refine HR.out.mono ?_
      rintro e w1 ⟨hb1, rfl⟩
      have HB1 := Lib.hid hb1
      obtain ⟨k0, k1, k2, k3⟩ := K.out w1 hb1
      have HL1 := Lib.hid (HLAY.out w1 hb1)
      clear hb1 HR HLAY
      go_wp2_with fail
      refine HL1.out.mono ?_
      rintro e w2 ⟨hb2, g, rfl, hg, v, v2, hB2, hO2, hI2⟩
      obtain ⟨gm, cm, rfl, hcm, hmm, hgm0, hgm1, hcells⟩ := hI2.row (by omega)
      have x1 : w2.cell? ⟨g, 1, none⟩ = some (.slice (some ⟨gm, 0, none⟩) M.length cm) := hB2.cell 1
      have x2 : w2.cell? ⟨gm, k, none⟩ = some (.int .i64 z) := by
        have hk : k < M.length := by omega
        rw [hcells k hk, ← List.getElem?_eq_getElem hk |>.symm.trans HAI.out |> Option.some.inj]
      have hkM : (k : Int) < (M.length : Int) := by omega
      clear hB2 hO2 hI2 hcells
      go_wp2
      go_ret2
      exact ⟨HB0.out.trans ((HB1.out.trans (hb2.mono HB1.out.size)).mono HB0.out.size), HA.out.symm⟩
    · have HA := Lib.hid (at_arg (i := i) hr hi)
      rw [hr] at HR
      generalize AtAns m i = ans at *
      unfold mCells at *
      have hn : (0 : Int) ≤ (m.rcpts.length : Int) := by omega
      clear h h0 hs0 hb0 HT0 T hblk hLAY HLAY hr
      by_cases hi0 : i < 0
      all_goals
        go_enter Tryd.func12, Tryd.ntmps12
        go_wp2_with fail
        refine HR.out.mono ?_
        rintro e w1 ⟨hb1, rfl⟩
        obtain ⟨k0, k1, k2, k3⟩ := K.out w1 hb1
        go_wp2
        go_ret2
        exact ⟨HB0.out.trans (hb1.mono HB0.out.size), HA.out.symm⟩
  · have HA := Lib.hid (at_bad (i := i) hr)
    have hr1 : (rightE m == 0) = false := beq_eq_false_iff_ne.2 hr
    have hr2 : (rightE m != 0) = true := bne_iff_ne.2 hr
    generalize AtAns m i = ans at *
    generalize rightE m = E at *
    unfold mCells at *
    clear h h0 hs0 hb0 HT0 T hblk hLAY hr
    go_enter Tryd.func12, Tryd.ntmps12
    go_wp2_with fail
    refine HR.out.mono ?_
    rintro e w1 ⟨hb1, rfl⟩
    go_wp2
    go_ret2
    exact ⟨HB0.out.trans (hb1.mono HB0.out.size), HA.out.symm⟩
end Go.Proofs.YtfnhaddgdfkmcaaDoor
