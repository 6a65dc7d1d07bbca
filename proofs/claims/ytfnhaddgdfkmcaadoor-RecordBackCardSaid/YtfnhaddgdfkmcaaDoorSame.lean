/-
  The walk of waybillref03's Same over two readings of one message: true. No condition but what the message is.
-/
import Derived.Test.YtfnhaddgdfkmcaaDoorSm
namespace Go.Proofs.YtfnhaddgdfkmcaaDoor
open Go.RowKit Go.Sort
set_option linter.unusedVariables false

set_option maxRecDepth 100000 in
set_option maxHeartbeats 2000000 in
theorem same_walk (m : Msg) (A1 : Option Addr) (c1 : Nat) (A2 : Option Addr) (c2 : Nat) (B1 : Option Addr) (d1 : Nat) (B2 : Option Addr) (d2 : Nat) (w : World) (ha : MsgAt w w.heap.size m A1 c1 A2 c2) (hb : MsgAt w w.heap.size m B1 d1 B2 d2) :
    Calls Tryd.prog 14 #[.agg (mCells m A1 c1 A2 c2), .agg (mCells m B1 d1 B2 d2)] w fun e w' => Below w.heap.size w w' ∧ e = .returned (.bool true) := by
  have b1 := Blk.new w 25 (mCells m A1 c1 A2 c2)
  have a1 : Below w.heap.size w (w.alloc (.cells (mCells m A1 c1 A2 c2) 25)) := (Below.refl _ _).alloc (Nat.le_refl _) _
  have s1 : (w.alloc (.cells (mCells m A1 c1 A2 c2) 25)).heap.size = w.heap.size + 1 := by simp
  generalize hw1 : w.alloc (.cells (mCells m A1 c1 A2 c2) 25) = w1 at *
  have b2 := Blk.new w1 25 (mCells m B1 d1 B2 d2)
  have a2 : Below w.heap.size w (w1.alloc (.cells (mCells m B1 d1 B2 d2) 25)) := a1.alloc (by omega) _
  have s2 : (w1.alloc (.cells (mCells m B1 d1 B2 d2) 25)).heap.size = w.heap.size + 1 + 1 := by simp [s1]
  have b1' := b1.alloc (.cells (mCells m B1 d1 B2 d2) 25)
  rw [s1] at b2
  generalize hw2 : w1.alloc (.cells (mCells m B1 d1 B2 d2) 25) = w2 at *
  have hra := Lib.hid (ha.rr.below a2)
  have hrb := Lib.hid (hb.rr.below a2)
  have hcA := cvRB (ha.rb.below a2) m.data.length c2 rfl
  have hcB := cvRB (hb.rb.below a2) m.data.length d2 rfl
  have hl1 := ha.m1
  have HA := Lib.hid a2
  have K1 : Hid (∀ n i, (w2.drewN n).cell? ⟨w.heap.size, i, none⟩ = (mCells m A1 c1 A2 c2)[i]?) := Lib.hid fun n i => b1'.cell i
  have K2 : Hid (∀ n i, (w2.drewN n).cell? ⟨w.heap.size + 1, i, none⟩ = (mCells m B1 d1 B2 d2)[i]?) := Lib.hid fun n i => b2.cell i
  have k0 := K1.out 0 0
  have k1 := K1.out 0 1
  have k2 := K1.out 0 2
  have k3 := K1.out 0 3
  have q0 := K2.out 0 0
  have q1 := K2.out 0 1
  have q2 := K2.out 0 2
  have q3 := K2.out 0 3
  obtain ⟨t, fr, L, d⟩ := m
  unfold mCells at *
  dsimp only [World.drewN_zero] at *
  clear b1 b1' b2 a1 a2 ha hb
  go_enter Tryd.func14, Tryd.ntmps14
  go_wp2
  go_loopg [5] L.length (fun k i wr => ∃ (j n : Nat), w2.drewN n = wr ∧ j + k = L.length ∧ i = .int .i64 j)
  case atStart => exact ⟨0, 0, rfl, by omega, rfl⟩
  case round =>
    obtain ⟨j, n, rfl, hj, rfl⟩ := hrel
    have e2 := K1.out n 2
    have e2' := K2.out n 2
    have s3 : (w2.drewN n).heap.size = w2.heap.size := rfl
    by_cases hlt : j < L.length
    · obtain ⟨b, off, rfl, -, hc⟩ := hra.out.at_ hlt
      obtain ⟨b', off', rfl, -, hc'⟩ := hrb.out.at_ hlt
      obtain ⟨x1, x2⟩ := hc j hlt
      obtain ⟨y1, y2⟩ := hc' j hlt
      obtain ⟨tt, hz⟩ : ∃ tt, tt = L[j] := ⟨_, rfl⟩
      rw [← hz] at x1 x2 y1 y2
      obtain ⟨ta, mk⟩ := tt
      dsimp only at x1 x2 y1 y2
      have hj1 : (j : Int) < (L.length : Int) := by omega
      clear hc hc' hz
      go_wp2
      go_quiet (fail)
      go_wp2
      go_roundg (gk - 1)
      case rel => exact ⟨j + 1, _, rfl, by omega, by go_num⟩
      case measure => omega
    · have hj1 : (L.length : Int) ≤ (j : Int) := by omega
      go_wp2
      go_ret
      exact ⟨bdrewN HA.out _, rfl⟩
end Go.Proofs.YtfnhaddgdfkmcaaDoor
