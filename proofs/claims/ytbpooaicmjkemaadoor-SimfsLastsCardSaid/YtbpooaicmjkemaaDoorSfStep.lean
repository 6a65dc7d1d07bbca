/-
  The walk of the program's step. Conditions: the sizes.
-/
import Derived.Test.YtbpooaicmjkemaaDoorSfSt
import Derived.BigRegion
import Derived.Deep.RegionLaw
namespace Go.Proofs.YtbpooaicmjkemaaDoor
open Go.RowKit Go.Maps
set_option linter.unusedVariables false
theorem max_pred (n : Nat) (hn : n ≤ 9223372036854775807) : IntKind.i64.wrap ((n : Int) - 1) = (n : Int) - 1 := IntWalk.i64_in _ (by omega)
theorem max_if (n : Nat) : (if (n : Int) - 1 > 0 then (n : Int) - 1 else 0) = ((n - 1 : Nat) : Int) := by
  split <;> omega
def swArr (c0 c1 c2 c3 c4 c5 c6 : Value) (d : Dk) : Array Value := #[c0, c1, c2, c3, c4, c5, c6, .bool d.off, .int .i64 d.done, .int .i64 (d.arm : Int), .int .i64 (d.fail : Int), .int .i64 d.failed]
set_option maxHeartbeats 1000000 in
theorem step_cells (w : World) (db : Nat) (c0 c1 c2 c3 c4 c5 c6 : Value) (d : Dk) (hB : Blk w db 56 (swArr c0 c1 c2 c3 c4 c5 c6 d))
    (ha : d.arm ≤ 9223372036854775807) (hf : d.fail ≤ 9223372036854775807) (hd : -1000000000000 ≤ d.done ∧ d.done ≤ 1000000000000) :
    Calls Tryd.prog 27 #[.pointer (some ⟨db, 0, none⟩)] w fun e w' => Blk w' db 56 (swArr c0 c1 c2 c3 c4 c5 c6 (stepM d).1) ∧ Only db w w' ∧ e = .returned (.int .i64 (stepM d).2) := by
  obtain ⟨quota, dirs, nodes, now, lasts, waits, off, done, arm, fail, failed⟩ := d
  have k7 : w.cell? ⟨db, 7, none⟩ = some (.bool off) := hB.cell 7
  have k8 : w.cell? ⟨db, 8, none⟩ = some (.int .i64 done) := hB.cell 8
  have k9 : w.cell? ⟨db, 9, none⟩ = some (.int .i64 (arm : Int)) := hB.cell 9
  have k10 : w.cell? ⟨db, 10, none⟩ = some (.int .i64 (fail : Int)) := hB.cell 10
  have k11 : w.cell? ⟨db, 11, none⟩ = some (.int .i64 failed) := hB.cell 11
  have f7 : w.frozen? ⟨db, 7, none⟩ = false := hB.frozen 7
  have f8 : w.frozen? ⟨db, 8, none⟩ = false := hB.frozen 8
  have f9 : w.frozen? ⟨db, 9, none⟩ = false := hB.frozen 9
  have f10 : w.frozen? ⟨db, 10, none⟩ = false := hB.frozen 10
  simp only [] at ha hf hd
  have HB := Lib.hid hB
  have w1 := max_pred arm ha
  have w2 := max_pred fail hf
  have m1 := max_if arm
  have m2 := max_if fail
  clear hB
  have x1 : max 0 ((arm : Int) - 1) = ((arm - 1 : Nat) : Int) := by omega
  have x2 : max 0 ((fail : Int) - 1) = ((fail - 1 : Nat) : Int) := by omega
  have X1 := Lib.hid x1
  have X2 := Lib.hid x2
  clear x1 x2 m1 m2
  by_cases h1 : arm = 1
  · have t1 : ((arm : Int) == 1) = true := by rw [beq_iff_eq]; omega
    have E : Hid (stepM ⟨quota, dirs, nodes, now, lasts, waits, off, done, arm, fail, failed⟩ = (⟨quota, dirs, nodes, now, lasts, waits, true, done, 0, 0, failed⟩, 10)) := Lib.hid (by unfold stepM; rw [if_pos h1])
    clear h1
    go_enter Tryd.func27, Tryd.ntmps27
    go_wp2
    go_quiet (fail)
    go_wp2
    go_region
    all_goals
      go_wp2
      first | go_ret | (go_region; go_wp2; go_ret)
      rw [E.out]
      have hb := (((((show Blk (w.drewN (nq + 1)) db _ _ from HB.out).set_ 9 (.int .i64 (max 0 ((arm : Int) - 1)))).set_ 10 (.int .i64 (max 0 ((fail : Int) - 1)))).set_ 7 (.bool true)).set_ 9 (.int .i64 0)).set_ 10 (.int .i64 0)
      exact ⟨hb, ((((((Only.refl (g := db) w).drew (nq + 1)).set_ 9 _).set_ 10 _).set_ 7 _).set_ 9 _).set_ 10 _, rfl⟩
  · have t1 : ((arm : Int) == 1) = false := by rw [beq_eq_false_iff_ne]; omega
    by_cases h2 : fail = 1
    · have t2 : ((fail : Int) == 1) = true := by rw [beq_iff_eq]; omega
      have E : Hid (stepM ⟨quota, dirs, nodes, now, lasts, waits, off, done, arm, fail, failed⟩ = (⟨quota, dirs, nodes, now, lasts, waits, off, done, arm - 1, fail - 1, failed⟩, failed)) := Lib.hid (by unfold stepM; rw [if_neg h1, if_pos h2]; rw [show fail - 1 = 0 by omega])
      clear h1 h2
      go_enter Tryd.func27, Tryd.ntmps27
      go_wp2
      go_quiet (fail)
      go_wp2
      go_region
      all_goals
        go_wp2
        go_ret
        rw [E.out, X1.out, X2.out]
        have hb := ((show Blk (w.drewN (nq + 1)) db _ _ from HB.out).set_ 9 (.int .i64 ((arm - 1 : Nat) : Int))).set_ 10 (.int .i64 ((fail - 1 : Nat) : Int))
        exact ⟨hb, (((Only.refl (g := db) w).drew (nq + 1)).set_ 9 _).set_ 10 _, rfl⟩
    · have t2 : ((fail : Int) == 1) = false := by rw [beq_eq_false_iff_ne]; omega
      have E : Hid (stepM ⟨quota, dirs, nodes, now, lasts, waits, off, done, arm, fail, failed⟩ = (⟨quota, dirs, nodes, now, lasts, waits, off, done + 1, arm - 1, fail - 1, failed⟩, 0)) := Lib.hid (by unfold stepM; rw [if_neg h1, if_neg h2])
      clear h1 h2
      go_enter Tryd.func27, Tryd.ntmps27
      go_wp2
      go_quiet (fail)
      go_wp2
      go_region
      all_goals
        go_wp2
        go_ret
        rw [E.out, X1.out, X2.out]
        have hb := (((show Blk (w.drewN (nq + 1)) db _ _ from HB.out).set_ 9 (.int .i64 ((arm - 1 : Nat) : Int))).set_ 10 (.int .i64 ((fail - 1 : Nat) : Int))).set_ 8 (.int .i64 (done + 1))
        exact ⟨hb, ((((Only.refl (g := db) w).drew (nq + 1)).set_ 9 _).set_ 10 _).set_ 8 _, rfl⟩
/-- what step leaves of a disk -/
def SwPost (z : Nat) (w : World) (own : Nat → Nat × Nat) (db : Nat) (q : DParts) (r : Dk × Int) (e : Ending) (w' : World) : Prop := DSt z w' own db r.1 q ∧ Only db w w' ∧ e = .returned (.int .i64 r.2)
/-- the sizes of the switches -/
structure SwOk (d : Dk) (K : Nat) : Prop where
  arm : d.arm ≤ 9223372036854775807
  fail : d.fail ≤ 9223372036854775807
  d0 : 0 ≤ d.done
  d1 : d.done ≤ K
theorem step_sameD (d : Dk) : SameD d (stepM d).1 := by
  obtain ⟨h1, h2, h3, h4, h5, h6⟩ := step_same d
  exact ⟨h1, h2, h3, h4, h5, h6⟩
theorem SwOk.step {d : Dk} {K : Nat} (h : SwOk d K) : SwOk (stepM d).1 (K + 1) := by
  obtain ⟨h1, h2, h3, h4⟩ := h
  unfold stepM
  split
  · exact ⟨by simp, by simp, h3, by simp only []; omega⟩
  · split
    · exact ⟨by simp only []; omega, by simp, h3, by simp only []; omega⟩
    · exact ⟨by simp only []; omega, by simp only []; omega, by simp only []; omega, by simp only []; omega⟩
theorem step_walk (z : Nat) (w : World) (own : Nat → Nat × Nat) (db : Nat) (d : Dk) (q : DParts) (h : DSt z w own db d q) {K : Nat} (hs : SwOk d K) (hK : K ≤ 1000000) :
    Calls Tryd.prog 27 #[ptrV db] w (SwPost z w own db q (stepM d)) := by
  refine (step_cells w db _ _ _ _ _ _ _ d h.blk hs.arm hs.fail ⟨by have := hs.d0; omega, by have := hs.d1; omega⟩).mono fun e w' ⟨hb, ho, he⟩ => ⟨h.switch ho ?_ (step_sameD d), ho, he⟩
  unfold DParts.cells
  rw [usedM_same (step_sameD d), (step_sameD d).2.2.2.2.2]
  exact hb
end Go.Proofs.YtbpooaicmjkemaaDoor
