/-
  The walks of the program's Used, Count, Off, Len, Fail, Arm. Conditions: the sizes.
-/
import Derived.Test.YtbpooaicmjkemaaDoorSfFind
namespace Go.Proofs.YtbpooaicmjkemaaDoor
open Go.RowKit Go.Maps
set_option linter.unusedVariables false
section
variable {z : Nat} {w : World} {own : Nat → Nat × Nat} {db : Nat} {d : Dk} {q : DParts}
def lenM (d : Dk) (p : Tx) : Nat := if missM d p = 0 then (nodeM d (fileM d p)).now.length else 0
set_option maxHeartbeats 1000000 in
theorem fail_walk (h : DSt z w own db d q) (n e0 : Int) (hn : n ≤ 9223372036854775807) : Calls Tryd.prog 24 #[ptrV db, .int .i64 n, .int .i64 e0] w (SwPost z w own db q (failM d n e0)) := by
  have k7 : w.cell? ⟨db, 7, none⟩ = some (.bool d.off) := h.blk.cell 7
  have k10 : w.cell? ⟨db, 10, none⟩ = some (.int .i64 (d.fail : Int)) := h.blk.cell 10
  have k11 : w.cell? ⟨db, 11, none⟩ = some (.int .i64 d.failed) := h.blk.cell 11
  have f10 := h.blk.frozen 10
  have f11 := h.blk.frozen 11
  have H := Lib.hid h
  unfold ptrV
  cases ho : d.off with
  | true =>
    have E : Hid (failM d n e0 = (d, 10)) := Lib.hid (by unfold failM; rw [if_pos ho])
    rw [ho] at k7
    clear ho h
    go_enter Tryd.func24, Tryd.ntmps24
    go_wp2
    go_ret
    unfold SwPost
    rw [E.out]
    exact ⟨H.out, Only.refl _, rfl⟩
  | false =>
    rw [ho] at k7
    by_cases hb : n < 0 ∨ (e0 ≠ 16 ∧ e0 ≠ 15)
    · have E : Hid (failM d n e0 = (d, 1)) := Lib.hid (by unfold failM; rw [if_neg (by rw [ho]; decide), if_pos hb])
      clear ho h
      by_cases h0 : n < 0
      · have h1 : decide (n < 0) = true := decide_eq_true h0
        clear hb
        go_enter Tryd.func24, Tryd.ntmps24
        go_wp2
        all_goals
          go_ret
          unfold SwPost
          rw [E.out]
          exact ⟨H.out, Only.refl _, rfl⟩
      · have h1 : decide (n < 0) = false := decide_eq_false h0
        have h2 : (e0 != 16) = true := by simpa using (hb.resolve_left h0).1
        have h3 : (e0 != 15) = true := by simpa using (hb.resolve_left h0).2
        clear hb
        go_enter Tryd.func24, Tryd.ntmps24
        go_wp2
        all_goals
          go_ret
          unfold SwPost
          rw [E.out]
          exact ⟨H.out, Only.refl _, rfl⟩
    · have h0 : ¬ n < 0 := fun h => hb (.inl h)
      have E : Hid (failM d n e0 = ({ d with fail := n.toNat, failed := e0 }, 0)) := Lib.hid (by unfold failM; rw [if_neg (by rw [ho]; decide), if_neg hb])
      have h1 : decide (n < 0) = false := decide_eq_false h0
      obtain ⟨m, rfl⟩ : ∃ m : Nat, n = (m : Int) := ⟨n.toNat, by omega⟩
      rw [show ((m : Int)).toNat = m by omega] at E
      have hd : SameD d { d with fail := m, failed := e0 } := ⟨rfl, rfl, rfl, rfl, rfl, rfl⟩
      by_cases h6 : e0 = 16
      · subst h6
        clear ho h hb
        go_enter Tryd.func24, Tryd.ntmps24
        go_wp2
        all_goals
          go_ret
          unfold SwPost
          rw [E.out]
          have hb := ((show Blk w db _ _ from H.out.blk).set_ 10 (.int .i64 (m : Int))).set_ 11 (.int .i64 16)
          have hn := ((Only.refl (g := db) w).set_ 10 (.int .i64 (m : Int))).set_ 11 (.int .i64 16)
          exact ⟨H.out.switch hn hb hd, hn, rfl⟩
      · have h5 : e0 = 15 := by
          rcases Int.lt_trichotomy e0 15 with h | h | h
          · exact absurd (.inr ⟨h6, by omega⟩) hb
          · exact h
          · exact absurd (.inr ⟨h6, by omega⟩) hb
        subst h5
        clear ho h hb h6
        go_enter Tryd.func24, Tryd.ntmps24
        go_wp2
        all_goals
          go_ret
          unfold SwPost
          rw [E.out]
          have hb := ((show Blk w db _ _ from H.out.blk).set_ 10 (.int .i64 (m : Int))).set_ 11 (.int .i64 15)
          have hn := ((Only.refl (g := db) w).set_ 10 (.int .i64 (m : Int))).set_ 11 (.int .i64 15)
          exact ⟨H.out.switch hn hb hd, hn, rfl⟩
theorem arm_walk (h : DSt z w own db d q) (n : Int) (hn : n ≤ 9223372036854775807) : Calls Tryd.prog 25 #[ptrV db, .int .i64 n] w (SwPost z w own db q (armM d n)) := by
  have k7 : w.cell? ⟨db, 7, none⟩ = some (.bool d.off) := h.blk.cell 7
  have k9 : w.cell? ⟨db, 9, none⟩ = some (.int .i64 (d.arm : Int)) := h.blk.cell 9
  have f9 := h.blk.frozen 9
  have H := Lib.hid h
  unfold ptrV
  cases ho : d.off with
  | true =>
    have E : Hid (armM d n = (d, 10)) := Lib.hid (by unfold armM; rw [if_pos ho])
    rw [ho] at k7
    clear ho h
    go_enter Tryd.func25, Tryd.ntmps25
    go_wp2
    go_ret
    unfold SwPost
    rw [E.out]
    exact ⟨H.out, Only.refl _, rfl⟩
  | false =>
    rw [ho] at k7
    by_cases h0 : n < 0
    · have E : Hid (armM d n = (d, 1)) := Lib.hid (by unfold armM; rw [if_neg (by rw [ho]; decide), if_pos h0])
      clear ho h
      go_enter Tryd.func25, Tryd.ntmps25
      go_wp2
      go_ret
      unfold SwPost
      rw [E.out]
      exact ⟨H.out, Only.refl _, rfl⟩
    · have E : Hid (armM d n = ({ d with arm := n.toNat }, 0)) := Lib.hid (by unfold armM; rw [if_neg (by rw [ho]; decide), if_neg h0])
      obtain ⟨m, rfl⟩ : ∃ m : Nat, n = (m : Int) := ⟨n.toNat, by omega⟩
      rw [show ((m : Int)).toNat = m by omega] at E
      have hd : SameD d { d with arm := m } := ⟨rfl, rfl, rfl, rfl, rfl, rfl⟩
      clear ho h
      go_enter Tryd.func25, Tryd.ntmps25
      go_wp2
      all_goals
        go_ret
        unfold SwPost
        rw [E.out]
        have hb := (show Blk w db _ _ from H.out.blk).set_ 9 (.int .i64 (m : Int))
        have hn := (Only.refl (g := db) w).set_ 9 (.int .i64 (m : Int))
        exact ⟨H.out.switch hn hb hd, hn, rfl⟩
end
end Go.Proofs.YtbpooaicmjkemaaDoor
