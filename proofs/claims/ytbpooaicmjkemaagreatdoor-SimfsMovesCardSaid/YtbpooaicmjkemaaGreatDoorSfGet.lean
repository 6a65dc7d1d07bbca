/-
  The walks of the program's Used, Count, Off, Len, Fail, Arm. Conditions: the sizes.
-/
import Derived.Test.YtbpooaicmjkemaaGreatDoorSfFind
namespace Go.Proofs.YtbpooaicmjkemaaGreatDoor
open Go.RowKit Go.Maps
set_option linter.unusedVariables false
section
variable {z : Nat} {w : World} {own : Nat → Nat × Nat} {db : Nat} {d : Dk} {q : DParts}
theorem used_walk (h : DSt z w own db d q) : Calls Tryz.prog 63 #[ptrV db] w fun e w' => e = .returned (.int .i64 (if d.off = true then 0 else (usedM d : Int))) ∧ w' = w := by
  have k7 : w.cell? ⟨db, 7, none⟩ = some (.bool d.off) := h.blk.cell 7
  have k1 : w.cell? ⟨db, 1, none⟩ = some (.int .i64 (usedM d : Int)) := h.blk.cell 1
  unfold ptrV
  generalize usedM d = u at *
  clear h
  cases ho : d.off with
  | true =>
    rw [ho] at k7
    rw [if_pos rfl]
    clear ho
    go_enter Tryz.func63, Tryz.ntmps63
    go_wp2
    go_ret
    exact ⟨rfl, rfl⟩
  | false =>
    rw [ho] at k7
    rw [if_neg (by decide)]
    clear ho
    go_enter Tryz.func63, Tryz.ntmps63
    go_wp2
    go_ret
    exact ⟨rfl, rfl⟩
theorem count_walk (h : DSt z w own db d q) : Calls Tryz.prog 65 #[ptrV db] w fun e w' => e = .returned (.int .i64 d.done) ∧ w' = w := by
  have k8 : w.cell? ⟨db, 8, none⟩ = some (.int .i64 d.done) := h.blk.cell 8
  unfold ptrV
  generalize d.done = u at *
  clear h
  go_enter Tryz.func65, Tryz.ntmps65
  go_wp2
  go_ret
  exact ⟨rfl, rfl⟩
theorem off_walk (h : DSt z w own db d q) : Calls Tryz.prog 67 #[ptrV db] w fun e w' => e = .returned (.bool d.off) ∧ w' = w := by
  have k7 : w.cell? ⟨db, 7, none⟩ = some (.bool d.off) := h.blk.cell 7
  unfold ptrV
  generalize d.off = u at *
  clear h
  go_enter Tryz.func67, Tryz.ntmps67
  go_wp2
  go_ret
  exact ⟨rfl, rfl⟩
def lenM (d : Dk) (p : Tx) : Nat := if missM d p = 0 then (nodeM d (fileM d p)).now.length else 0
theorem len_walk (h : DSt z w own db d q) {K : Nat} (hw : Wf d K) (p : Tx) (hp : p.length ≤ maxLen) : Calls Tryz.prog 15 #[ptrV db, .string (bs p)] w fun e w' => e = .returned (.tuple #[.int .i64 (lenM d p : Int), .bool (missM d p == 0)]) ∧ w' = w := by
  have KF := Lib.hid (find_walk z w own db d q h hw p hp)
  by_cases hm : missM d p = 0
  · obtain ⟨i, b, x, e3, e4, hb, hx, hn, -, hF⟩ := found_at h hw hm
    obtain ⟨-, vn, gn, vl, gl, vw, gw, vs, hB, hO, -⟩ := hF
    obtain ⟨A, c, rfl, -⟩ := hO
    have k0 : w.cell? ⟨b, 0, none⟩ = some (.slice A x.now.length c) := hB.cell 0
    have e2 : findV d q.bl p = .pointer (some ⟨b, 0, none⟩) := by unfold findV; rw [if_pos hm, e4, hb]; rfl
    have e5 : lenM d p = x.now.length := by unfold lenM; rw [if_pos hm, e4, hn]
    rw [e2, hm] at KF
    rw [e5, hm]
    clear h hw hp hm e2 e3 e4 e5 hb hx hn hB
    generalize x.now.length = n at *
    unfold ptrV at *
    go_enter Tryz.func15, Tryz.ntmps15
    go_wp2_with fail
    refine KF.out.mono ?_
    rintro e w1 ⟨rfl, rfl⟩
    go_wp2_with fail
    go_ret2
    exact ⟨rfl, rfl⟩
  · have e2 : findV d q.bl p = .pointer none := by unfold findV; rw [if_neg hm]
    have e5 : lenM d p = 0 := by unfold lenM; rw [if_neg hm]
    have hm1 : (missM d p == 0) = false := by simpa using hm
    have hm2 : (missM d p != 0) = true := by simpa using hm
    rw [e2] at KF
    rw [e5, hm1]
    clear h hw hp e2 e5 hm
    generalize missM d p = m at *
    unfold ptrV at *
    go_enter Tryz.func15, Tryz.ntmps15
    go_wp2_with fail
    refine KF.out.mono ?_
    rintro e w1 ⟨rfl, rfl⟩
    go_wp2_with fail
    go_ret2
    exact ⟨rfl, rfl⟩
set_option maxHeartbeats 1000000 in
theorem fail_walk (h : DSt z w own db d q) (n e0 : Int) (hn : n ≤ 9223372036854775807) : Calls Tryz.prog 59 #[ptrV db, .int .i64 n, .int .i64 e0] w (SwPost z w own db q (failM d n e0)) := by
  have k7 : w.cell? ⟨db, 7, none⟩ = some (.bool d.off) := h.blk.cell 7
  have k10 : w.cell? ⟨db, 10, none⟩ = some (.int .i64 (d.fail : Int)) := h.blk.cell 10
  have k11 : w.cell? ⟨db, 11, none⟩ = some (.int .i64 d.failed) := h.blk.cell 11
  have f10 := h.blk.frozen 10
  have f11 := h.blk.frozen 11
  have H := Lib.hid h
  unfold ptrV
  cases ho : d.off with
  | true =>
    have E : Hid (failM d n e0 = (d, 10)) := Lib.hid (by unfold failM; rw [if_pos ho])
    rw [ho] at k7
    clear ho h
    go_enter Tryz.func59, Tryz.ntmps59
    go_wp2
    go_ret
    unfold SwPost
    rw [E.out]
    exact ⟨H.out, Only.refl _, rfl⟩
  | false =>
    rw [ho] at k7
    by_cases hb : n < 0 ∨ (e0 ≠ 16 ∧ e0 ≠ 15)
    · have E : Hid (failM d n e0 = (d, 1)) := Lib.hid (by unfold failM; rw [if_neg (by rw [ho]; decide), if_pos hb])
      clear ho h
      by_cases h0 : n < 0
      · have h1 : decide (n < 0) = true := decide_eq_true h0
        clear hb
        go_enter Tryz.func59, Tryz.ntmps59
        go_wp2
        all_goals
          go_ret
          unfold SwPost
          rw [E.out]
          exact ⟨H.out, Only.refl _, rfl⟩
      · have h1 : decide (n < 0) = false := decide_eq_false h0
        have h2 : (e0 != 16) = true := by simpa using (hb.resolve_left h0).1
        have h3 : (e0 != 15) = true := by simpa using (hb.resolve_left h0).2
        clear hb
        go_enter Tryz.func59, Tryz.ntmps59
        go_wp2
        all_goals
          go_ret
          unfold SwPost
          rw [E.out]
          exact ⟨H.out, Only.refl _, rfl⟩
    · have h0 : ¬ n < 0 := fun h => hb (.inl h)
      have E : Hid (failM d n e0 = ({ d with fail := n.toNat, failed := e0 }, 0)) := Lib.hid (by unfold failM; rw [if_neg (by rw [ho]; decide), if_neg hb])
      have h1 : decide (n < 0) = false := decide_eq_false h0
      obtain ⟨m, rfl⟩ : ∃ m : Nat, n = (m : Int) := ⟨n.toNat, by omega⟩
      rw [show ((m : Int)).toNat = m by omega] at E
      have hd : SameD d { d with fail := m, failed := e0 } := ⟨rfl, rfl, rfl, rfl, rfl, rfl⟩
      by_cases h6 : e0 = 16
      · subst h6
        clear ho h hb
        go_enter Tryz.func59, Tryz.ntmps59
        go_wp2
        all_goals
          go_ret
          unfold SwPost
          rw [E.out]
          have hb := ((show Blk w db _ _ from H.out.blk).set_ 10 (.int .i64 (m : Int))).set_ 11 (.int .i64 16)
          have hn := ((Only.refl (g := db) w).set_ 10 (.int .i64 (m : Int))).set_ 11 (.int .i64 16)
          exact ⟨H.out.switch hn hb hd, hn, rfl⟩
      · have h5 : e0 = 15 := by
          rcases Int.lt_trichotomy e0 15 with h | h | h
          · exact absurd (.inr ⟨h6, by omega⟩) hb
          · exact h
          · exact absurd (.inr ⟨h6, by omega⟩) hb
        subst h5
        clear ho h hb h6
        go_enter Tryz.func59, Tryz.ntmps59
        go_wp2
        all_goals
          go_ret
          unfold SwPost
          rw [E.out]
          have hb := ((show Blk w db _ _ from H.out.blk).set_ 10 (.int .i64 (m : Int))).set_ 11 (.int .i64 15)
          have hn := ((Only.refl (g := db) w).set_ 10 (.int .i64 (m : Int))).set_ 11 (.int .i64 15)
          exact ⟨H.out.switch hn hb hd, hn, rfl⟩
theorem arm_walk (h : DSt z w own db d q) (n : Int) (hn : n ≤ 9223372036854775807) : Calls Tryz.prog 60 #[ptrV db, .int .i64 n] w (SwPost z w own db q (armM d n)) := by
  have k7 : w.cell? ⟨db, 7, none⟩ = some (.bool d.off) := h.blk.cell 7
  have k9 : w.cell? ⟨db, 9, none⟩ = some (.int .i64 (d.arm : Int)) := h.blk.cell 9
  have f9 := h.blk.frozen 9
  have H := Lib.hid h
  unfold ptrV
  cases ho : d.off with
  | true =>
    have E : Hid (armM d n = (d, 10)) := Lib.hid (by unfold armM; rw [if_pos ho])
    rw [ho] at k7
    clear ho h
    go_enter Tryz.func60, Tryz.ntmps60
    go_wp2
    go_ret
    unfold SwPost
    rw [E.out]
    exact ⟨H.out, Only.refl _, rfl⟩
  | false =>
    rw [ho] at k7
    by_cases h0 : n < 0
    · have E : Hid (armM d n = (d, 1)) := Lib.hid (by unfold armM; rw [if_neg (by rw [ho]; decide), if_pos h0])
      clear ho h
      go_enter Tryz.func60, Tryz.ntmps60
      go_wp2
      go_ret
      unfold SwPost
      rw [E.out]
      exact ⟨H.out, Only.refl _, rfl⟩
    · have E : Hid (armM d n = ({ d with arm := n.toNat }, 0)) := Lib.hid (by unfold armM; rw [if_neg (by rw [ho]; decide), if_neg h0])
      obtain ⟨m, rfl⟩ : ∃ m : Nat, n = (m : Int) := ⟨n.toNat, by omega⟩
      rw [show ((m : Int)).toNat = m by omega] at E
      have hd : SameD d { d with arm := m } := ⟨rfl, rfl, rfl, rfl, rfl, rfl⟩
      clear ho h
      go_enter Tryz.func60, Tryz.ntmps60
      go_wp2
      all_goals
        go_ret
        unfold SwPost
        rw [E.out]
        have hb := (show Blk w db _ _ from H.out.blk).set_ 9 (.int .i64 (m : Int))
        have hn := (Only.refl (g := db) w).set_ 9 (.int .i64 (m : Int))
        exact ⟨H.out.switch hn hb hd, hn, rfl⟩
end
end Go.Proofs.YtbpooaicmjkemaaGreatDoor
