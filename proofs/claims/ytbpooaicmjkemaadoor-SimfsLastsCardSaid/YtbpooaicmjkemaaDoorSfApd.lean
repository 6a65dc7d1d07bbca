/-
  The walks of the program's Append and WriteAt. Conditions: the lengths.
-/
import Derived.Test.YtbpooaicmjkemaaDoorSfWr
namespace Go.Proofs.YtbpooaicmjkemaaDoor
open Go.RowKit Go.Maps
set_option linter.unusedVariables false
theorem OpPost.same {z db : Nat} {w : World} {own : Nat → Nat × Nat} {d : Dk} {q : DParts} (h : DSt z w own db d q) (c : Int) (n : Nat) : OpPost z w own db (d, c) (.returned (.int .i64 c)) (w.drewN n) :=
  ⟨own, ⟨q, h.goes (keep := fun _ => True) ⟨Nat.le_refl _, fun k hk _ => ⟨rfl, rfl⟩⟩ trivial fun _ _ => trivial⟩, rfl, (Turn.refl _ w own).drewN n⟩
theorem OpPost.drewN {z db n : Nat} {w : World} {own : Nat → Nat × Nat} {r : Dk × Int} {e : Ending} {w' : World} (h : OpPost z (w.drewN n) own db r e w') : OpPost z w own db r e w' := by
  obtain ⟨own', h1, h2, h3⟩ := h
  exact ⟨own', h1, h2, ⟨h3.os, h3.tape, h3.output, h3.size, h3.block, h3.mark⟩⟩
theorem DSt.drewN {z db : Nat} {w : World} {own : Nat → Nat × Nat} {d : Dk} {q : DParts} (h : DSt z w own db d q) (n : Nat) : DSt z (w.drewN n) own db d q :=
  h.goes (keep := fun _ => True) ⟨Nat.le_refl _, fun k hk _ => ⟨rfl, rfl⟩⟩ trivial fun _ _ => trivial
theorem fit_end (l b : Tx) : FitW l ⟨-1, b⟩ := .inl rfl
set_option maxHeartbeats 1000000 in
theorem append_walk (z : Nat) (w : World) (own : Nat → Nat × Nat) (db : Nat) (d : Dk) (q : DParts) (h : DSt z w own db d q) {K : Nat} (hw : Wf d K) (hs : SwOk d K) (hK : K ≤ 100000) (p : Tx) (hp : p.length ≤ maxLen)
    (bt0 : Tx) (Ab : Option Addr) (nb cb : Nat) (hn : bt0.length = nb) (hr : RB w w.heap.size Ab bt0) (hA : Ab = none → nb = 0) (hc : nb ≤ cb) (hm : cb ≤ maxLen) :
    Calls Tryd.prog 9 #[ptrV db, .string (bs p), .slice Ab nb cb] w (OpPost z w own db (appendM d p bt0)) := by
  have KF := Lib.hid (find_walk z w own db d q h hw p hp)
  have H := Lib.hid h
  by_cases hm0 : missM d p = 0
  · obtain ⟨i, b, x, e3, e4, hb, hx, hnd, -, hF⟩ := found_at h hw hm0
    have e2 : findV d q.bl p = .pointer (some ⟨b, 0, none⟩) := by unfold findV; rw [if_pos hm0, e4, hb]; rfl
    rw [e2, hm0] at KF
    have k0 : ∀ n, (w.drewN n).cell? ⟨db, 0, none⟩ = some (.int .i64 d.quota) := fun n => h.blk.cell 0
    have k1 : ∀ n, (w.drewN n).cell? ⟨db, 1, none⟩ = some (.int .i64 (usedM d : Int)) := fun n => h.blk.cell 1
    have k00 := k0 0
    have k10 := k1 0
    rw [drewN0] at k00 k10
    have hu := hw.used
    have hq1 := hw.q1
    have hq2 := hw.q2
    have hsub : IntKind.i64.wrap (d.quota - (usedM d : Int)) = d.quota - (usedM d : Int) := IntWalk.i64_in _ (by omega)
    by_cases hg : (bt0.length : Int) > d.quota - usedM d
    · have E : Hid (appendM d p bt0 = (d, 15)) := Lib.hid (by unfold appendM; rw [if_neg (by rw [hm0]; decide), if_pos hg])
      rw [hn] at hg
      have hg2 : d.quota - (usedM d : Int) < (nb : Int) := hg
      clear h hw hs hp e2 e3 e4 hb hx hnd hF hm0 hr hA hn hu hq1 hq2 hg
      unfold ptrV at *
      go_enter Tryd.func9, Tryd.ntmps9
      go_wp2_with fail
      refine KF.out.mono ?_
      rintro e w1 ⟨rfl, rfl⟩
      go_wp2_with fail
      go_quiet (fail)
      go_wp2
      all_goals
        go_ret
        rw [E.out]
        exact OpPost.same H.out 15 _
    · have hl := laid_len (fit_end x.now bt0)
      have hlen : (laid x.now ⟨-1, bt0⟩).length ≤ 67108864 := by
        rw [hl, if_pos (show (-1 : Int) < 0 by decide)]
        have hm1 := getE_some e3
        have h1 : x.now.length ≤ usedM d := by
          have h2 := used_set (nodes := d.nodes) (x := nd0) hw.sn hw.ijn p hm1 (hw.iln _ hm1)
          rw [List.getD_eq_getElem?_getD, hx] at h2
          simp only [Option.getD_some] at h2
          show _ ≤ usedL d.nodes d.now
          simp [nd0] at h2
          omega
        show x.now.length + bt0.length ≤ _
        omega
      have E : Hid (appendM d p bt0 = writeM d i ⟨-1, bt0⟩) := Lib.hid (by unfold appendM; rw [if_neg (by rw [hm0]; decide), if_neg hg, e4])
      rw [hn] at hg
      have hg2 : ¬ d.quota - (usedM d : Int) < (nb : Int) := hg
      have KW : Hid (∀ n, Calls Tryd.prog 30 #[ptrV db, ptrV b, .agg #[.int .i64 (-1), .slice Ab nb cb]] (w.drewN n) (OpPost z (w.drewN n) own db (writeM d i ⟨-1, bt0⟩))) := Lib.hid fun n => by
        have := write_walk z (w.drewN n) own db d q (h.drewN n) hw hs hK p i b e3 hb ⟨-1, bt0⟩ Ab cb hr (fun e => by show bt0.length = 0; rw [hn]; exact hA e) (by show bt0.length ≤ cb; omega) hm (fit_end _ _) (by rw [hnd]; exact hlen) (show (-1 : Int) ≤ 9223372036854775807 by decide)
        simp only [hn] at this
        exact this
      clear h hw hs hp e2 e3 e4 hb hx hnd hF hm0 hr hA hn hu hq1 hq2 hg hl hlen
      unfold ptrV at *
      go_enter Tryd.func9, Tryd.ntmps9
      go_wp2_with fail
      refine KF.out.mono ?_
      rintro e w1 ⟨rfl, rfl⟩
      go_wp2_with fail
      go_quiet (fail)
      go_wp2_with fail
      refine (KW.out _).mono ?_
      rintro e w2 hpo
      have HPO := Lib.hid hpo.drewN
      obtain ⟨own', hd', rfl, ht'⟩ := hpo
      clear hd' ht'
      generalize hwm : writeM d i ⟨-1, bt0⟩ = wm at *
      have HWM := Lib.hid hwm
      clear hwm
      go_wp2_with fail
      go_ret
      rw [E.out]
      exact HPO.out
  · have E : Hid (appendM d p bt0 = (d, missM d p)) := Lib.hid (by unfold appendM; rw [if_pos hm0])
    have e2 : findV d q.bl p = .pointer none := by unfold findV; rw [if_neg hm0]
    have hm2 : (missM d p != 0) = true := by simpa using hm0
    rw [e2] at KF
    clear h hw hs hp e2 hr hA hn hm0
    generalize missM d p = m at *
    unfold ptrV at *
    go_enter Tryd.func9, Tryd.ntmps9
    go_wp2_with fail
    refine KF.out.mono ?_
    rintro e w1 ⟨rfl, rfl⟩
    go_wp2_with fail
    go_ret
    rw [E.out]
    exact OpPost.same H.out m 0
set_option maxHeartbeats 1000000 in
theorem writeAt_walk (z : Nat) (w : World) (own : Nat → Nat × Nat) (db : Nat) (d : Dk) (q : DParts) (h : DSt z w own db d q) {K : Nat} (hw : Wf d K) (hs : SwOk d K) (hK : K ≤ 100000) (p : Tx) (hp : p.length ≤ maxLen) (at_ : Int)
    (ha : -9223372036854775808 ≤ at_ ∧ at_ ≤ 9223372036854775807) (bt0 : Tx) (Ab : Option Addr) (nb cb : Nat) (hn : bt0.length = nb) (hr : RB w w.heap.size Ab bt0) (hA : Ab = none → nb = 0) (hc : nb ≤ cb) (hm : cb ≤ maxLen) :
    Calls Tryd.prog 14 #[ptrV db, .string (bs p), .int .i64 at_, .slice Ab nb cb] w (OpPost z w own db (writeAtM d p at_ bt0)) := by
  have KF := Lib.hid (find_walk z w own db d q h hw p hp)
  have H := Lib.hid h
  by_cases hm0 : missM d p = 0
  · obtain ⟨i, b, x, e3, e4, hb, hx, hnd, -, hF⟩ := found_at h hw hm0
    have e2 : findV d q.bl p = .pointer (some ⟨b, 0, none⟩) := by unfold findV; rw [if_pos hm0, e4, hb]; rfl
    rw [e2, hm0] at KF
    have hxl := (hw.node i).ln
    rw [hnd] at hxl
    obtain ⟨-, vn, gn, vl, gl, vw, gw, vs, hB, hO, -⟩ := hF
    obtain ⟨A, c, rfl, -⟩ := hO
    have k0 : w.cell? ⟨b, 0, none⟩ = some (.slice A x.now.length c) := hB.cell 0
    clear hB
    by_cases hg : at_ < 0 ∨ at_ > (x.now.length : Int) ∨ (bt0.length : Int) > (x.now.length : Int) - at_
    · have E : Hid (writeAtM d p at_ bt0 = (d, 1)) := Lib.hid (by unfold writeAtM; rw [if_neg (by rw [hm0]; decide), e4, hnd, if_pos hg])
      rw [hn] at hg
      clear h hw hs hp e2 e3 e4 hb hx hnd hm0 hr hA hn
      generalize x.now.length = n at *
      unfold ptrV at *
      by_cases g1 : at_ < 0
      · clear hg
        go_enter Tryd.func14, Tryd.ntmps14
        go_wp2_with fail
        refine KF.out.mono ?_
        rintro e w1 ⟨rfl, rfl⟩
        go_wp2_with fail
        all_goals
          go_ret
          rw [E.out]
          exact OpPost.same H.out 1 0
      · by_cases g2 : (n : Int) < at_
        · clear hg
          go_enter Tryd.func14, Tryd.ntmps14
          go_wp2_with fail
          refine KF.out.mono ?_
          rintro e w1 ⟨rfl, rfl⟩
          go_wp2_with fail
          all_goals
            go_ret
            rw [E.out]
            exact OpPost.same H.out 1 0
        · have g3 : (n : Int) - at_ < (nb : Int) := by omega
          clear hg
          go_enter Tryd.func14, Tryd.ntmps14
          go_wp2_with fail
          refine KF.out.mono ?_
          rintro e w1 ⟨rfl, rfl⟩
          go_wp2_with fail
          all_goals
            go_ret
            rw [E.out]
            exact OpPost.same H.out 1 0
    · have hf : FitW x.now ⟨at_, bt0⟩ := .inr ⟨by show 0 ≤ at_; omega, by show at_.toNat + bt0.length ≤ x.now.length; omega⟩
      have hl := laid_len hf
      have hlen : (laid x.now ⟨at_, bt0⟩).length ≤ 67108864 := by
        rw [hl, if_neg (by show ¬ at_ < 0; omega)]
        omega
      have E : Hid (writeAtM d p at_ bt0 = writeM d i ⟨at_, bt0⟩) := Lib.hid (by unfold writeAtM; rw [if_neg (by rw [hm0]; decide), e4, hnd, if_neg hg])
      have KW : Hid (Calls Tryd.prog 30 #[ptrV db, ptrV b, .agg #[.int .i64 at_, .slice Ab nb cb]] w (OpPost z w own db (writeM d i ⟨at_, bt0⟩))) := Lib.hid (by
        have := write_walk z w own db d q h hw hs hK p i b e3 hb ⟨at_, bt0⟩ Ab cb hr (fun e => by show bt0.length = 0; rw [hn]; exact hA e) (by show bt0.length ≤ cb; omega) hm (by rw [hnd]; exact hf) (by rw [hnd]; exact hlen) ha.2
        simp only [hn] at this
        exact this)
      rw [hn] at hg
      clear h hw hs hp e2 e3 e4 hb hx hnd hm0 hr hA hn hf hl hlen
      generalize x.now.length = n at *
      have g1 : ¬ at_ < 0 := fun h => hg (.inl h)
      have g2 : ¬ (n : Int) < at_ := fun h => hg (.inr (.inl h))
      have g3 : ¬ (n : Int) - at_ < (nb : Int) := fun h => hg (.inr (.inr h))
      clear hg
      unfold ptrV at *
      go_enter Tryd.func14, Tryd.ntmps14
      go_wp2_with fail
      refine KF.out.mono ?_
      rintro e w1 ⟨rfl, rfl⟩
      go_wp2_with fail
      refine KW.out.mono ?_
      rintro e w2 hpo
      have HPO := Lib.hid hpo
      obtain ⟨own', hd', rfl, ht'⟩ := hpo
      clear hd' ht'
      generalize hwm : writeM d i ⟨at_, bt0⟩ = wm at *
      clear hwm
      go_wp2_with fail
      go_ret
      rw [E.out]
      exact HPO.out
  · have E : Hid (writeAtM d p at_ bt0 = (d, missM d p)) := Lib.hid (by unfold writeAtM; rw [if_pos hm0])
    have e2 : findV d q.bl p = .pointer none := by unfold findV; rw [if_neg hm0]
    have hm2 : (missM d p != 0) = true := by simpa using hm0
    rw [e2] at KF
    clear h hw hs hp e2 hr hA hn hm0
    generalize missM d p = m at *
    unfold ptrV at *
    go_enter Tryd.func14, Tryd.ntmps14
    go_wp2_with fail
    refine KF.out.mono ?_
    rintro e w1 ⟨rfl, rfl⟩
    go_wp2_with fail
    go_ret
    rw [E.out]
    exact OpPost.same H.out m 0
end Go.Proofs.YtbpooaicmjkemaaDoor
