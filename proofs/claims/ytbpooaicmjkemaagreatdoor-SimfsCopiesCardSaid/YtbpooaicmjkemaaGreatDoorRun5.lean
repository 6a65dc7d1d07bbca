/-
  Several texts in one (merge.py): SfApd, SfSync. Conditions: each part names its own.
-/
import Derived.Test.YtbpooaicmjkemaaGreatDoorSfWr
/-! The walks of the program's Append and WriteAt. Conditions: the lengths. -/
namespace Go.Proofs.YtbpooaicmjkemaaGreatDoor
open Go.RowKit Go.Maps
set_option linter.unusedVariables false
theorem OpPost.same {z db : Nat} {w : World} {own : Nat → Nat × Nat} {d : Dk} {q : DParts} (h : DSt z w own db d q) (c : Int) (n : Nat) : OpPost z w own db (d, c) (.returned (.int .i64 c)) (w.drewN n) :=
  ⟨own, ⟨q, h.goes (keep := fun _ => True) ⟨Nat.le_refl _, fun k hk _ => ⟨rfl, rfl⟩⟩ trivial fun _ _ => trivial⟩, rfl, (Turn.refl _ w own).drewN n⟩
theorem OpPost.drewN {z db n : Nat} {w : World} {own : Nat → Nat × Nat} {r : Dk × Int} {e : Ending} {w' : World} (h : OpPost z (w.drewN n) own db r e w') : OpPost z w own db r e w' := by
  obtain ⟨own', h1, h2, h3⟩ := h
  exact ⟨own', h1, h2, ⟨h3.os, h3.tape, h3.output, h3.size, h3.block, h3.mark⟩⟩
theorem DSt.drewN {z db : Nat} {w : World} {own : Nat → Nat × Nat} {d : Dk} {q : DParts} (h : DSt z w own db d q) (n : Nat) : DSt z (w.drewN n) own db d q :=
  h.goes (keep := fun _ => True) ⟨Nat.le_refl _, fun k hk _ => ⟨rfl, rfl⟩⟩ trivial fun _ _ => trivial
theorem fit_end (l b : Tx) : FitW l ⟨-1, b⟩ := .inl rfl
set_option maxHeartbeats 1000000 in
theorem append_walk (z : Nat) (w : World) (own : Nat → Nat × Nat) (db : Nat) (d : Dk) (q : DParts) (h : DSt z w own db d q) {K : Nat} (hw : Wf d K) (hs : SwOk d K) (hK : K ≤ 100000) (p : Tx) (hp : p.length ≤ maxLen)
    (bt0 : Tx) (Ab : Option Addr) (nb cb : Nat) (hn : bt0.length = nb) (hr : RB w w.heap.size Ab bt0) (hA : Ab = none → nb = 0) (hc : nb ≤ cb) (hm : cb ≤ maxLen) :
    Calls Tryz.prog 9 #[ptrV db, .string (bs p), .slice Ab nb cb] w (OpPost z w own db (appendM d p bt0)) := by
  have KF := Lib.hid (find_walk z w own db d q h hw p hp)
  have H := Lib.hid h
  by_cases hm0 : missM d p = 0
  · obtain ⟨i, b, x, e3, e4, hb, hx, hnd, -, hF⟩ := found_at h hw hm0
    have e2 : findV d q.bl p = .pointer (some ⟨b, 0, none⟩) := by unfold findV; rw [if_pos hm0, e4, hb]; rfl
    rw [e2, hm0] at KF
    have k0 : ∀ n, (w.drewN n).cell? ⟨db, 0, none⟩ = some (.int .i64 d.quota) := fun n => h.blk.cell 0
    have k1 : ∀ n, (w.drewN n).cell? ⟨db, 1, none⟩ = some (.int .i64 (usedM d : Int)) := fun n => h.blk.cell 1
    have k00 := k0 0
    have k10 := k1 0
    rw [drewN0] at k00 k10
    have hu := hw.used
    have hq1 := hw.q1
    have hq2 := hw.q2
    have hsub : IntKind.i64.wrap (d.quota - (usedM d : Int)) = d.quota - (usedM d : Int) := IntWalk.i64_in _ (by omega)
    by_cases hg : (bt0.length : Int) > d.quota - usedM d
    · have E : Hid (appendM d p bt0 = (d, 15)) := Lib.hid (by unfold appendM; rw [if_neg (by rw [hm0]; decide), if_pos hg])
      rw [hn] at hg
      have hg2 : d.quota - (usedM d : Int) < (nb : Int) := hg
      clear h hw hs hp e2 e3 e4 hb hx hnd hF hm0 hr hA hn hu hq1 hq2 hg
      unfold ptrV at *
      go_enter Tryz.func9, Tryz.ntmps9
      go_wp2_with fail
      refine KF.out.mono ?_
      rintro e w1 ⟨rfl, rfl⟩
      go_wp2_with fail
      go_quiet (fail)
      go_wp2
      all_goals
        go_ret
        rw [E.out]
        exact OpPost.same H.out 15 _
    · have hl := laid_len (fit_end x.now bt0)
      have hlen : (laid x.now ⟨-1, bt0⟩).length ≤ 67108864 := by
        rw [hl, if_pos (show (-1 : Int) < 0 by decide)]
        have hm1 := getE_some e3
        have h1 : x.now.length ≤ usedM d := by
          have h2 := used_set (nodes := d.nodes) (x := nd0) hw.sn hw.ijn p hm1 (hw.iln _ hm1)
          rw [List.getD_eq_getElem?_getD, hx] at h2
          simp only [Option.getD_some] at h2
          show _ ≤ usedL d.nodes d.now
          simp [nd0] at h2
          omega
        show x.now.length + bt0.length ≤ _
        omega
      have E : Hid (appendM d p bt0 = writeM d i ⟨-1, bt0⟩) := Lib.hid (by unfold appendM; rw [if_neg (by rw [hm0]; decide), if_neg hg, e4])
      rw [hn] at hg
      have hg2 : ¬ d.quota - (usedM d : Int) < (nb : Int) := hg
      have KW : Hid (∀ n, Calls Tryz.prog 36 #[ptrV db, ptrV b, .agg #[.int .i64 (-1), .slice Ab nb cb]] (w.drewN n) (OpPost z (w.drewN n) own db (writeM d i ⟨-1, bt0⟩))) := Lib.hid fun n => by
        have := write_walk z (w.drewN n) own db d q (h.drewN n) hw hs hK p i b e3 hb ⟨-1, bt0⟩ Ab cb hr (fun e => by show bt0.length = 0; rw [hn]; exact hA e) (by show bt0.length ≤ cb; omega) hm (fit_end _ _) (by rw [hnd]; exact hlen) (show (-1 : Int) ≤ 9223372036854775807 by decide)
        simp only [hn] at this
        exact this
      clear h hw hs hp e2 e3 e4 hb hx hnd hF hm0 hr hA hn hu hq1 hq2 hg hl hlen
      unfold ptrV at *
      go_enter Tryz.func9, Tryz.ntmps9
      go_wp2_with fail
      refine KF.out.mono ?_
      rintro e w1 ⟨rfl, rfl⟩
      go_wp2_with fail
      go_quiet (fail)
      go_wp2_with fail
      refine (KW.out _).mono ?_
      rintro e w2 hpo
      have HPO := Lib.hid hpo.drewN
      obtain ⟨own', hd', rfl, ht'⟩ := hpo
      clear hd' ht'
      generalize hwm : writeM d i ⟨-1, bt0⟩ = wm at *
      have HWM := Lib.hid hwm
      clear hwm
      go_wp2_with fail
      go_ret
      rw [E.out]
      exact HPO.out
  · have E : Hid (appendM d p bt0 = (d, missM d p)) := Lib.hid (by unfold appendM; rw [if_pos hm0])
    have e2 : findV d q.bl p = .pointer none := by unfold findV; rw [if_neg hm0]
    have hm2 : (missM d p != 0) = true := by simpa using hm0
    rw [e2] at KF
    clear h hw hs hp e2 hr hA hn hm0
    generalize missM d p = m at *
    unfold ptrV at *
    go_enter Tryz.func9, Tryz.ntmps9
    go_wp2_with fail
    refine KF.out.mono ?_
    rintro e w1 ⟨rfl, rfl⟩
    go_wp2_with fail
    go_ret
    rw [E.out]
    exact OpPost.same H.out m 0
set_option maxHeartbeats 1000000 in
theorem writeAt_walk (z : Nat) (w : World) (own : Nat → Nat × Nat) (db : Nat) (d : Dk) (q : DParts) (h : DSt z w own db d q) {K : Nat} (hw : Wf d K) (hs : SwOk d K) (hK : K ≤ 100000) (p : Tx) (hp : p.length ≤ maxLen) (at_ : Int)
    (ha : -9223372036854775808 ≤ at_ ∧ at_ ≤ 9223372036854775807) (bt0 : Tx) (Ab : Option Addr) (nb cb : Nat) (hn : bt0.length = nb) (hr : RB w w.heap.size Ab bt0) (hA : Ab = none → nb = 0) (hc : nb ≤ cb) (hm : cb ≤ maxLen) :
    Calls Tryz.prog 23 #[ptrV db, .string (bs p), .int .i64 at_, .slice Ab nb cb] w (OpPost z w own db (writeAtM d p at_ bt0)) := by
  have KF := Lib.hid (find_walk z w own db d q h hw p hp)
  have H := Lib.hid h
  by_cases hm0 : missM d p = 0
  · obtain ⟨i, b, x, e3, e4, hb, hx, hnd, -, hF⟩ := found_at h hw hm0
    have e2 : findV d q.bl p = .pointer (some ⟨b, 0, none⟩) := by unfold findV; rw [if_pos hm0, e4, hb]; rfl
    rw [e2, hm0] at KF
    have hxl := (hw.node i).ln
    rw [hnd] at hxl
    obtain ⟨-, vn, gn, vl, gl, vw, gw, vs, hB, hO, -⟩ := hF
    obtain ⟨A, c, rfl, -⟩ := hO
    have k0 : w.cell? ⟨b, 0, none⟩ = some (.slice A x.now.length c) := hB.cell 0
    clear hB
    by_cases hg : at_ < 0 ∨ at_ > (x.now.length : Int) ∨ (bt0.length : Int) > (x.now.length : Int) - at_
    · have E : Hid (writeAtM d p at_ bt0 = (d, 1)) := Lib.hid (by unfold writeAtM; rw [if_neg (by rw [hm0]; decide), e4, hnd, if_pos hg])
      rw [hn] at hg
      clear h hw hs hp e2 e3 e4 hb hx hnd hm0 hr hA hn
      generalize x.now.length = n at *
      unfold ptrV at *
      by_cases g1 : at_ < 0
      · clear hg
        go_enter Tryz.func23, Tryz.ntmps23
        go_wp2_with fail
        refine KF.out.mono ?_
        rintro e w1 ⟨rfl, rfl⟩
        go_wp2_with fail
        all_goals
          go_ret
          rw [E.out]
          exact OpPost.same H.out 1 0
      · by_cases g2 : (n : Int) < at_
        · clear hg
          go_enter Tryz.func23, Tryz.ntmps23
          go_wp2_with fail
          refine KF.out.mono ?_
          rintro e w1 ⟨rfl, rfl⟩
          go_wp2_with fail
          all_goals
            go_ret
            rw [E.out]
            exact OpPost.same H.out 1 0
        · have g3 : (n : Int) - at_ < (nb : Int) := by omega
          clear hg
          go_enter Tryz.func23, Tryz.ntmps23
          go_wp2_with fail
          refine KF.out.mono ?_
          rintro e w1 ⟨rfl, rfl⟩
          go_wp2_with fail
          all_goals
            go_ret
            rw [E.out]
            exact OpPost.same H.out 1 0
    · have hf : FitW x.now ⟨at_, bt0⟩ := .inr ⟨by show 0 ≤ at_; omega, by show at_.toNat + bt0.length ≤ x.now.length; omega⟩
      have hl := laid_len hf
      have hlen : (laid x.now ⟨at_, bt0⟩).length ≤ 67108864 := by
        rw [hl, if_neg (by show ¬ at_ < 0; omega)]
        omega
      have E : Hid (writeAtM d p at_ bt0 = writeM d i ⟨at_, bt0⟩) := Lib.hid (by unfold writeAtM; rw [if_neg (by rw [hm0]; decide), e4, hnd, if_neg hg])
      have KW : Hid (Calls Tryz.prog 36 #[ptrV db, ptrV b, .agg #[.int .i64 at_, .slice Ab nb cb]] w (OpPost z w own db (writeM d i ⟨at_, bt0⟩))) := Lib.hid (by
        have := write_walk z w own db d q h hw hs hK p i b e3 hb ⟨at_, bt0⟩ Ab cb hr (fun e => by show bt0.length = 0; rw [hn]; exact hA e) (by show bt0.length ≤ cb; omega) hm (by rw [hnd]; exact hf) (by rw [hnd]; exact hlen) ha.2
        simp only [hn] at this
        exact this)
      rw [hn] at hg
      clear h hw hs hp e2 e3 e4 hb hx hnd hm0 hr hA hn hf hl hlen
      generalize x.now.length = n at *
      have g1 : ¬ at_ < 0 := fun h => hg (.inl h)
      have g2 : ¬ (n : Int) < at_ := fun h => hg (.inr (.inl h))
      have g3 : ¬ (n : Int) - at_ < (nb : Int) := fun h => hg (.inr (.inr h))
      clear hg
      unfold ptrV at *
      go_enter Tryz.func23, Tryz.ntmps23
      go_wp2_with fail
      refine KF.out.mono ?_
      rintro e w1 ⟨rfl, rfl⟩
      go_wp2_with fail
      refine KW.out.mono ?_
      rintro e w2 hpo
      have HPO := Lib.hid hpo
      obtain ⟨own', hd', rfl, ht'⟩ := hpo
      clear hd' ht'
      generalize hwm : writeM d i ⟨at_, bt0⟩ = wm at *
      clear hwm
      go_wp2_with fail
      go_ret
      rw [E.out]
      exact HPO.out
  · have E : Hid (writeAtM d p at_ bt0 = (d, missM d p)) := Lib.hid (by unfold writeAtM; rw [if_pos hm0])
    have e2 : findV d q.bl p = .pointer none := by unfold findV; rw [if_neg hm0]
    have hm2 : (missM d p != 0) = true := by simpa using hm0
    rw [e2] at KF
    clear h hw hs hp e2 hr hA hn hm0
    generalize missM d p = m at *
    unfold ptrV at *
    go_enter Tryz.func23, Tryz.ntmps23
    go_wp2_with fail
    refine KF.out.mono ?_
    rintro e w1 ⟨rfl, rfl⟩
    go_wp2_with fail
    go_ret
    rw [E.out]
    exact OpPost.same H.out m 0
end Go.Proofs.YtbpooaicmjkemaaGreatDoor

/-! The walk of the program's Sync. Conditions: the lengths. -/
namespace Go.Proofs.YtbpooaicmjkemaaGreatDoor
open Go.RowKit Go.Maps
set_option linter.unusedVariables false
/-- the end of a sync -/
theorem sync_end {z db i b : Nat} {w w1 w2 : World} {own : Nat → Nat × Nat} {d d1 : Dk} {q : DParts} {vn vl vw v2 : Value} {gn g2 : Option Nat} (h : DSt z w own db d q) (hb : q.bl[i]? = some b) (hx : d.nodes[i]? = some (nodeM d i)) (mk : own b = (10 * z + 2, i))
    (hB : Blk w b 75 #[vn, vl, vw]) (hN : OwnQ w 0 gn vn (nodeM d i).now) (m1 : ∀ k, gn = some k → own k = (10 * z + 3, i))
    (ho : Only db w w1) (hb2 : Below w1.heap.size w1 w2) (hV : OwnQ w2 w1.heap.size g2 v2 (nodeM d i).now) (hC : Blk w1 db 69 (q.cells d1)) (hd : SameD d d1) :
    DSt z ((w2.setCell ⟨b, 1, none⟩ v2).setCell ⟨b, 2, none⟩ (.slice none 0 0)) (newM w own fun k => if g2 = some k then (10 * z + 4, i) else (0, 0)) db (syncedM d1 i) q ∧
      Turn (isD z) w ((w2.setCell ⟨b, 1, none⟩ v2).setCell ⟨b, 2, none⟩ (.slice none 0 0)) own (newM w own fun k => if g2 = some k then (10 * z + 4, i) else (0, 0)) := by
  have hbw := hB.lt
  have hdm := h.mark
  have hdw := h.blk.lt
  have s1 := ho.size
  have s2 := hb2.size
  have hbd : b ≠ db := fun e => by rw [e, hdm] at mk; injection mk with mk; omega
  have st : ∀ k, k < w1.heap.size → k ≠ b → ((w2.setCell ⟨b, 1, none⟩ v2).setCell ⟨b, 2, none⟩ (.slice none 0 0)).heap[k]? = w1.heap[k]? := fun k h1 h2 =>
    (Below.heap_setCell _ ⟨b, 2, none⟩ _ k h2).trans ((Below.heap_setCell _ ⟨b, 1, none⟩ _ k h2).trans (hb2.block k h1))
  have hsz : ((w2.setCell ⟨b, 1, none⟩ v2).setCell ⟨b, 2, none⟩ (.slice none 0 0)).heap.size = w2.heap.size := by simp
  have st0 : ∀ k, k < w.heap.size → k ≠ db → k ≠ b → ((w2.setCell ⟨b, 1, none⟩ v2).setCell ⟨b, 2, none⟩ (.slice none 0 0)).heap[k]? = w.heap[k]? := fun k h1 h2 h3 => (st k (by omega) h3).trans (ho.block k h1 (fun e => h2 (by injection e)))
  have hS : Safe (fun k => k < w.heap.size ∧ butFile z i (own k)) w ((w2.setCell ⟨b, 1, none⟩ v2).setCell ⟨b, 2, none⟩ (.slice none 0 0)) := by
    refine ⟨hb2.os.trans ho.os, hb2.tape.trans ho.tape, hb2.output.trans ho.output, by rw [hsz]; omega, fun k hk => ?_⟩
    obtain ⟨hk, hn1, hn2⟩ := hk
    exact st0 k hk (fun e => hn1 (by rw [e]; exact hdm)) (fun e => hn2 (by rw [e, mk]; exact ⟨⟨by simp, by simp⟩, rfl⟩))
  have hg2 : ∀ k, g2 = some k → w.heap.size ≤ k ∧ k < w2.heap.size := fun k e => by have := hV.base_ e; omega
  obtain ⟨e1, e2, e3, e4, e5, e6⟩ := hd
  have hB2 : Blk w2 b 75 #[vn, vl, vw] := ((hB.only ho hbd).keep hb2)
  refine file_fin (gn := gn) (gl := g2) (gw := none) h hb (List.getElem?_eq_some_iff.1 hx).1 (x' := { nodeM d i with lasts := (nodeM d i).now, waits := [] }) hS ((hB2.set_ 1 v2).set_ 2 (.slice none 0 0)) (hN.blocks (by omega) fun k e hk => ?_) ((hV.mono_ (Nat.zero_le _)).blocks (by omega) fun k e hk => ?_) (vs := []) ?_ ⟨rfl, fun j v x hv => by simp at hv⟩ (fun k e => ?_) (fun k e => ?_) (fun k e => by cases e) (?_ : Blk _ db _ (q.cells (syncedM d1 i))) ⟨e1, ?_, e3, e4, e5, e6⟩
  · have hm := m1 k e
    exact st0 k hk (fun e' => by rw [e', hdm] at hm; injection hm with hm; omega) (fun e' => by rw [e', mk] at hm; injection hm with hm; omega)
  · have := hg2 k e
    exact (Below.heap_setCell _ ⟨b, 2, none⟩ _ k (by show k ≠ b; omega)).trans (Below.heap_setCell _ ⟨b, 1, none⟩ _ k (by show k ≠ b; omega))
  · exact OwnX.nil _ none
  · rw [newM_old (hN.base_ e).2]; exact m1 k e
  · rw [newM_new (hg2 k e).1, if_pos e]
  · have hu : usedM (syncedM d1 i) = usedM d1 := by
      show usedL (d1.nodes.set i _) d1.now = usedL d1.nodes d1.now
      unfold usedL
      congr 1
      apply List.map_congr_left
      intro e he
      by_cases hei : i = e.2
      · rw [← hei, List.getD_eq_getElem?_getD, List.getElem?_set_self (by rw [e2]; exact (List.getElem?_eq_some_iff.1 hx).1)]
        rfl
      · rw [List.getD_eq_getElem?_getD, List.getElem?_set_ne hei, ← List.getD_eq_getElem?_getD]
    have hc : q.cells (syncedM d1 i) = q.cells d1 := by unfold DParts.cells; rw [hu]; rfl
    rw [hc]
    exact hC.at_ (st db (by omega) (fun e => hbd e.symm))
  · show d1.nodes.set i { nodeM d1 i with lasts := (nodeM d1 i).now, waits := [] } = d.nodes.set i { nodeM d i with lasts := (nodeM d i).now, waits := [] }
    unfold nodeM
    rw [e2]
set_option maxRecDepth 100000 in
set_option maxHeartbeats 1000000 in
theorem sync_walk (z : Nat) (w : World) (own : Nat → Nat × Nat) (db : Nat) (d : Dk) (q : DParts) (h : DSt z w own db d q) {K : Nat} (hw : Wf d K) (hs : SwOk d K) (hK : K ≤ 100000) (p : Tx) (hp : p.length ≤ maxLen) :
    Calls Tryz.prog 10 #[ptrV db, .string (bs p)] w (OpPost z w own db (syncM d p)) := by
  have KF := Lib.hid (find_walk z w own db d q h hw p hp)
  have H := Lib.hid h
  by_cases hm0 : missM d p = 0
  · obtain ⟨i, b, x, e3, e4, hb, hx, hnd, -, hF⟩ := found_at h hw hm0
    have e2 : findV d q.bl p = .pointer (some ⟨b, 0, none⟩) := by unfold findV; rw [if_pos hm0, e4, hb]; rfl
    rw [e2, hm0] at KF
    have KS := Lib.hid (step_walk z w own db d q h hs (by omega))
    have hxl := (hw.node i).ln
    rw [hnd] at hxl
    obtain ⟨mk, vn, gn, vl, gl, vw, gw, vs, hB, hO, -, -, -, m1, -⟩ := hF
    have HO := Lib.hid hO
    obtain ⟨A, c, rfl, hc1, hc2, hcx⟩ := hO
    have hA0 : A = none → x.now.length = 0 := fun e => by
      rcases hcx with ⟨h0, -⟩ | ⟨g, o, -, h0, -⟩
      · omega
      · rw [e] at h0; cases h0
    have HA0 := Lib.hid hA0
    have HB := Lib.hid hB
    have M1 := Lib.hid m1
    have HM := Lib.hid mk
    have HP := Lib.hid (⟨hb, hx, hnd⟩ : q.bl[i]? = some b ∧ d.nodes[i]? = some x ∧ nodeM d i = x)
    have hbd : b ≠ db := fun e => by rw [e, h.mark] at mk; injection mk with mk; omega
    cases he : (stepM d).2 == 0 with
    | false =>
      have t1 : ((stepM d).2 == 0) = false := he
      have E : Hid (syncM d p = stepM d) := Lib.hid (by unfold syncM; rw [if_neg (by rw [hm0]; decide), if_pos (by simpa using he)])
      clear he h hw hs hp e2 e3 e4 hb hx hnd hB mk m1 hm0 hcx hA0 hbd
      unfold ptrV at *
      go_enter Tryz.func10, Tryz.ntmps10
      go_wp2_with fail
      refine KF.out.mono ?_
      rintro e w1 ⟨rfl, rfl⟩
      go_wp2_with fail
      refine KS.out.mono ?_
      rintro e w2 ⟨hd1, ho1, rfl⟩
      have HD1 := Lib.hid hd1
      have HO1 := Lib.hid ho1
      clear hd1 ho1
      generalize hsm : (stepM d).2 = se at *
      have HSM := Lib.hid hsm
      clear hsm
      go_wp2_with fail
      go_ret
      rw [E.out]
      exact OpPost.sw H.out.mark (Below.refl _ _) ⟨HD1.out, HO1.out, by rw [HSM.out]; rfl⟩
    | true =>
      have he0 : (stepM d).2 = 0 := by simpa using he
      have E : Hid (syncM d p = (syncedM (stepM d).1 i, 0)) := Lib.hid (by unfold syncM; rw [if_neg (by rw [hm0]; decide), if_neg (by rw [he0]; decide), e4])
      have HE0 := Lib.hid he0
      have hcx' := HO.out.rb.1
      have HR := Lib.hid hcx'
      clear he he0 h hw hs hp e2 e3 e4 hb hx hnd hB mk m1 hm0 hcx hA0 hcx'
      have HBD := Lib.hid hbd
      clear hbd
      unfold ptrV at *
      go_enter Tryz.func10, Tryz.ntmps10
      go_wp2_with fail
      refine KF.out.mono ?_
      rintro e w1 ⟨rfl, rfl⟩
      go_wp2_with fail
      refine KS.out.mono ?_
      rintro e w2 ⟨hd1, ho1, rfl⟩
      rw [HE0.out]
      have HD1 := Lib.hid hd1
      have HO1 := Lib.hid ho1
      have HB1 := Lib.hid (HB.out.only ho1 HBD.out)
      have HR1 := Lib.hid (HR.out.only_db H.out ho1)
      clear hd1 ho1 KS KF
      have k0 : w2.cell? ⟨b, 0, none⟩ = some (.slice A x.now.length c) := HB1.out.cell 0
      go_wp2_with fail
      refine (clone_walk w2 A x.now x.now.length c rfl HR1.out HA0.out (by omega)).mono ?_
      rintro e w3 ⟨hb3, g3, v3, rfl, hO3⟩
      have HB3 := Lib.hid hb3
      have HV3 := Lib.hid hO3
      obtain ⟨A3, c3, rfl, -⟩ := hO3
      have HBb := Lib.hid (HB1.out.keep hb3)
      clear hb3 k0 HR1
      have k1 : w3.cell? ⟨b, 1, none⟩ = some vl := HBb.out.cell 1
      have k2 : w3.cell? ⟨b, 2, none⟩ = some vw := HBb.out.cell 2
      have f1 := HBb.out.frozen 1
      have f2 := HBb.out.frozen 2
      go_wp2_with fail
      go_ret
      rw [E.out]
      obtain ⟨p1, p2, p3⟩ := HP.out
      have hd := sync_end H.out p1 (by rw [p3]; exact p2) HM.out HB.out (by rw [p3]; exact HO.out) M1.out HO1.out HB3.out (by rw [p3]; exact HV3.out) HD1.out.blk (step_sameD d)
      exact ⟨_, ⟨q, hd.1⟩, rfl, hd.2⟩
  · have E : Hid (syncM d p = (d, missM d p)) := Lib.hid (by unfold syncM; rw [if_pos hm0])
    have e2 : findV d q.bl p = .pointer none := by unfold findV; rw [if_neg hm0]
    have hm2 : (missM d p == 0) = false := by simpa using hm0
    rw [e2] at KF
    clear h hw hs hp e2 hm0
    generalize missM d p = m at *
    unfold ptrV at *
    go_enter Tryz.func10, Tryz.ntmps10
    go_wp2_with fail
    refine KF.out.mono ?_
    rintro e w1 ⟨rfl, rfl⟩
    go_wp2_with fail
    go_ret
    rw [E.out]
    exact OpPost.same H.out m 0
end Go.Proofs.YtbpooaicmjkemaaGreatDoor
