/-
  The walks of the program's Unlink and Rename. Conditions: the lengths.
-/
import Derived.Test.YtbpooaicmjkemaaGreatDoorSfEnt
import Derived.Test.YtbpooaicmjkemaaGreatDoorRun3
namespace Go.Proofs.YtbpooaicmjkemaaGreatDoor
open Go.RowKit Go.Maps
set_option linter.unusedVariables false
theorem own_exact {P : Program} {k : TypeId} {R : Value → Option (DataW Unit × List MemPlace)} {w : World} {b n : Nat} {D : DataW Unit} (h : w.ownsMap P k R b n D) : w.ownsMap P k R b (Maps.size D) D := by
  obtain ⟨es, clock, hb, F, hs, rfl⟩ := h
  refine ⟨es, clock, hb, F, ?_, rfl⟩
  simp [Maps.size, length_sorted]
theorem Wf.cpl {d : Dk} {K : Nat} (h : Wf d K) : d.lasts.length ≤ K := by have := h.cp; have := h.nk; omega
theorem DSt.norm {z db K : Nat} {w : World} {own : Nat → Nat × Nat} {d : Dk} {q : DParts} (h : DSt z w own db d q) (hw : Wf d K) (hK : K ≤ 100000) : ∃ q', DSt z w own db d q' ∧ q'.nn ≤ K ∧ q'.nl ≤ K := by
  have r := h.rest
  have e1 := own_exact r.on
  have e2 := own_exact r.ol
  rw [r.en.sz] at e1
  rw [r.el.sz] at e2
  have h1 := hw.cpn
  have h2 := hw.nk
  have h3 := hw.cpl
  exact ⟨{ q with nn := d.now.length, nl := d.lasts.length }, ⟨h.blk, h.mark, ⟨r.dirs, r.files, r.mf, r.len, r.mkn, e1, r.en, r.mkl, e2, r.el, r.chs, r.mc, r.fs, by show d.now.length ≤ _; omega, by show d.lasts.length ≤ _; omega⟩⟩, by show d.now.length ≤ _; omega, by show d.lasts.length ≤ _; omega⟩
/-- step, then enter -/
theorem OpPost.ent {z db : Nat} {w w1 w2 : World} {own : Nat → Nat × Nat} {q : DParts} {d1 d2 : Dk} {e : Ending} (hm : own db = (10 * z + 1, 0)) (ho : Only db w w1) (h : EntPost z w1 own db d2 e w2) : OpPost z w own db (d2, 0) (.returned (.int .i64 0)) w2 := by
  obtain ⟨own', hd, ht, -⟩ := h
  refine ⟨own', hd, rfl, Turn.trans ⟨ho.os, ho.tape, ho.output, ho.size, fun k hk hn => ho.block k hk fun e => hn ?_, fun k hk _ => rfl⟩ ht⟩
  injection e with e
  rw [e, hm]; exact ⟨by simp, by simp⟩
theorem ent_kind {z db K : Nat} {w : World} {own : Nat → Nat × Nat} {d : Dk} {q : DParts} (h : DSt z w own db d q) (hw : Wf d K) (hK : K ≤ 10000) (c : Ch) (hc : OkC c) (hf : c.fr.length ≤ maxLen) (ht : c.tt.length ≤ maxLen) (h1 : c.kind ≠ 1) (h2 : c.kind = 2 → getE d.now c.fr ≠ none) :
    Calls Tryz.prog 34 #[ptrV db, .agg #[.int .i64 c.kind, .string (bs c.fr), .string (bs c.tt), .pointer none]] w (EntPost z w own db (enterM d c)) := by
  obtain ⟨q', hq, hn, -⟩ := h.norm hw (by omega)
  exact enter_walk z w own db d q' hq hw hK c (.pointer none) hc hf ht (by omega) (fun k => absurd k h1) (fun _ => rfl) h2
set_option maxHeartbeats 1000000 in
theorem unlink_walk (z : Nat) (w : World) (own : Nat → Nat × Nat) (db : Nat) (d : Dk) (q : DParts) (h : DSt z w own db d q) {K : Nat} (hw : Wf d K) (hs : SwOk d K) (hK : K ≤ 10000) (p : Tx) (hp : p.length ≤ maxLen) :
    Calls Tryz.prog 58 #[ptrV db, .string (bs p)] w (OpPost z w own db (unlinkM d p)) := by
  have KF := Lib.hid (find_walk z w own db d q h hw p hp)
  have H := Lib.hid h
  by_cases hm0 : missM d p = 0
  · obtain ⟨i, b, x, e3, e4, hb, hx, hnd, -, hF⟩ := found_at h hw hm0
    have e2 : findV d q.bl p = .pointer (some ⟨b, 0, none⟩) := by unfold findV; rw [if_pos hm0, e4, hb]; rfl
    rw [e2, hm0] at KF
    have KS := Lib.hid (step_walk z w own db d q h hs (by omega))
    have hpm := hw.mn _ (getE_some e3)
    have KE : Hid (∀ w1, DSt z w1 own db (stepM d).1 q → Calls Tryz.prog 34 #[.pointer (some ⟨db, 0, none⟩), .agg #[.int .i64 3, .string (bs p), .string ⟨#[]⟩, .pointer none]] w1 (EntPost z w1 own db (enterM (stepM d).1 ⟨3, p, [], 0⟩))) := Lib.hid fun w1 hd =>
      ent_kind hd hw.step hK ⟨3, p, [], 0⟩ (.inr (.inr ⟨rfl, may_ne hpm, rfl⟩)) hp (by simp [maxLen]) (fun k => by cases k) (fun k => by cases k)
    cases he : (stepM d).2 == 0 with
    | false =>
      have t1 : ((stepM d).2 == 0) = false := he
      have E : Hid (unlinkM d p = stepM d) := Lib.hid (by unfold unlinkM; rw [if_neg (by rw [hm0]; decide), if_pos (by simpa using he)])
      clear h hw hs hp e2 e3 e4 hb hx hnd hF hm0 hpm he KE
      unfold ptrV at *
      go_enter Tryz.func58, Tryz.ntmps58
      go_wp2_with fail
      refine KF.out.mono ?_
      rintro e w1 ⟨rfl, rfl⟩
      go_wp2_with fail
      refine KS.out.mono ?_
      rintro e w1 ⟨hd1, ho1, rfl⟩
      have HD1 := Lib.hid hd1
      have HO1 := Lib.hid ho1
      clear hd1 ho1
      generalize hsm : (stepM d).2 = se at *
      have HSM := Lib.hid hsm
      clear hsm
      go_wp2_with fail
      go_ret
      rw [E.out]
      exact OpPost.sw H.out.mark (Below.refl _ _) ⟨HD1.out, HO1.out, by rw [HSM.out]; rfl⟩
    | true =>
      have he0 : (stepM d).2 = 0 := by simpa using he
      have E : Hid (unlinkM d p = (enterM (stepM d).1 ⟨3, p, [], 0⟩, 0)) := Lib.hid (by unfold unlinkM; rw [if_neg (by rw [hm0]; decide), if_neg (by rw [he0]; decide)])
      have KS2 : Hid (Calls Tryz.prog 33 #[ptrV db] w fun e w' => (DSt z w' own db (stepM d).1 q ∧ Only db w w') ∧ e = .returned (.int .i64 0)) := Lib.hid (KS.out.mono fun e w' ⟨h1, h2, h3⟩ => ⟨⟨h1, h2⟩, by rw [h3, he0]⟩)
      clear h hw hs hp e2 e3 e4 hb hx hnd hF hm0 hpm he he0 KS
      unfold ptrV at *
      generalize hsd : (stepM d).1 = d1 at *
      generalize hen : enterM d1 ⟨3, p, [], 0⟩ = d2 at *
      clear hsd hen
      go_enter Tryz.func58, Tryz.ntmps58
      go_wp2_with fail
      refine KF.out.mono ?_
      rintro e w1 ⟨rfl, rfl⟩
      go_wp2_with fail
      refine KS2.out.mono ?_
      rintro e w1 ⟨⟨hd1, ho1⟩, rfl⟩
      have HD1 := Lib.hid hd1
      have HO1 := Lib.hid ho1
      clear hd1 ho1
      go_wp2_with fail
      refine (KE.out _ HD1.out).mono ?_
      rintro e w2 hp2
      have HP2 := Lib.hid (OpPost.ent (q := q) (d1 := d) H.out.mark HO1.out hp2)
      obtain ⟨-, -, -, rfl⟩ := hp2
      go_wp2_with fail
      go_ret
      rw [E.out]
      exact HP2.out
  · have E : Hid (unlinkM d p = (d, missM d p)) := Lib.hid (by unfold unlinkM; rw [if_pos hm0])
    have e2 : findV d q.bl p = .pointer none := by unfold findV; rw [if_neg hm0]
    have hm2 : (missM d p == 0) = false := by simpa using hm0
    rw [e2] at KF
    clear h hw hs hp e2 hm0
    generalize missM d p = m at *
    unfold ptrV at *
    go_enter Tryz.func58, Tryz.ntmps58
    go_wp2_with fail
    refine KF.out.mono ?_
    rintro e w1 ⟨rfl, rfl⟩
    go_wp2_with fail
    go_ret
    rw [E.out]
    exact OpPost.same H.out m 0
theorem OpPost.ent2 {z db : Nat} {w wb w1 w2 : World} {own : Nat → Nat × Nat} {d2 : Dk} {e : Ending} (hm : own db = (10 * z + 1, 0)) (hb : Below w.heap.size w wb) (ho : Only db wb w1) (h : EntPost z w1 own db d2 e w2) : OpPost z w own db (d2, 0) (.returned (.int .i64 0)) w2 := by
  obtain ⟨own', hd, ht, -⟩ := h
  refine ⟨own', hd, rfl, Turn.trans ⟨ho.os.trans hb.os, ho.tape.trans hb.tape, ho.output.trans hb.output, Nat.le_trans hb.size ho.size, fun k hk hn => (ho.block k (Nat.lt_of_lt_of_le hk hb.size) fun e => hn ?_).trans (hb.block k hk), fun k hk _ => rfl⟩ ht⟩
  injection e with e
  rw [e, hm]; exact ⟨by simp, by simp⟩
theorem OpPost.bl {z db : Nat} {w w1 : World} {own : Nat → Nat × Nat} {d : Dk} {q : DParts} (h : DSt z w own db d q) (hb : Below w.heap.size w w1) (c : Int) : OpPost z w own db (d, c) (.returned (.int .i64 c)) w1 :=
  ⟨own, ⟨q, h.below hb⟩, rfl, Turn.of_below hb fun _ _ => rfl⟩
theorem may_dst {z db K : Nat} {w : World} {own : Nat → Nat × Nat} {d : Dk} {q : DParts} (h : DSt z w own db d q) (hw : Wf d K) (p : Tx) (hp : p.length ≤ maxLen) :
    Calls Tryz.prog 32 #[ptrV db, .string (bs p)] w fun e w' => e = .returned (.bool (mayB d.dirs p)) ∧ Below w.heap.size w w' := by
  obtain ⟨A, c, e, h1, h2, h3⟩ := h.rest.dirs.sx
  have k2 : w.cell? ⟨db, 2, none⟩ = some q.vd := h.blk.cell 2
  rw [e] at k2
  exact may_walk w db A _ c d.dirs k2 rfl ⟨h1, h2⟩ h3 p hp
set_option maxHeartbeats 2000000 in
theorem rename_walk (z : Nat) (w : World) (own : Nat → Nat × Nat) (db : Nat) (d : Dk) (q : DParts) (h : DSt z w own db d q) {K : Nat} (hw : Wf d K) (hs : SwOk d K) (hK : K ≤ 10000) (p p2 : Tx) (hp : p.length ≤ maxLen) (hp2 : p2.length ≤ maxLen) :
    Calls Tryz.prog 13 #[ptrV db, .string (bs p), .string (bs p2)] w (OpPost z w own db (renameM d p p2)) := by
  have KF := Lib.hid (find_walk z w own db d q h hw p hp)
  have H := Lib.hid h
  by_cases hm0 : missM d p = 0
  · obtain ⟨i, b, x, e3, e4, hb, hx, hnd, -, hF⟩ := found_at h hw hm0
    have e2 : findV d q.bl p = .pointer (some ⟨b, 0, none⟩) := by unfold findV; rw [if_pos hm0, e4, hb]; rfl
    rw [e2, hm0] at KF
    have KM := Lib.hid (may_dst h hw p2 hp2)
    have hpm := hw.mn _ (getE_some e3)
    cases hmy : mayB d.dirs p2 with
    | false =>
      have E : Hid (renameM d p p2 = (d, 11)) := Lib.hid (by unfold renameM; rw [if_neg (by rw [hm0]; decide), if_pos hmy])
      rw [hmy] at KM
      clear h hw hs hp e2 e3 e4 hb hx hnd hF hm0 hpm hmy hp2
      unfold ptrV at *
      go_enter Tryz.func13, Tryz.ntmps13
      go_wp2_with fail
      refine KF.out.mono ?_
      rintro e w1 ⟨rfl, rfl⟩
      go_wp2_with fail
      refine KM.out.mono ?_
      rintro e w1 ⟨rfl, hb1⟩
      have HB1 := Lib.hid hb1
      clear hb1
      go_wp2_with fail
      go_ret
      rw [E.out]
      exact OpPost.bl H.out HB1.out 11
    | true =>
      rw [hmy] at KM
      have KS : Hid (∀ w1, Below w.heap.size w w1 → Calls Tryz.prog 33 #[ptrV db] w1 (SwPost z w1 own db q (stepM d))) := Lib.hid fun w1 hb => step_walk z w1 own db d q (h.below hb) hs (by omega)
      cases he : (stepM d).2 == 0 with
      | false =>
        have t1 : ((stepM d).2 == 0) = false := he
        have E : Hid (renameM d p p2 = stepM d) := Lib.hid (by unfold renameM; rw [if_neg (by rw [hm0]; decide), if_neg (by rw [hmy]; decide), if_pos (by simpa using he)])
        clear h hw hs hp e2 e3 e4 hb hx hnd hF hm0 hpm hmy hp2 he
        unfold ptrV at *
        go_enter Tryz.func13, Tryz.ntmps13
        go_wp2_with fail
        refine KF.out.mono ?_
        rintro e w1 ⟨rfl, rfl⟩
        go_wp2_with fail
        refine KM.out.mono ?_
        rintro e w1 ⟨rfl, hb1⟩
        have HB1 := Lib.hid hb1
        clear hb1
        go_wp2_with fail
        refine (KS.out _ HB1.out).mono ?_
        rintro e w2 ⟨hd1, ho1, rfl⟩
        have HD1 := Lib.hid hd1
        have HO1 := Lib.hid ho1
        clear hd1 ho1
        generalize hsm : (stepM d).2 = se at *
        have HSM := Lib.hid hsm
        clear hsm
        go_wp2_with fail
        go_ret
        rw [E.out]
        exact OpPost.sw H.out.mark HB1.out ⟨HD1.out, HO1.out, by rw [HSM.out]; rfl⟩
      | true =>
        have he0 : (stepM d).2 = 0 := by simpa using he
        have KS2 : Hid (∀ w1, Below w.heap.size w w1 → Calls Tryz.prog 33 #[ptrV db] w1 fun e w' => (DSt z w' own db (stepM d).1 q ∧ Only db w1 w') ∧ e = .returned (.int .i64 0)) := Lib.hid fun w1 hb => (KS.out w1 hb).mono fun e w' ⟨h1, h2, h3⟩ => ⟨⟨h1, h2⟩, by rw [h3, he0]⟩
        have hst := step_same d
        by_cases hpq : p = p2
        · have E : Hid (renameM d p p2 = ((stepM d).1, 0)) := Lib.hid (by unfold renameM; rw [if_neg (by rw [hm0]; decide), if_neg (by rw [hmy]; decide), if_neg (by rw [he0]; decide), if_pos hpq])
          subst hpq
          clear h hw hs hp e2 e3 e4 hb hx hnd hF hm0 hpm hmy hp2 he KS he0 hst
          unfold ptrV at *
          generalize hsd : (stepM d).1 = d1 at *
          clear hsd
          go_enter Tryz.func13, Tryz.ntmps13
          go_wp2_with fail
          refine KF.out.mono ?_
          rintro e w1 ⟨rfl, rfl⟩
          go_wp2_with fail
          refine KM.out.mono ?_
          rintro e w1 ⟨rfl, hb1⟩
          have HB1 := Lib.hid hb1
          clear hb1
          go_wp2_with fail
          refine (KS2.out _ HB1.out).mono ?_
          rintro e w2 ⟨⟨hd1, ho1⟩, rfl⟩
          have HD1 := Lib.hid hd1
          have HO1 := Lib.hid ho1
          clear hd1 ho1
          go_wp2_with fail
          go_ret
          rw [E.out]
          exact OpPost.sw (r := (d1, 0)) H.out.mark HB1.out ⟨HD1.out, HO1.out, rfl⟩
        · have E : Hid (renameM d p p2 = (enterM (stepM d).1 ⟨2, p, p2, 0⟩, 0)) := Lib.hid (by unfold renameM; rw [if_neg (by rw [hm0]; decide), if_neg (by rw [hmy]; decide), if_neg (by rw [he0]; decide), if_neg hpq])
          have KE : Hid (∀ w1, DSt z w1 own db (stepM d).1 q → Calls Tryz.prog 34 #[.pointer (some ⟨db, 0, none⟩), .agg #[.int .i64 2, .string (bs p), .string (bs p2), .pointer none]] w1 (EntPost z w1 own db (enterM (stepM d).1 ⟨2, p, p2, 0⟩))) := Lib.hid fun w1 hd =>
            ent_kind hd hw.step hK ⟨2, p, p2, 0⟩ (.inr (.inl ⟨rfl, may_ne hpm, may_ne hmy, hpq⟩)) hp hp2 (fun k => by cases k) (fun _ => by rw [hst.2.2.1, e3]; exact fun e => by cases e)
          have hne : ((bs p).toList == (bs p2).toList) = false := str_ne fun h => hpq (bs_inj h)
          clear h hw hs hp e2 e3 e4 hb hx hnd hF hm0 hpm hmy hp2 he KS he0 hst hpq
          unfold ptrV at *
          generalize hsd : (stepM d).1 = d1 at *
          generalize hen : enterM d1 ⟨2, p, p2, 0⟩ = d2 at *
          clear hsd hen
          go_enter Tryz.func13, Tryz.ntmps13
          go_wp2_with fail
          refine KF.out.mono ?_
          rintro e w1 ⟨rfl, rfl⟩
          go_wp2_with fail
          refine KM.out.mono ?_
          rintro e w1 ⟨rfl, hb1⟩
          have HB1 := Lib.hid hb1
          clear hb1
          go_wp2_with fail
          refine (KS2.out _ HB1.out).mono ?_
          rintro e w2 ⟨⟨hd1, ho1⟩, rfl⟩
          have HD1 := Lib.hid hd1
          have HO1 := Lib.hid ho1
          clear hd1 ho1
          go_wp2_with fail
          refine (KE.out _ HD1.out).mono ?_
          rintro e w3 hp3
          have HP3 := Lib.hid (OpPost.ent2 H.out.mark HB1.out HO1.out hp3)
          obtain ⟨-, -, -, rfl⟩ := hp3
          go_wp2_with fail
          go_ret
          rw [E.out]
          exact HP3.out
  · have E : Hid (renameM d p p2 = (d, missM d p)) := Lib.hid (by unfold renameM; rw [if_pos hm0])
    have e2 : findV d q.bl p = .pointer none := by unfold findV; rw [if_neg hm0]
    have hm2 : (missM d p == 0) = false := by simpa using hm0
    rw [e2] at KF
    clear h hw hs hp e2 hm0
    generalize missM d p = m at *
    unfold ptrV at *
    go_enter Tryz.func13, Tryz.ntmps13
    go_wp2_with fail
    refine KF.out.mono ?_
    rintro e w1 ⟨rfl, rfl⟩
    go_wp2_with fail
    go_ret
    rw [E.out]
    exact OpPost.same H.out m 0
end Go.Proofs.YtbpooaicmjkemaaGreatDoor
