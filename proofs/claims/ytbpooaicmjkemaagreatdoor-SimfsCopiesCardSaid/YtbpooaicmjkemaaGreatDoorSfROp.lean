/-
  The walks of the document's Unlink, Rename, Append, WriteAt. Conditions: the lengths.
-/
import Derived.Test.YtbpooaicmjkemaaGreatDoorSfRWr
namespace Go.Proofs.YtbpooaicmjkemaaGreatDoor
open Go.RowKit Go.Maps
set_option linter.unusedVariables false
/-- the document's disk, and what holds of it -/
structure RDkI (z : Nat) (w : World) (own : Nat → Nat × Nat) (db : Nat) (d : Dk) (K : Nat) : Prop where
  dk : RDisk z w own db d
  wf : Wf d K
  sw : SwOk d K
theorem RDkI.below {z db K : Nat} {w w' : World} {own : Nat → Nat × Nat} {d : Dk} (h : RDkI z w own db d K) (hb : Below w.heap.size w w') : RDkI z w' own db d K := ⟨h.dk.below hb, h.wf, h.sw⟩
theorem RSt.grown {z db : Nat} {w w' : World} {own : Nat → Nat × Nat} {d : Dk} {q : RParts} (h : RSt z w own db d q) (hb : Below w.heap.size w w') (f : Nat → Nat × Nat) : RSt z w' (newM w own f) db d q :=
  h.goes (keep := fun _ => True) ⟨hb.size, fun k hk _ => ⟨hb.block k hk, newM_old hk⟩⟩ trivial fun _ _ => trivial
section
variable {z db K : Nat} {w : World} {own : Nat → Nat × Nat} {d : Dk}
theorem rfound_op (h : RDkI z w own db d K) (hK : K ≤ 8000) (p : Tx) : Calls Tryz.prog 98 #[ptrV db, .string (bs p)] w fun e w' => e = .returned (.tuple #[.int .i64 (rfN d p : Int), .int .i64 (missM d p)]) ∧ ∃ q, w' = w.drewN q := by
  obtain ⟨q, hq⟩ := h.dk
  exact rfound_walk hq h.wf.sn (by have := h.wf.cpn; have := h.wf.nk; omega) p
theorem rmay_op (h : RDkI z w own db d K) (p : Tx) (hp : p.length ≤ maxLen) : Calls Tryz.prog 94 #[ptrV db, .string (bs p)] w fun e w' => e = .returned (.bool (mayB d.dirs p)) ∧ ∃ q, w' = w.drewN q := by
  obtain ⟨q, hq⟩ := h.dk
  obtain ⟨A, c, hv, h1, h2, h3⟩ := hq.rest.dirs
  refine rmay_walk w db A d.dirs.length c d.dirs (by rw [← hv]; exact hq.blk.cell 1) rfl ?_ p (by have := h.wf.dl; omega) hp
  rcases h3 with h3 | ⟨b, off, rfl, -, hlt, hc⟩
  · exact .inl h3
  · exact .inr ⟨b, off, rfl, hlt, hc⟩
theorem rstep_op (h : RDkI z w own db d K) (hK : K ≤ 8000) : Calls Tryz.prog 96 #[ptrV db] w fun e w' => (RDkI z w' own db (stepM d).1 K ∨ True) ∧ (∃ q, RSt z w' own db (stepM d).1 q) ∧ Only db w w' ∧ e = .returned (.int .i64 (stepM d).2) := by
  obtain ⟨q, hq⟩ := h.dk
  exact (rstep_walk z w own db d q hq h.sw (by omega)).mono fun e w' ⟨h1, h2, h3⟩ => ⟨.inr trivial, ⟨q, h1⟩, h2, h3⟩
theorem RDkI.mark (h : RDkI z w own db d K) : own db = (10 * z + 1, 0) := by
  obtain ⟨q, hq⟩ := h.dk
  exact hq.mark
theorem ROpPost.same (h : RDkI z w own db d K) {w' : World} (hb : Below w.heap.size w w') (c : Int) : ROpPost z w own db (d, c) (.returned (.int .i64 c)) w' := by
  obtain ⟨q, hq⟩ := h.dk
  exact ROpPost.bl hq hb c
/-- a step that was refused -/
theorem ROpPost.no (h : RDkI z w own db d K) {w1 w' : World} (hb : Below w.heap.size w w1) {d' : Dk} {c : Int} (hd : ∃ q, RSt z w' own db d' q) (ho : Only db w1 w') : ROpPost z w own db (d', c) (.returned (.int .i64 c)) w' := by
  obtain ⟨q, hq⟩ := hd
  exact ROpPost.sw h.mark hb (r := (d', c)) ⟨hq, ho, rfl⟩
theorem ROpPost.ent2 (h : RDkI z w own db d K) {w1 w2 w3 : World} {d3 : Dk} {e : Ending} (hb : Below w.heap.size w w1) (ho : Only db w1 w2) (hp : REntPost z w2 own db d3 e w3) : ROpPost z w own db (d3, 0) (.returned (.int .i64 0)) w3 :=
  ROpPost.ent ((Turn.of_below hb fun _ _ => rfl).trans (turn_only h.mark ho)) hp
set_option maxHeartbeats 1000000 in
theorem runlink_walk (h : RDkI z w own db d K) (hK : K ≤ 8000) (p : Tx) :
    Calls Tryz.prog 53 #[ptrV db, .string (bs p)] w (ROpPost z w own db (unlinkM d p)) := by
  have KF := Lib.hid (rfound_op h hK p)
  have H := Lib.hid h
  have KS := Lib.hid (fun q => rstep_op (h.below (below_drewN w q)) hK)
  by_cases hm0 : missM d p = 0
  · rw [hm0] at KF
    cases he : (stepM d).2 == 0 with
    | false =>
      have t1 : ((stepM d).2 == 0) = false := he
      have E : Hid (unlinkM d p = ((stepM d).1, (stepM d).2)) := Lib.hid (by unfold unlinkM; rw [if_neg (by rw [hm0]; decide), if_pos (by simpa using he)])
      clear he hm0 h
      unfold ptrV at *
      go_enter Tryz.func53, Tryz.ntmps53
      go_wp2_with fail
      refine KF.out.mono ?_
      rintro e w1 ⟨rfl, n, rfl⟩
      go_wp2_with fail
      refine (KS.out n).mono ?_
      rintro e w2 ⟨-, hd1, ho1, rfl⟩
      have HD1 := Lib.hid hd1
      have HO1 := Lib.hid ho1
      clear hd1 ho1
      generalize hsm : (stepM d).2 = se at *
      clear hsm
      go_wp2_with fail
      go_ret
      rw [E.out]
      exact ROpPost.no H.out (below_drewN w n) HD1.out HO1.out
    | true =>
      have he0 : (stepM d).2 = 0 := by simpa using he
      rw [he0] at KS
      have E : Hid (unlinkM d p = (enterM (stepM d).1 ⟨3, p, [], 0⟩, 0)) := Lib.hid (by unfold unlinkM; rw [if_neg (by rw [hm0]; decide), if_neg (by rw [he0]; decide)])
      have HWS := Lib.hid h.wf.step
      clear he he0 hm0 h
      unfold ptrV at *
      go_enter Tryz.func53, Tryz.ntmps53
      go_wp2_with fail
      refine KF.out.mono ?_
      rintro e w1 ⟨rfl, n, rfl⟩
      go_wp2_with fail
      refine (KS.out n).mono ?_
      rintro e w2 ⟨-, ⟨q, hd1⟩, ho1, rfl⟩
      have HO1 := Lib.hid ho1
      have KE : Hid (Calls Tryz.prog 97 #[.pointer (some ⟨db, 0, none⟩), .agg #[.int .i64 3, .string (bs p), .string ⟨#[]⟩, .int .i64 0]] w2 (REntPost z w2 own db (enterM (stepM d).1 ⟨3, p, [], 0⟩))) := Lib.hid (rentry_walk z w2 own db (stepM d).1 q hd1 HWS.out (by omega) ⟨3, p, [], 0⟩)
      clear hd1 ho1 KF KS
      go_wp2_with fail
      refine KE.out.mono ?_
      rintro e w3 hp
      have HP := Lib.hid (ROpPost.ent2 H.out (below_drewN w n) HO1.out hp)
      obtain ⟨-, -, -, rfl⟩ := hp
      clear KE
      generalize enterM (stepM d).1 ⟨3, p, [], 0⟩ = d9 at *
      go_wp2_with fail
      go_ret
      rw [E.out]
      exact HP.out
  · have E : Hid (unlinkM d p = (d, missM d p)) := Lib.hid (by unfold unlinkM; rw [if_pos hm0])
    have t1 : (missM d p == 0) = false := by simpa using hm0
    clear hm0 h
    generalize missM d p = m at *
    unfold ptrV at *
    go_enter Tryz.func53, Tryz.ntmps53
    go_wp2_with fail
    refine KF.out.mono ?_
    rintro e w1 ⟨rfl, n, rfl⟩
    go_wp2_with fail
    go_ret
    rw [E.out]
    exact ROpPost.same H.out (below_drewN w n) m
set_option maxHeartbeats 1000000 in
theorem rrename_walk (h : RDkI z w own db d K) (hK : K ≤ 8000) (p p2 : Tx) (hp2 : p2.length ≤ maxLen) :
    Calls Tryz.prog 52 #[ptrV db, .string (bs p), .string (bs p2)] w (ROpPost z w own db (renameM d p p2)) := by
  have KF := Lib.hid (rfound_op h hK p)
  have H := Lib.hid h
  have KS := Lib.hid (fun q => rstep_op (h.below (below_drewN w q)) hK)
  have KM := Lib.hid (fun q => rmay_op (h.below (below_drewN w q)) p2 hp2)
  by_cases hm0 : missM d p = 0
  · rw [hm0] at KF
    cases hmy : mayB d.dirs p2 with
    | false =>
      have E : Hid (renameM d p p2 = (d, 11)) := Lib.hid (by unfold renameM; rw [if_neg (by rw [hm0]; decide), if_pos hmy])
      rw [hmy] at KM
      clear hmy hm0 h
      unfold ptrV at *
      go_enter Tryz.func52, Tryz.ntmps52
      go_wp2_with fail
      refine KF.out.mono ?_
      rintro e w1 ⟨rfl, n, rfl⟩
      go_wp2_with fail
      refine (KM.out n).mono ?_
      rintro e w2 ⟨rfl, n2, rfl⟩
      go_wp2_with fail
      go_ret
      rw [E.out]
      exact ROpPost.same H.out (below_drewN w (n + n2)) 11
    | true =>
      rw [hmy] at KM
      cases he : (stepM d).2 == 0 with
      | false =>
        have t1 : ((stepM d).2 == 0) = false := he
        have E : Hid (renameM d p p2 = ((stepM d).1, (stepM d).2)) := Lib.hid (by unfold renameM; rw [if_neg (by rw [hm0]; decide), if_neg (by rw [hmy]; decide), if_pos (by simpa using he)])
        clear he hm0 h hmy
        unfold ptrV at *
        go_enter Tryz.func52, Tryz.ntmps52
        go_wp2_with fail
        refine KF.out.mono ?_
        rintro e w1 ⟨rfl, n, rfl⟩
        go_wp2_with fail
        refine (KM.out n).mono ?_
        rintro e w2 ⟨rfl, n2, rfl⟩
        go_wp2_with fail
        refine (KS.out (n + n2)).mono ?_
        rintro e w3 ⟨-, hd1, ho1, rfl⟩
        have HD1 := Lib.hid hd1
        have HO1 := Lib.hid ho1
        clear hd1 ho1
        generalize hsm : (stepM d).2 = se at *
        clear hsm
        go_wp2_with fail
        go_ret
        rw [E.out]
        exact ROpPost.no H.out (below_drewN w (n + n2)) HD1.out HO1.out
      | true =>
        have he0 : (stepM d).2 = 0 := by simpa using he
        rw [he0] at KS
        by_cases hpq : p = p2
        · subst hpq
          have E : Hid (renameM d p p = ((stepM d).1, 0)) := Lib.hid (by unfold renameM; rw [if_neg (by rw [hm0]; decide), if_neg (by rw [hmy]; decide), if_neg (by rw [he0]; decide), if_pos rfl])
          clear he he0 hm0 h hmy
          unfold ptrV at *
          go_enter Tryz.func52, Tryz.ntmps52
          go_wp2_with fail
          refine KF.out.mono ?_
          rintro e w1 ⟨rfl, n, rfl⟩
          go_wp2_with fail
          refine (KM.out n).mono ?_
          rintro e w2 ⟨rfl, n2, rfl⟩
          go_wp2_with fail
          refine (KS.out (n + n2)).mono ?_
          rintro e w3 ⟨-, hd1, ho1, rfl⟩
          have HD1 := Lib.hid hd1
          have HO1 := Lib.hid ho1
          clear hd1 ho1
          go_wp2_with fail
          go_ret
          rw [E.out]
          exact ROpPost.no H.out (below_drewN w (n + n2)) HD1.out HO1.out
        · have E : Hid (renameM d p p2 = (enterM (stepM d).1 ⟨2, p, p2, 0⟩, 0)) := Lib.hid (by unfold renameM; rw [if_neg (by rw [hm0]; decide), if_neg (by rw [hmy]; decide), if_neg (by rw [he0]; decide), if_neg hpq])
          have t2 : ((bs p).toList == (bs p2).toList) = false := str_ne fun e => hpq (bs_inj e)
          have HWS := Lib.hid h.wf.step
          clear he he0 hm0 h hmy hpq
          unfold ptrV at *
          go_enter Tryz.func52, Tryz.ntmps52
          go_wp2_with fail
          refine KF.out.mono ?_
          rintro e w1 ⟨rfl, n, rfl⟩
          go_wp2_with fail
          refine (KM.out n).mono ?_
          rintro e w2 ⟨rfl, n2, rfl⟩
          go_wp2_with fail
          refine (KS.out (n + n2)).mono ?_
          rintro e w3 ⟨-, ⟨q, hd1⟩, ho1, rfl⟩
          have HO1 := Lib.hid ho1
          have KE : Hid (Calls Tryz.prog 97 #[.pointer (some ⟨db, 0, none⟩), .agg #[.int .i64 2, .string (bs p), .string (bs p2), .int .i64 0]] w3 (REntPost z w3 own db (enterM (stepM d).1 ⟨2, p, p2, 0⟩))) := Lib.hid (rentry_walk z w3 own db (stepM d).1 q hd1 HWS.out (by omega) ⟨2, p, p2, 0⟩)
          clear hd1 ho1 KF KS KM
          go_wp2_with fail
          refine KE.out.mono ?_
          rintro e w4 hp
          have HP := Lib.hid (ROpPost.ent2 H.out (below_drewN w (n + n2)) HO1.out hp)
          obtain ⟨-, -, -, rfl⟩ := hp
          clear KE
          generalize enterM (stepM d).1 ⟨2, p, p2, 0⟩ = d9 at *
          go_wp2_with fail
          go_ret
          rw [E.out]
          exact HP.out
  · have E : Hid (renameM d p p2 = (d, missM d p)) := Lib.hid (by unfold renameM; rw [if_pos hm0])
    have t1 : (missM d p == 0) = false := by simpa using hm0
    clear hm0 h
    generalize missM d p = m at *
    unfold ptrV at *
    go_enter Tryz.func52, Tryz.ntmps52
    go_wp2_with fail
    refine KF.out.mono ?_
    rintro e w1 ⟨rfl, n, rfl⟩
    go_wp2_with fail
    go_ret
    rw [E.out]
    exact ROpPost.same H.out (below_drewN w n) m
/-! ### what a write needs -/
theorem rb_step {B : Nat} {w1 w2 : World} {A : Option Addr} {b : Tx} (h : RDkI z w own db d K) (hb : Below w.heap.size w w1) (ho : Only db w1 w2) (hr : RB w B A b) (hB : B ≤ w.heap.size) (hz : ∀ k, k < B → ¬ isD z (own k)) : RB w2 B A b :=
  RB.turn (RB.below hr (hb.mono hB)) (Nat.le_trans hB hb.size) hz (turn_only h.mark ho)
/-- behind the copy of the bytes: the write -/
theorem rwr_after {i n3 c3 : Nat} {w2 w3 : World} {A3 : Option Addr} {g3 : Option Nat} {b : Tx} {x : Nd} {at_ : Int} {d1 : Dk} (hd : ∃ q, RSt z w2 own db d1 q) (hx : d1.nodes[i]? = some x) (hb3 : Below w2.heap.size w2 w3) (hX : OwnX 1 w3 g3 (.slice A3 n3 c3) (Lib.byteCells b)) (h3 : ∀ k, g3 = some k → w2.heap.size ≤ k) (hf : FitW x.now ⟨at_, b⟩) (hl : x.now.length + b.length ≤ 1000000000) (hk : x.waits.length ≤ 1000000) :
    Calls Tryz.prog 100 #[.pointer (some ⟨db, 0, none⟩), .int .i64 (i : Int), .agg #[.int .i64 at_, .slice A3 n3 c3]] w3 (REntPost z w2 own db (wroteM d1 i ⟨at_, b⟩)) := by
  obtain ⟨q, hq⟩ := hd
  have hv : FzV w3 (newM w2 own fun k => if g3 = some k then frz else (0, 0)) (.slice A3 n3 c3) b := hX.fz fun k e => by rw [newM_new (h3 k e), if_pos e]
  refine (rwrote_walk z w3 _ db d1 q (hq.grown hb3 fun k => if g3 = some k then frz else (0, 0)) i x hx ⟨at_, b⟩ _ hv hf hl hk).mono fun e w' hp => ?_
  exact REntPost.ent (Turn.of_below hb3 fun k hk => newM_old hk) hp
end
end Go.Proofs.YtbpooaicmjkemaaGreatDoor
