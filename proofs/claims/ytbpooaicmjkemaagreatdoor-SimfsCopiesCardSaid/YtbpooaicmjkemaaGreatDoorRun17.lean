/-
  Several texts in one (merge.py): SfRAp, SfRWa, SfRSn. Conditions: each part names its own.
-/
import Derived.Test.YtbpooaicmjkemaaGreatDoorSfROp
/-! The walks of the document's Append, WriteAt. Conditions: the lengths. -/
namespace Go.Proofs.YtbpooaicmjkemaaGreatDoor
open Go.RowKit Go.Maps
set_option linter.unusedVariables false
section
variable {z db K : Nat} {w : World} {own : Nat → Nat × Nat} {d : Dk}
theorem rused_op (h : RDkI z w own db d K) (hK : K ≤ 8000) : Calls Tryz.prog 99 #[ptrV db] w fun e w' => e = .returned (.int .i64 (usedM d : Int)) ∧ Below w.heap.size w w' := by
  obtain ⟨q, hq⟩ := h.dk
  have h1 := h.wf.used
  have h2 := h.wf.cpn
  have h3 := h.wf.nk
  exact rused_walk hq h.wf.iln (by omega) (by
    have : K * 67108864 ≤ 8000 * 67108864 := Nat.mul_le_mul_right _ hK
    omega)
/-- what is known of the found node -/
theorem RDkI.file (h : RDkI z w own db d K) {p : Tx} (h0 : missM d p = 0) : ∃ x, d.nodes[fileM d p]? = some x ∧ nodeM d (fileM d p) = x ∧ (stepM d).1.nodes[fileM d p]? = some x ∧ x.now.length ≤ 67108864 ∧ x.waits.length ≤ K ∧ NdOk x K := by
  obtain ⟨q, hq⟩ := h.dk
  obtain ⟨x, h1, h2⟩ := hq.file h.wf.iln h0
  have h3 := h.wf.nd x (List.mem_of_getElem? h1)
  exact ⟨x, h1, h2, by rw [(step_same d).2.1]; exact h1, h3.ln, h3.lw, h3⟩
set_option maxRecDepth 100000 in
set_option maxHeartbeats 2000000 in
theorem rappend_walk (h : RDkI z w own db d K) (hK : K ≤ 8000) (p : Tx) {B : Nat} (b : Tx) (A : Option Addr) (n c : Nat) (hn : n = b.length) (hr : RB w B A b) (hB : B ≤ w.heap.size) (hz : ∀ k, k < B → ¬ isD z (own k)) (hA : A = none → n = 0) (hm : n ≤ 9223372036854775807) :
    Calls Tryz.prog 49 #[ptrV db, .string (bs p), .slice A n c] w (ROpPost z w own db (appendM d p b)) := by
  have KF := Lib.hid (rfound_op h hK p)
  have H := Lib.hid h
  have KU := Lib.hid (fun q => rused_op (h.below (below_drewN w q)) hK)
  have KS := Lib.hid (fun w1 (hb : Below w.heap.size w w1) => rstep_op (h.below hb) hK)
  have hu := h.wf.used
  have hq2 := h.wf.q2
  have hq1 := h.wf.q1
  have hu2 : usedM d ≤ 8000 * 67108864 := Nat.le_trans hu (Nat.mul_le_mul_right _ hK)
  obtain ⟨U, hU⟩ : ∃ U : Int, (usedM d : Int) = U := ⟨_, rfl⟩
  have hU2 : 0 ≤ U ∧ U ≤ 536870912000 := by omega
  have hwr : IntKind.i64.wrap (d.quota - U) = d.quota - U := IntWalk.i64_in _ (by omega)
  have HQ : Hid (∀ w1, Below w.heap.size w w1 → w1.cell? ⟨db, 0, none⟩ = some (.int .i64 d.quota)) := Lib.hid fun w1 hb => by
    obtain ⟨q, hq⟩ := h.dk
    exact (hq.blk.keep hb).cell 0
  have HN := Lib.hid hn
  by_cases hm0 : missM d p = 0
  · have hrf : rfN d p = fileM d p := by unfold rfN; rw [if_pos hm0]
    rw [hm0, hrf] at KF
    rw [hU] at KU
    by_cases hbig : (n : Int) > d.quota - U
    · have E : Hid (appendM d p b = (d, 15)) := Lib.hid (by unfold appendM; rw [if_neg (by rw [hm0]; decide), if_pos (by omega)])
      clear hu hq2 hq1 hu2 hU2 hm0 hrf hU h hn hr hB hz hA
      unfold ptrV at *
      generalize d.quota = qt at *
      generalize fileM d p = i at *
      go_enter Tryz.func49, Tryz.ntmps49
      go_wp2_with fail
      refine KF.out.mono ?_
      rintro e w1 ⟨rfl, nq, rfl⟩
      go_wp2_with fail
      refine (KU.out nq).mono ?_
      rintro e w2 ⟨rfl, hb2⟩
      have HB2 : Hid (Below w.heap.size w w2) := Lib.hid ((below_drewN w nq).trans (hb2.mono (Nat.le_refl _)))
      have k0 := HQ.out w2 HB2.out
      clear hb2
      go_wp2_with fail
      go_ret
      rw [E.out]
      exact ROpPost.same H.out HB2.out 15
    · obtain ⟨x, -, -, hx, hxl, hxk, -⟩ := h.file hm0
      have hnb : n ≤ 67108864 := by omega
      cases he : (stepM d).2 == 0 with
      | false =>
        have t1 : ((stepM d).2 == 0) = false := he
        have E : Hid (appendM d p b = ((stepM d).1, (stepM d).2)) := Lib.hid (by unfold appendM writeM; rw [if_neg (by rw [hm0]; decide), if_neg (by omega), if_pos (by simpa using he)])
        clear hu hq2 hq1 hu2 hU2 hm0 hrf hU h hn hr hB hz hA he hx hxl hxk
        unfold ptrV at *
        generalize d.quota = qt at *
        generalize fileM d p = i at *
        go_enter Tryz.func49, Tryz.ntmps49
        go_wp2_with fail
        refine KF.out.mono ?_
        rintro e w1 ⟨rfl, nq, rfl⟩
        go_wp2_with fail
        refine (KU.out nq).mono ?_
        rintro e w2 ⟨rfl, hb2⟩
        have HB2 : Hid (Below w.heap.size w w2) := Lib.hid ((below_drewN w nq).trans (hb2.mono (Nat.le_refl _)))
        have k0 := HQ.out w2 HB2.out
        clear hb2
        go_wp2_with fail
        refine (KS.out w2 HB2.out).mono ?_
        rintro e w3 ⟨-, hd1, ho1, rfl⟩
        have HD1 := Lib.hid hd1
        have HO1 := Lib.hid ho1
        clear hd1 ho1 k0
        generalize hsm : (stepM d).2 = se at *
        clear hsm
        go_wp2_with fail
        go_ret
        rw [E.out]
        exact ROpPost.no H.out HB2.out HD1.out HO1.out
      | true =>
        have he0 : (stepM d).2 = 0 := by simpa using he
        rw [he0] at KS
        have E : Hid (appendM d p b = (wroteM (stepM d).1 (fileM d p) ⟨-1, b⟩, 0)) := Lib.hid (by unfold appendM writeM; rw [if_neg (by rw [hm0]; decide), if_neg (by omega), if_neg (by rw [he0]; decide)])
        have HX := Lib.hid hx
        have HXL : Hid (x.now.length ≤ 67108864 ∧ x.waits.length ≤ K ∧ K ≤ 8000 ∧ n ≤ 67108864) := Lib.hid ⟨hxl, hxk, hK, hnb⟩
        have HR : Hid (∀ w1 w2, Below w.heap.size w w1 → Only db w1 w2 → RB w2 B A b) := Lib.hid fun w1 w2 hb ho => rb_step h hb ho hr hB hz
        have HBB := Lib.hid hB
        have HA := Lib.hid hA
        clear hu hq2 hq1 hu2 hU2 hm0 hrf hU h hn hr hB hz hA he he0 hx hxl hxk
        unfold ptrV at *
        generalize hqt : d.quota = qt at *
        clear hqt
        generalize hi : fileM d p = i at *
        clear hi
        go_enter Tryz.func49, Tryz.ntmps49
        go_wp2_with fail
        refine KF.out.mono ?_
        rintro e w1 ⟨rfl, nq, rfl⟩
        go_wp2_with fail
        refine (KU.out nq).mono ?_
        rintro e w2 ⟨rfl, hb2⟩
        have HB2 : Hid (Below w.heap.size w w2) := Lib.hid ((below_drewN w nq).trans (hb2.mono (Nat.le_refl _)))
        have k0 := HQ.out w2 HB2.out
        clear hb2
        go_wp2_with fail
        refine (KS.out w2 HB2.out).mono ?_
        rintro e w3 ⟨-, hd1, ho1, rfl⟩
        have HD1 := Lib.hid hd1
        have HO1 := Lib.hid ho1
        have hrb3 := HR.out w2 w3 HB2.out ho1
        have hb3 : B ≤ w3.heap.size := Nat.le_trans HBB.out (Nat.le_trans HB2.out.size ho1.size)
        have HBA := Lib.hid ((Below.refl w3.heap.size w3).alloc (Nat.le_refl _) (.cells #[] 5))
        have HRB3 := Lib.hid (RB.below hrb3 (HBA.out.mono hb3))
        clear hd1 ho1 k0 hrb3 hb3
        go_wp2_with (at_builtin; refine wpList_appX _ uxB (.tmp 36) (.tmp 37) rfl rfl rfl (OwnX.nil _ _) A n c rfl (Lib.byteCells b) (by rw [byteCells_len, HN.out, Nat.mul_one]) HA.out HRB3.out.news (byteCells_one b) (by have := HXL.out; simp; omega) ?_; intro v4 g4 w4 hX4 hG4 ho4; rw [List.nil_append] at hX4; have HB4 := Lib.hid (belowX HBA.out hG4 (fun k h => by cases h) HBA.out.size); have HO4 : Hid (∀ k, g4 = some k → w3.heap.size ≤ k) := Lib.hid (fun k hk => by rcases ho4 with h | h <;> (rw [h] at hk; cases hk); exact HBA.out.size); have HX4 := Lib.hid hX4; obtain ⟨A4, n4, c4, rfl, -⟩ := hX4.sl; clear hX4 hG4 ho4)
        have KW := rwr_after (b := b) (at_ := -1) HD1.out HX.out HB4.out HX4.out HO4.out (.inl rfl) (by have := HXL.out; have := HN.out; omega) (by have := HXL.out; omega)
        refine KW.mono ?_
        rintro e w5 hp
        have HP := Lib.hid (ROpPost.ent2 H.out HB2.out HO1.out hp)
        obtain ⟨-, -, -, rfl⟩ := hp
        clear KW
        generalize hd9 : wroteM (stepM d).1 i ⟨-1, b⟩ = d9 at *
        clear hd9
        go_wp2_with fail
        go_ret
        rw [E.out]
        exact HP.out
  · have E : Hid (appendM d p b = (d, missM d p)) := Lib.hid (by unfold appendM; rw [if_pos hm0])
    have t1 : (missM d p == 0) = false := by simpa using hm0
    clear hm0 h hn hr hB hz hA hu hq2 hq1 hu2 hU hU2 hwr
    generalize missM d p = m at *
    unfold ptrV at *
    go_enter Tryz.func49, Tryz.ntmps49
    go_wp2_with fail
    refine KF.out.mono ?_
    rintro e w1 ⟨rfl, nq, rfl⟩
    go_wp2_with fail
    go_ret
    rw [E.out]
    exact ROpPost.same H.out (below_drewN w nq) m
end
end Go.Proofs.YtbpooaicmjkemaaGreatDoor

/-! The walks of the document's WriteAt, Sync. Conditions: the lengths. -/
namespace Go.Proofs.YtbpooaicmjkemaaGreatDoor
open Go.RowKit Go.Maps
set_option linter.unusedVariables false
section
variable {z db K : Nat} {w : World} {own : Nat → Nat × Nat} {d : Dk}
/-- where the found node's bytes lie -/
theorem RDkI.cells (h : RDkI z w own db d K) {i : Nat} {x : Nd} (hx : d.nodes[i]? = some x) : ∃ g off nn cn An ca, i < nn ∧ g ≠ db ∧ ∀ w1, Below w.heap.size w w1 → w1.cell? ⟨db, 2, none⟩ = some (.slice (some ⟨g, off, none⟩) nn cn) ∧ w1.cell? ⟨g, off + i * 3, none⟩ = some (.slice An x.now.length ca) := by
  obtain ⟨q, hq⟩ := h.dk
  obtain ⟨m, g, off, nn, cn, hm, hg, hvn, hnn, hnc, hgl, n0, n1, n2, hN⟩ := hq.rest.ndAt hx
  obtain ⟨An, ca, hv1, -⟩ := hN.now
  refine ⟨g, off, nn, cn, An, ca, by rw [hnn]; exact (List.getElem?_eq_some_iff.1 hx).1, fun e => ?_, fun w1 hb => ⟨?_, ?_⟩⟩
  · have h1 := hq.rest.mn g hg
    rw [e, hq.mark] at h1; simp at h1
  · rw [← hvn]; exact (hq.blk.keep hb).cell 2
  · rw [← hv1]; exact (hb.cell (p := ⟨g, off + i * 3, none⟩) hgl).trans n0
set_option maxRecDepth 100000 in
set_option maxHeartbeats 2000000 in
theorem rwriteAt_walk (h : RDkI z w own db d K) (hK : K ≤ 8000) (p : Tx) (at_ : Int) (ha : -9223372036854775808 ≤ at_ ∧ at_ ≤ 9223372036854775807) {B : Nat} (b : Tx) (A : Option Addr) (n c : Nat) (hn : n = b.length) (hr : RB w B A b) (hB : B ≤ w.heap.size) (hz : ∀ k, k < B → ¬ isD z (own k)) (hA : A = none → n = 0) (hm : n ≤ 9223372036854775807) :
    Calls Tryz.prog 50 #[ptrV db, .string (bs p), .int .i64 at_, .slice A n c] w (ROpPost z w own db (writeAtM d p at_ b)) := by
  have KF := Lib.hid (rfound_op h hK p)
  have H := Lib.hid h
  have KS := Lib.hid (fun w1 (hb : Below w.heap.size w w1) => rstep_op (h.below hb) hK)
  have HN := Lib.hid hn
  by_cases hm0 : missM d p = 0
  · have hrf : rfN d p = fileM d p := by unfold rfN; rw [if_pos hm0]
    rw [hm0, hrf] at KF
    obtain ⟨x, hx0, hxe, hx, hxl, hxk, -⟩ := h.file hm0
    obtain ⟨g, off, nn, cn, An, ca, hin, -, hcl⟩ := h.cells hx0
    have HCL := Lib.hid hcl
    have HX := Lib.hid hx
    have HXE := Lib.hid hxe
    obtain ⟨ln, hln⟩ : ∃ ln, x.now.length = ln := ⟨_, rfl⟩
    have HLN := Lib.hid hln
    rw [hln] at HCL hxl
    have hin1 : (fileM d p : Int) < (nn : Int) := by omega
    by_cases hbad : at_ < 0 ∨ at_ > (ln : Int) ∨ (n : Int) > (ln : Int) - at_
    · have E : Hid (writeAtM d p at_ b = (d, 1)) := Lib.hid (by unfold writeAtM; rw [if_neg (by rw [hm0]; decide), if_pos (by rw [hxe, hln]; omega)])
      clear hm0 hrf h hn hr hB hz hA hx hxe hln hxk hcl hx0 hin
      unfold ptrV at *
      generalize hi : fileM d p = i at *
      clear hi
      by_cases h1 : at_ < 0
      · clear hbad
        go_enter Tryz.func50, Tryz.ntmps50
        go_wp2_with fail
        refine KF.out.mono ?_
        rintro e w1 ⟨rfl, nq, rfl⟩
        obtain ⟨y2, y3⟩ := HCL.out _ (below_drewN w nq)
        go_wp2_with fail
        go_ret
        rw [E.out]
        exact ROpPost.same H.out (below_drewN w nq) 1
      · by_cases h2 : at_ > (ln : Int)
        · clear hbad
          go_enter Tryz.func50, Tryz.ntmps50
          go_wp2_with fail
          refine KF.out.mono ?_
          rintro e w1 ⟨rfl, nq, rfl⟩
          obtain ⟨y2, y3⟩ := HCL.out _ (below_drewN w nq)
          go_wp2_with fail
          go_ret
          rw [E.out]
          exact ROpPost.same H.out (below_drewN w nq) 1
        · have h3 : (n : Int) > (ln : Int) - at_ := by omega
          have hwr : IntKind.i64.wrap ((ln : Int) - at_) = (ln : Int) - at_ := IntWalk.i64_in _ (by omega)
          clear hbad
          go_enter Tryz.func50, Tryz.ntmps50
          go_wp2_with fail
          refine KF.out.mono ?_
          rintro e w1 ⟨rfl, nq, rfl⟩
          obtain ⟨y2, y3⟩ := HCL.out _ (below_drewN w nq)
          go_wp2_with fail
          go_ret
          rw [E.out]
          exact ROpPost.same H.out (below_drewN w nq) 1
    · have h1 : ¬ at_ < 0 := fun h => hbad (.inl h)
      have h2 : ¬ at_ > (ln : Int) := fun h => hbad (.inr (.inl h))
      have h3 : ¬ (n : Int) > (ln : Int) - at_ := fun h => hbad (.inr (.inr h))
      have hwr : IntKind.i64.wrap ((ln : Int) - at_) = (ln : Int) - at_ := IntWalk.i64_in _ (by omega)
      have hnb : n ≤ 67108864 := by omega
      cases he : (stepM d).2 == 0 with
      | false =>
        have t1 : ((stepM d).2 == 0) = false := he
        have E : Hid (writeAtM d p at_ b = ((stepM d).1, (stepM d).2)) := Lib.hid (by unfold writeAtM writeM; rw [if_neg (by rw [hm0]; decide), if_neg (by rw [hxe, hln]; omega), if_pos (by simpa using he)])
        clear hm0 hrf h hn hr hB hz hA he hx hxe hln hxk hbad hcl hx0 hin
        unfold ptrV at *
        generalize hi : fileM d p = i at *
        clear hi
        go_enter Tryz.func50, Tryz.ntmps50
        go_wp2_with fail
        refine KF.out.mono ?_
        rintro e w1 ⟨rfl, nq, rfl⟩
        obtain ⟨y2, y3⟩ := HCL.out _ (below_drewN w nq)
        go_wp2_with fail
        refine (KS.out _ (below_drewN w nq)).mono ?_
        rintro e w3 ⟨-, hd1, ho1, rfl⟩
        have HD1 := Lib.hid hd1
        have HO1 := Lib.hid ho1
        clear hd1 ho1 y2 y3
        generalize hsm : (stepM d).2 = se at *
        clear hsm
        go_wp2_with fail
        go_ret
        rw [E.out]
        exact ROpPost.no H.out (below_drewN w nq) HD1.out HO1.out
      | true =>
        have he0 : (stepM d).2 = 0 := by simpa using he
        rw [he0] at KS
        have E : Hid (writeAtM d p at_ b = (wroteM (stepM d).1 (fileM d p) ⟨at_, b⟩, 0)) := Lib.hid (by unfold writeAtM writeM; rw [if_neg (by rw [hm0]; decide), if_neg (by rw [hxe, hln]; omega), if_neg (by rw [he0]; decide)])
        have HXL : Hid (x.now.length ≤ 67108864 ∧ x.waits.length ≤ K ∧ K ≤ 8000 ∧ n ≤ 67108864) := Lib.hid ⟨by rw [hln]; exact hxl, hxk, hK, hnb⟩
        have HFIT : Hid (FitW x.now ⟨at_, b⟩) := Lib.hid (.inr ⟨by show 0 ≤ at_; omega, by show at_.toNat + b.length ≤ x.now.length; omega⟩)
        have HR : Hid (∀ w1 w2, Below w.heap.size w w1 → Only db w1 w2 → RB w2 B A b) := Lib.hid fun w1 w2 hb ho => rb_step h hb ho hr hB hz
        have HBB := Lib.hid hB
        have HA := Lib.hid hA
        clear hm0 hrf h hn hr hB hz hA he he0 hx hxe hln hxk hbad hcl hx0 hin
        unfold ptrV at *
        generalize hi : fileM d p = i at *
        clear hi
        go_enter Tryz.func50, Tryz.ntmps50
        go_wp2_with fail
        refine KF.out.mono ?_
        rintro e w1 ⟨rfl, nq, rfl⟩
        obtain ⟨y2, y3⟩ := HCL.out _ (below_drewN w nq)
        go_wp2_with fail
        refine (KS.out _ (below_drewN w nq)).mono ?_
        rintro e w3 ⟨-, hd1, ho1, rfl⟩
        have HB2 := Lib.hid (below_drewN w nq)
        have HD1 := Lib.hid hd1
        have HO1 := Lib.hid ho1
        have hrb3 := HR.out _ w3 HB2.out ho1
        have hb3 : B ≤ w3.heap.size := Nat.le_trans HBB.out (Nat.le_trans HB2.out.size ho1.size)
        have HBA := Lib.hid ((Below.refl w3.heap.size w3).alloc (Nat.le_refl _) (.cells #[] 5))
        have HRB3 := Lib.hid (RB.below hrb3 (HBA.out.mono hb3))
        clear hd1 ho1 hrb3 hb3 y2 y3
        go_wp2_with (at_builtin; refine wpList_appX _ uxB (.tmp 58) (.tmp 59) rfl rfl rfl (OwnX.nil _ _) A n c rfl (Lib.byteCells b) (by rw [byteCells_len, HN.out, Nat.mul_one]) HA.out HRB3.out.news (byteCells_one b) (by have := HXL.out; simp; omega) ?_; intro v4 g4 w4 hX4 hG4 ho4; rw [List.nil_append] at hX4; have HB4 := Lib.hid (belowX HBA.out hG4 (fun k h => by cases h) HBA.out.size); have HO4 : Hid (∀ k, g4 = some k → w3.heap.size ≤ k) := Lib.hid (fun k hk => by rcases ho4 with h | h <;> (rw [h] at hk; cases hk); exact HBA.out.size); have HX4 := Lib.hid hX4; obtain ⟨A4, n4, c4, rfl, -⟩ := hX4.sl; clear hX4 hG4 ho4)
        have KW := rwr_after (b := b) (at_ := at_) HD1.out HX.out HB4.out HX4.out HO4.out HFIT.out (by have := HXL.out; have := HN.out; omega) (by have := HXL.out; omega)
        refine KW.mono ?_
        rintro e w5 hp
        have HP := Lib.hid (ROpPost.ent2 H.out HB2.out HO1.out hp)
        obtain ⟨-, -, -, rfl⟩ := hp
        clear KW
        generalize hd9 : wroteM (stepM d).1 i ⟨at_, b⟩ = d9 at *
        clear hd9
        go_wp2_with fail
        go_ret
        rw [E.out]
        exact HP.out
  · have E : Hid (writeAtM d p at_ b = (d, missM d p)) := Lib.hid (by unfold writeAtM; rw [if_pos hm0])
    have t1 : (missM d p == 0) = false := by simpa using hm0
    clear hm0 h hn hr hB hz hA
    generalize missM d p = m at *
    unfold ptrV at *
    go_enter Tryz.func50, Tryz.ntmps50
    go_wp2_with fail
    refine KF.out.mono ?_
    rintro e w1 ⟨rfl, nq, rfl⟩
    go_wp2_with fail
    go_ret
    rw [E.out]
    exact ROpPost.same H.out (below_drewN w nq) m
end
end Go.Proofs.YtbpooaicmjkemaaGreatDoor

/-! The walk of the document's Sync. Conditions: the lengths. -/
namespace Go.Proofs.YtbpooaicmjkemaaGreatDoor
open Go.RowKit Go.Maps
set_option linter.unusedVariables false
/-- the end of a sync -/
theorem rsy_end {z db i g off nn cn : Nat} {w w4 : World} {own : Nat → Nat × Nat} {d : Dk} {q : RParts} {m : NdV} {x : Nd} {v4 : Value} {g4 : Option Nat} (h : RSt z w own db d q) (hm : q.ms[i]? = some m) (hx : d.nodes[i]? = some x) (hg : q.gn = some g) (hvn : q.vn = .slice (some ⟨g, off, none⟩) nn cn)
    (hb4 : Below w.heap.size w w4) (hX : OwnX 1 w4 g4 v4 (Lib.byteCells x.now)) (h4 : ∀ k, g4 = some k → w.heap.size ≤ k) :
    REntPost z w own db (syncedM d i) (.returned (.tuple #[])) ((w4.setCell ⟨g, off + i * 3 + 1, none⟩ v4).setCell ⟨g, off + i * 3 + 2, none⟩ (.slice none 0 0)) := by
  have r := h.rest
  have hN := r.nd i m x hm hx
  have hdm := h.mark
  have hdw := h.blk.lt
  have hgm := r.mn g hg
  have hgw := r.nodes.lt hg
  have s4 := hb4.size
  have hsW : ((w4.setCell ⟨g, off + i * 3 + 1, none⟩ v4).setCell ⟨g, off + i * 3 + 2, none⟩ (.slice none 0 0)).heap.size = w4.heap.size := by simp
  have gdb : db ≠ g := fun e => by rw [e, hgm] at hdm; simp at hdm
  have st : ∀ k, k < w4.heap.size → k ≠ g → ((w4.setCell ⟨g, off + i * 3 + 1, none⟩ v4).setCell ⟨g, off + i * 3 + 2, none⟩ (.slice none 0 0)).heap[k]? = w4.heap[k]? := fun k h1 h3 =>
    (Below.heap_setCell _ ⟨g, off + i * 3 + 2, none⟩ _ k h3).trans (Below.heap_setCell w4 ⟨g, off + i * 3 + 1, none⟩ v4 k h3)
  have hi := (List.getElem?_eq_some_iff.1 hx).1
  have hg4 : ∀ k, g4 = some k → w.heap.size ≤ k ∧ k < w4.heap.size := fun k e => ⟨h4 k e, hX.lt e⟩
  have hS : Safe (fun k => k < w.heap.size ∧ butNode z i (own k)) w ((w4.setCell ⟨g, off + i * 3 + 1, none⟩ v4).setCell ⟨g, off + i * 3 + 2, none⟩ (.slice none 0 0)) :=
    ⟨hb4.os, hb4.tape, hb4.output, by rw [hsW]; omega, fun k ⟨k1, k2, k3, k4⟩ => (st k (by omega) (fun e => k3 (by rw [e]; exact hgm))).trans (hb4.block k k1)⟩
  have hgo : Goes (butNode z i) w ((w4.setCell ⟨g, off + i * 3 + 1, none⟩ v4).setCell ⟨g, off + i * 3 + 2, none⟩ (.slice none 0 0)) own (newM w own fun k => if g4 = some k then frz else (0, 0)) := hS.goes fun k k1 k2 => ⟨k1, k2⟩
  have hO := r.nodes
  rw [hvn] at hO
  have hrow : (q.ms.map ndC)[i]? = some (ndC m) := by rw [List.getElem?_map, hm]; rfl
  have hil : i < (q.ms.map ndC).length := (List.getElem?_eq_some_iff.1 hrow).1
  have hO6 := (hO.below hb4 fun k e => r.nodes.lt e).put_ (by decide) (nd_all _) hrow (j := 1) (by decide) v4
  have hO8 := hO6.put_ (by decide) (set_all (nd_all _) (by rfl)) (i := i) (r := (ndC m).set 1 v4) (by rw [List.getElem?_set_self hil]) (j := 2) (by decide) (.slice none 0 0)
  have hfin := rnode_fin (f := fun k => if g4 = some k then frz else (0, 0)) (m' := { m with vl := v4, vw := .slice none 0 0, gw := none, vs := [] }) (x' := { x with lasts := x.now, waits := [] }) (vn' := q.vn) (gn' := q.gn) (d' := syncedM d i) h hi hS ?_ (fun k e => ?_) ⟨hN.now.goes hgo butNode_frz, ?_, OwnX.nil _ none, ⟨rfl, fun j v y hv => by simp at hv⟩, fun k e => by cases e⟩ ?_ ⟨rfl, ?_, rfl, rfl, rfl, rfl⟩
  · exact ⟨_, ⟨_, hfin.1⟩, hfin.2, rfl⟩
  · rw [hvn]
    have e1 : (q.ms.set i { m with vl := v4, vw := .slice none 0 0, gw := none, vs := [] }).map ndC = ((q.ms.map ndC).set i ((ndC m).set 1 v4)).set i (((ndC m).set 1 v4).set 2 (.slice none 0 0)) := by
      rw [List.set_set, List.map_set]; rfl
    rw [e1]
    exact hO8
  · rw [newM_old (r.nodes.lt e)]; exact r.mn k e
  · refine OwnX.fz (g := g4) (hX.same (by rw [hsW]; omega) fun k e => st k (hg4 k e).2 (by have := hg4 k e; omega)) fun k e => ?_
    rw [newM_new (hg4 k e).1, if_pos e]
  · exact (h.blk.keep hb4).at_ (st db (by omega) gdb)
  · show d.nodes.set i { nodeM d i with lasts := (nodeM d i).now, waits := [] } = d.nodes.set i { x with lasts := x.now, waits := [] }
    rw [node_at hx]
section
variable {z db K : Nat} {w : World} {own : Nat → Nat × Nat} {d : Dk}
set_option maxRecDepth 100000 in
set_option maxHeartbeats 4000000 in
theorem rsync_walk (h : RDkI z w own db d K) (hK : K ≤ 8000) (p : Tx) :
    Calls Tryz.prog 51 #[ptrV db, .string (bs p)] w (ROpPost z w own db (syncM d p)) := by
  have KF := Lib.hid (rfound_op h hK p)
  have H := Lib.hid h
  have KS := Lib.hid (fun w1 (hb : Below w.heap.size w w1) => rstep_op (h.below hb) hK)
  by_cases hm0 : missM d p = 0
  · have hrf : rfN d p = fileM d p := by unfold rfN; rw [if_pos hm0]
    rw [hm0, hrf] at KF
    obtain ⟨x, hx0, hxe, hx, hxl, hxk, -⟩ := h.file hm0
    cases he : (stepM d).2 == 0 with
    | false =>
      have t1 : ((stepM d).2 == 0) = false := he
      have E : Hid (syncM d p = ((stepM d).1, (stepM d).2)) := Lib.hid (by unfold syncM; rw [if_neg (by rw [hm0]; decide), if_pos (by simpa using he)])
      clear hm0 hrf h he hx hxe hxk hx0
      unfold ptrV at *
      generalize hi : fileM d p = i at *
      clear hi
      go_enter Tryz.func51, Tryz.ntmps51
      go_wp2_with fail
      refine KF.out.mono ?_
      rintro e w1 ⟨rfl, nq, rfl⟩
      go_wp2_with fail
      refine (KS.out _ (below_drewN w nq)).mono ?_
      rintro e w3 ⟨-, hd1, ho1, rfl⟩
      have HD1 := Lib.hid hd1
      have HO1 := Lib.hid ho1
      clear hd1 ho1
      generalize hsm : (stepM d).2 = se at *
      clear hsm
      go_wp2_with fail
      go_ret
      rw [E.out]
      exact ROpPost.no H.out (below_drewN w nq) HD1.out HO1.out
    | true =>
      have he0 : (stepM d).2 = 0 := by simpa using he
      rw [he0] at KS
      have E : Hid (syncM d p = (syncedM (stepM d).1 (fileM d p), 0)) := Lib.hid (by unfold syncM; rw [if_neg (by rw [hm0]; decide), if_neg (by rw [he0]; decide)])
      have HX := Lib.hid hx
      clear hm0 hrf h he he0 hx hxe hxk hx0
      unfold ptrV at *
      generalize hi : fileM d p = i at *
      clear hi
      go_enter Tryz.func51, Tryz.ntmps51
      go_wp2_with fail
      refine KF.out.mono ?_
      rintro e w1 ⟨rfl, nq, rfl⟩
      go_wp2_with fail
      refine (KS.out _ (below_drewN w nq)).mono ?_
      rintro e w3 ⟨-, ⟨q, hd1⟩, ho1, rfl⟩
      have HD1 := Lib.hid hd1
      have HO1 := Lib.hid ho1
      obtain ⟨m, g, off, nn, cn, hm, hg, hvn, hnn, hnc, hgl, n0, n1, n2, hN⟩ := hd1.rest.ndAt HX.out
      obtain ⟨An, ca, hv1, hc1, hm1, hfz⟩ := hN.now
      have HM := Lib.hid (⟨hm, hg, hvn⟩ : q.ms[i]? = some m ∧ q.gn = some g ∧ q.vn = .slice (some ⟨g, off, none⟩) nn cn)
      have hgd : g ≠ db := fun e => by have h1 := hd1.rest.mn g hg; rw [e, hd1.mark] at h1; simp at h1
      have hrow : (q.ms.map ndC)[i]? = some (ndC m) := by rw [List.getElem?_map, hm]; rfl
      have hO := hd1.rest.nodes
      rw [hvn] at hO
      obtain ⟨-, -, -, hin, g', off', hg', ea, -, hcl⟩ := hO.elem (by decide) (nd_all _) hrow
      cases ea
      obtain ⟨ln, hln⟩ : ∃ ln, x.now.length = ln := ⟨_, rfl⟩
      have HLN := Lib.hid hln
      have hin1 : (i : Int) < (nn : Int) := by omega
      have hdb := hd1.blk.lt
      have k2 : w3.cell? ⟨db, 2, none⟩ = some (.slice (some ⟨g, off, none⟩) nn cn) := by rw [← hvn]; exact hd1.blk.cell 2
      have q0 : w3.cell? ⟨g, off + i * 3, none⟩ = some (.slice An ln ca) := by rw [← hln, ← hv1]; exact n0
      have hba := (Below.refl w3.heap.size w3).alloc (Nat.le_refl _) (.cells #[] 5)
      have HBA := Lib.hid hba
      have k2a : (w3.alloc (.cells #[] 5)).drew.cell? ⟨db, 2, none⟩ = some (.slice (some ⟨g, off, none⟩) nn cn) := (hba.cell (p := ⟨db, 2, none⟩) hdb).trans k2
      have q0a : (w3.alloc (.cells #[] 5)).drew.cell? ⟨g, off + i * 3, none⟩ = some (.slice An ln ca) := (hba.cell (p := ⟨g, off + i * 3, none⟩) hgl).trans q0
      obtain ⟨v4, g4, w4, hrun, hX4, hG4, ho4⟩ := run_appX (P := Tryz.prog) (w3.alloc (.cells #[] 5)).drew uxB 35 (OwnX.nil _ (some ⟨w3.heap.size, 0, none⟩)) An ln ca (Lib.byteCells x.now) (by rw [byteCells_len, hln, Nat.mul_one]) (fun e => by rw [← hln, (hfz.rb).none_ e]; rfl) (RB.below hfz.rb hba).news (byteCells_one x.now) (by simp; omega)
      rw [List.nil_append] at hX4
      have hb4 : Below w3.heap.size w3 w4 := belowX (w1 := (w3.alloc (.cells #[] 5)).drew) ⟨hba.os, hba.tape, hba.output, hba.size, hba.block⟩ hG4 (fun k h => by cases h) hba.size
      have ho4' : ∀ k, g4 = some k → w3.heap.size ≤ k := fun k hk => by
        rcases ho4 with h | h
        · rw [h] at hk; cases hk
        · rw [h] at hk; cases hk; exact hba.size
      have k2b : w4.cell? ⟨db, 2, none⟩ = some (.slice (some ⟨g, off, none⟩) nn cn) := (hb4.cell (p := ⟨db, 2, none⟩) hdb).trans k2
      have q1b : w4.cell? ⟨g, off + i * 3 + 1, none⟩ = some m.vl := (hb4.cell (p := ⟨g, off + i * 3 + 1, none⟩) hgl).trans n1
      have f1b : w4.frozen? ⟨g, off + i * 3 + 1, none⟩ = false := (World.frozen?_of_block (hb4.block g hgl)).trans (hcl 1 (by decide)).2
      have q2b : w4.cell? ⟨g, off + i * 3 + 2, none⟩ = some m.vw := (hb4.cell (p := ⟨g, off + i * 3 + 2, none⟩) hgl).trans n2
      have f2b : w4.frozen? ⟨g, off + i * 3 + 2, none⟩ = false := (World.frozen?_of_block (hb4.block g hgl)).trans (hcl 2 (by decide)).2
      obtain ⟨A4, n4, c4, rfl, -⟩ := hX4.sl
      have HRUN := Lib.hid hrun
      have HFIN : Hid (REntPost z w3 own db (syncedM (stepM d).1 i) (.returned (.tuple #[])) ((w4.setCell ⟨g, off + i * 3 + 1, none⟩ (.slice A4 n4 c4)).setCell ⟨g, off + i * 3 + 2, none⟩ (.slice none 0 0))) := Lib.hid (rsy_end hd1 hm HX.out hg hvn hb4 hX4 ho4')
      have k2c : (w4.setCell ⟨g, off + i * 3 + 1, none⟩ (.slice A4 n4 c4)).cell? ⟨db, 2, none⟩ = some (.slice (some ⟨g, off, none⟩) nn cn) := by
        rw [World.cell?_setCell_other _ _ _ _ (by intro e2; injection e2 with e3 e4; exact hgd e3)]; exact k2b
      have q2c : (w4.setCell ⟨g, off + i * 3 + 1, none⟩ (.slice A4 n4 c4)).cell? ⟨g, off + i * 3 + 2, none⟩ = some m.vw := by
        rw [World.cell?_setCell_other _ _ _ _ (by intro e2; injection e2 with e3 e4; omega)]; exact q2b
      have f2c : (w4.setCell ⟨g, off + i * 3 + 1, none⟩ (.slice A4 n4 c4)).frozen? ⟨g, off + i * 3 + 2, none⟩ = false := by
        rw [World.frozen?_setCell]; exact f2b
      have HC : Hid ((w4.setCell ⟨g, off + i * 3 + 1, none⟩ (.slice A4 n4 c4)).cell? ⟨db, 2, none⟩ = some (.slice (some ⟨g, off, none⟩) nn cn) ∧ (w4.setCell ⟨g, off + i * 3 + 1, none⟩ (.slice A4 n4 c4)).cell? ⟨g, off + i * 3 + 2, none⟩ = some m.vw ∧ (w4.setCell ⟨g, off + i * 3 + 1, none⟩ (.slice A4 n4 c4)).frozen? ⟨g, off + i * 3 + 2, none⟩ = false) := Lib.hid ⟨k2c, q2c, f2c⟩
      clear hd1 ho1 hm hg hvn hnn hnc hgl n0 n1 n2 hN hv1 hc1 hm1 hfz hgd hrow hO hin hg' hcl hln hba hrun hX4 hG4 ho4 hb4 ho4' q2b f2b k2c q2c f2c hdb KF KS HBA HM HLN HX
      go_upto_region 6 with fail
      go_cut [34] from 20 to 36 (fun s34 wr => wr = w4.setCell ⟨g, off + i * 3 + 1, none⟩ (.slice A4 n4 c4))
      case first =>
        go_region_law (refine step_appR (P := Tryz.prog) rfl (.tmp 25) (.tmp 33) (by rfl) rfl (by rfl) HRUN.out ?_)
        all_goals
          go_wp2_with fail
          go_meet
          case rel => rfl
      case rest =>
        subst hcut
        obtain ⟨k2c, q2c, f2c⟩ := HC.out
        clear k2 q0 k2a q0a k2b q1b f1b
        go_wp2_with fail
        go_ret
        rw [E.out]
        exact ROpPost.ent2 H.out (below_drewN w nq) HO1.out HFIN.out
  · have E : Hid (syncM d p = (d, missM d p)) := Lib.hid (by unfold syncM; rw [if_pos hm0])
    have t1 : (missM d p == 0) = false := by simpa using hm0
    clear hm0 h
    generalize missM d p = m at *
    unfold ptrV at *
    go_enter Tryz.func51, Tryz.ntmps51
    go_wp2_with fail
    refine KF.out.mono ?_
    rintro e w1 ⟨rfl, nq, rfl⟩
    go_wp2_with fail
    go_ret
    rw [E.out]
    exact ROpPost.same H.out (below_drewN w nq) m
end
end Go.Proofs.YtbpooaicmjkemaaGreatDoor
