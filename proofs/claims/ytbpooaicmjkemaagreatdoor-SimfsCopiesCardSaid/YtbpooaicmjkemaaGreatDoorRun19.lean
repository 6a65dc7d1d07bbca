/-
  Several texts in one (merge.py): SfRAk, SfWt. Conditions: each part names its own.
-/
import Derived.Test.YtbpooaicmjkemaaGreatDoorSfRNw
import Derived.Test.YtbpooaicmjkemaaGreatDoorSfRCr
import Derived.Test.YtbpooaicmjkemaaGreatDoorSfDoes
import Derived.Test.YtbpooaicmjkemaaGreatDoorRun15
/-! The walk of the law's asked: a deed of the document's disk (printed by gen_ask.py). Conditions: the lengths. -/
namespace Go.Proofs.YtbpooaicmjkemaaGreatDoor
open Go.RowKit Go.Maps
set_option linter.unusedVariables false
theorem ROpPost.from {z db : Nat} {w w1 w' : World} {own : Nat → Nat × Nat} {r : Dk × Int} {e : Ending} (hb : Below w.heap.size w w1) (h : ROpPost z w1 own db r e w') : ROpPost z w own db r e w' := by
  obtain ⟨own', h1, h2, h3⟩ := h
  exact ⟨own', h1, h2, (Turn.of_below hb fun _ _ => rfl).trans h3⟩
section
variable {z db K B : Nat} {w : World} {own : Nat → Nat × Nat} {d : Dk}
theorem rfail_op (h : RDkI z w own db d K) (n e0 : Int) (hn : n ≤ 9223372036854775807) : Calls Tryz.prog 55 #[ptrV db, .int .i64 n, .int .i64 e0] w (ROpPost z w own db (failM d n e0)) := by
  obtain ⟨q, hq⟩ := h.dk
  exact (rfail_walk hq n e0 hn).mono fun e w' hp => ROpPost.sw hq.mark (Below.refl _ _) hp
theorem rarm_op (h : RDkI z w own db d K) (n : Int) (hn : n ≤ 9223372036854775807) : Calls Tryz.prog 56 #[ptrV db, .int .i64 n] w (ROpPost z w own db (armM d n)) := by
  obtain ⟨q, hq⟩ := h.dk
  exact (rarm_walk hq n hn).mono fun e w' hp => ROpPost.sw hq.mark (Below.refl _ _) hp
set_option maxRecDepth 100000 in
set_option maxHeartbeats 4000000 in
theorem asked_walk (h : RDkI z w own db d K) (hK : K ≤ 8000) (x : Dd) (m : DdV) (hx : DdR w B x m) (hB : B ≤ w.heap.size) (hz : ∀ k, k < B → ¬ isD z (own k)) :
    Calls Tryz.prog 17 #[ptrV db, .agg (ddC x m).toArray] w (ROpPost z w own db (doesM d x)) := by
  obtain ⟨kind, path, tt, b, n, e, kc, kw⟩ := x
  obtain ⟨A, c, Ac, cc, Aw, cw⟩ := m
  obtain ⟨hrb, hnb, hlb, hmb, hlp, hlt, hn0, hkp⟩ := hx
  obtain ⟨hrc, hrw, hlc, hmc, hlw, hmw, hzw⟩ := hkp
  simp only [] at hrb hnb hlb hmb hlp hlt hn0 hrc hrw hlc hmc hlw hmw hzw
  unfold ddC
  simp only []
  have hbx := (Below.refl w.heap.size w).alloc (Nat.le_refl _) (.cells #[.int .i64 kind, .string (bs path), .string (bs tt), .slice A b.length c, .int .i64 n, .int .i64 e, .slice Ac kc.length cc, .slice Aw kw.length cw] 38)
  have HBX := Lib.hid hbx
  have HX := Lib.hid (Blk.new w 38 #[.int .i64 kind, .string (bs path), .string (bs tt), .slice A b.length c, .int .i64 n, .int .i64 e, .slice Ac kc.length cc, .slice Aw kw.length cw])
  have HI := Lib.hid (h.below hbx)
  have HR := Lib.hid (RB.below hrb (hbx.mono hB))
  have HRC := Lib.hid (RT.rco (w0 := w) (hrc.below (hbx.mono hB)) (Nat.le_trans hB hbx.size) hz)
  have HRW := Lib.hid (RI.rco (hrw.below (hbx.mono hB)) (Nat.le_trans hB hbx.size) hz)
  have HZ : Hid (B ≤ w.heap.size ∧ ∀ k, k < B → ¬ isD z (own k)) := Lib.hid ⟨hB, hz⟩
  have HL : Hid ((A = none → b.length = 0) ∧ b.length ≤ 9223372036854775807 ∧ path.length ≤ maxLen ∧ tt.length ≤ maxLen ∧ -9223372036854775808 ≤ n ∧ n ≤ 9223372036854775807) := Lib.hid ⟨hnb, by omega, hlp, hlt, hn0⟩
  have HC := Lib.hid (⟨⟨hlc, hmc⟩, ⟨hlw, hmw⟩, hzw⟩ : (kc.length ≤ cc ∧ cc ≤ maxLen) ∧ (kw.length ≤ cw ∧ cw ≤ maxLen) ∧ ∀ z ∈ kw, -9223372036854775808 ≤ z ∧ z ≤ 9223372036854775807)
  obtain ⟨nb, hnb2⟩ : ∃ nb, b.length = nb := ⟨_, rfl⟩
  have HNB := Lib.hid hnb2
  rw [hnb2] at HBX HX HI HR HRC HRW HL
  rw [hnb2]
  unfold ptrV
  clear h hrb hnb hlb hmb hlp hlt hn0 hrc hrw hlc hmc hlw hmw hzw hz hB hbx hnb2
  go_enter Tryz.func17, Tryz.ntmps17
  go_upto_region 1 with fail
  generalize hw1 : w.alloc (.cells #[.int .i64 kind, .string (bs path), .string (bs tt), .slice A nb c, .int .i64 n, .int .i64 e, .slice Ac kc.length cc, .slice Aw kw.length cw] 38) = w1 at *
  clear hw1
  have x0 := HX.out.cell 0
  have x1 := HX.out.cell 1
  have x2 := HX.out.cell 2
  have x3 := HX.out.cell 3
  have x4 := HX.out.cell 4
  have x5 := HX.out.cell 5
  have x6 := HX.out.cell 6
  have x7 := HX.out.cell 7
  by_cases hk0 : kind = 0
  · subst hk0
    have KO := Lib.hid (rcreate_walk HI.out hK path HL.out.2.2.1)
    unfold ptrV at KO
    go_wp2_with fail
    refine KO.out.mono ?_
    rintro e' w2 hp
    have HP := Lib.hid (ROpPost.from HBX.out hp)
    obtain ⟨-, -, rfl, -⟩ := hp
    generalize hg : createM d path = rr at *
    have HG := Lib.hid hg
    clear hg KO
    go_wp2_with fail
    go_ret
    rw [does0, HG.out]
    exact HP.out
  by_cases hk1 : kind = 1
  · subst hk1
    have KO := Lib.hid (rappend_walk HI.out hK path b A nb c HNB.out.symm HR.out (Nat.le_trans HZ.out.1 HBX.out.size) HZ.out.2 HL.out.1 HL.out.2.1)
    unfold ptrV at KO
    go_wp2_with fail
    refine KO.out.mono ?_
    rintro e' w2 hp
    have HP := Lib.hid (ROpPost.from HBX.out hp)
    obtain ⟨-, -, rfl, -⟩ := hp
    generalize hg : appendM d path b = rr at *
    have HG := Lib.hid hg
    clear hg KO
    go_wp2_with fail
    go_ret
    rw [does1, HG.out]
    exact HP.out
  by_cases hk2 : kind = 2
  · subst hk2
    have KO := Lib.hid (rwriteAt_walk HI.out hK path n HL.out.2.2.2.2 b A nb c HNB.out.symm HR.out (Nat.le_trans HZ.out.1 HBX.out.size) HZ.out.2 HL.out.1 HL.out.2.1)
    unfold ptrV at KO
    go_wp2_with fail
    refine KO.out.mono ?_
    rintro e' w2 hp
    have HP := Lib.hid (ROpPost.from HBX.out hp)
    obtain ⟨-, -, rfl, -⟩ := hp
    generalize hg : writeAtM d path n b = rr at *
    have HG := Lib.hid hg
    clear hg KO
    go_wp2_with fail
    go_ret
    rw [does2, HG.out]
    exact HP.out
  by_cases hk3 : kind = 3
  · subst hk3
    have KO := Lib.hid (rsync_walk HI.out hK path)
    unfold ptrV at KO
    go_wp2_with fail
    refine KO.out.mono ?_
    rintro e' w2 hp
    have HP := Lib.hid (ROpPost.from HBX.out hp)
    obtain ⟨-, -, rfl, -⟩ := hp
    generalize hg : syncM d path = rr at *
    have HG := Lib.hid hg
    clear hg KO
    go_wp2_with fail
    go_ret
    rw [does3, HG.out]
    exact HP.out
  by_cases hk4 : kind = 4
  · subst hk4
    have KO := Lib.hid (rrename_walk HI.out hK path tt HL.out.2.2.2.1)
    unfold ptrV at KO
    go_wp2_with fail
    refine KO.out.mono ?_
    rintro e' w2 hp
    have HP := Lib.hid (ROpPost.from HBX.out hp)
    obtain ⟨-, -, rfl, -⟩ := hp
    generalize hg : renameM d path tt = rr at *
    have HG := Lib.hid hg
    clear hg KO
    go_wp2_with fail
    go_ret
    rw [does4, HG.out]
    exact HP.out
  by_cases hk5 : kind = 5
  · subst hk5
    have KO := Lib.hid (runlink_walk HI.out hK path)
    unfold ptrV at KO
    go_wp2_with fail
    refine KO.out.mono ?_
    rintro e' w2 hp
    have HP := Lib.hid (ROpPost.from HBX.out hp)
    obtain ⟨-, -, rfl, -⟩ := hp
    generalize hg : unlinkM d path = rr at *
    have HG := Lib.hid hg
    clear hg KO
    go_wp2_with fail
    go_ret
    rw [does5, HG.out]
    exact HP.out
  by_cases hk6 : kind = 6
  · subst hk6
    have KO := Lib.hid (rsyncDir_walk HI.out hK tt)
    unfold ptrV at KO
    go_wp2_with fail
    refine KO.out.mono ?_
    rintro e' w2 hp
    have HP := Lib.hid (ROpPost.from HBX.out hp)
    obtain ⟨-, -, rfl, -⟩ := hp
    generalize hg : syncDirM d tt = rr at *
    have HG := Lib.hid hg
    clear hg KO
    go_wp2_with fail
    go_ret
    rw [does6, HG.out]
    exact HP.out
  by_cases hk7 : kind = 7
  · subst hk7
    have KO := Lib.hid (rfail_op HI.out n e HL.out.2.2.2.2.2)
    unfold ptrV at KO
    go_wp2_with fail
    refine KO.out.mono ?_
    rintro e' w2 hp
    have HP := Lib.hid (ROpPost.from HBX.out hp)
    obtain ⟨-, -, rfl, -⟩ := hp
    generalize hg : failM d n e = rr at *
    have HG := Lib.hid hg
    clear hg KO
    go_wp2_with fail
    go_ret
    rw [does7, HG.out]
    exact HP.out
  by_cases hk8 : kind = 8
  · subst hk8
    have KO := Lib.hid (rarm_op HI.out n HL.out.2.2.2.2.2)
    unfold ptrV at KO
    go_wp2_with fail
    refine KO.out.mono ?_
    rintro e' w2 hp
    have HP := Lib.hid (ROpPost.from HBX.out hp)
    obtain ⟨-, -, rfl, -⟩ := hp
    generalize hg : armM d n = rr at *
    have HG := Lib.hid hg
    clear hg KO
    go_wp2_with fail
    go_ret
    rw [does8, HG.out]
    exact HP.out
  by_cases hk9 : kind = 9
  · subst hk9
    have KO := Lib.hid (rcrash_walk HI.out hK kc kw Ac Aw cc cw HC.out.1 HC.out.2.1 HRC.out HRW.out HC.out.2.2)
    unfold ptrV at KO
    go_wp2_with fail
    refine KO.out.mono ?_
    rintro e' w2 hp
    have HP := Lib.hid (ROpPost.ent (Turn.of_below HBX.out fun _ _ => rfl) hp)
    obtain ⟨-, -, -, rfl⟩ := hp
    clear KO
    go_wp2_with fail
    go_ret
    rw [does9]
    exact HP.out
  have HE : Hid (doesM d ⟨kind, path, tt, b, n, e, kc, kw⟩ = (d, 0)) := Lib.hid (by unfold doesM; rw [if_neg hk0, if_neg hk1, if_neg hk2, if_neg hk3, if_neg hk4, if_neg hk5, if_neg hk6, if_neg hk7, if_neg hk8, if_neg hk9])
  go_wp2_with fail
  go_ret
  rw [HE.out]
  exact ROpPost.from HBX.out (ROpPost.same HI.out (Below.refl _ _) 0)
end
end Go.Proofs.YtbpooaicmjkemaaGreatDoor

/-! The walk of the program's Wait. Conditions: the lengths. -/
namespace Go.Proofs.YtbpooaicmjkemaaGreatDoor
open Go.RowKit Go.Maps
set_option linter.unusedVariables false
def cgC (c : Ch) : List Value := [.int .i64 c.kind, .string (bs c.fr), .string (bs c.tt)]
def tlC (x : Tx × Nat) : List Value := [.string (bs x.1), .int .i64 (x.2 : Int)]
theorem cg_all (cs : List Ch) : ∀ r ∈ cs.map cgC, r.length = 3 := by
  intro r hr
  obtain ⟨c, -, rfl⟩ := List.mem_map.1 hr
  rfl
theorem tl_all (ts : List (Tx × Nat)) : ∀ r ∈ ts.map tlC, r.length = 2 := by
  intro r hr
  obtain ⟨c, -, rfl⟩ := List.mem_map.1 hr
  rfl
theorem uxG : UX Tryz.prog 101 78 3 := by
  obtain ⟨i, h1, h2, h3, h4⟩ := info_parts (show (Tryz.prog.info? 78).map (fun i => (i.zero, i.size, i.bytes)) = some (some (.agg #[.int .i64 0, .string ⟨#[]⟩, .string ⟨#[]⟩]), 3, 40) by kernel_rfl)
  exact ⟨Tryz.underlying101, ⟨i, _, h1, h2, rfl, h3, by omega⟩, by omega⟩
theorem uxH : UX Tryz.prog 102 106 2 := by
  obtain ⟨i, h1, h2, h3, h4⟩ := info_parts (show (Tryz.prog.info? 106).map (fun i => (i.zero, i.size, i.bytes)) = some (some (.agg #[.string ⟨#[]⟩, .int .i64 0]), 2, 24) by kernel_rfl)
  exact ⟨Tryz.underlying102, ⟨i, _, h1, h2, rfl, h3, by omega⟩, by omega⟩
theorem tellGo_no {L : Es} {xs : List Nd} {i : Nat} {x : Nd} (hx : xs[i]? = some x) (h : waitN x = 0) : tellGo L (xs.drop i) i = tellGo L (xs.drop (i + 1)) (i + 1) := by
  obtain ⟨h1, h2⟩ := List.getElem?_eq_some_iff.1 hx
  rw [List.drop_eq_getElem_cons h1, h2]
  show (if waitN x = 0 then tellGo L (xs.drop (i + 1)) (i + 1) else (pathM L i, waitN x) :: tellGo L (xs.drop (i + 1)) (i + 1)) = _
  rw [if_pos h]
theorem tellGo_yes {L : Es} {xs : List Nd} {i : Nat} {x : Nd} (hx : xs[i]? = some x) (h : ¬ waitN x = 0) : tellGo L (xs.drop i) i = (pathM L i, waitN x) :: tellGo L (xs.drop (i + 1)) (i + 1) := by
  obtain ⟨h1, h2⟩ := List.getElem?_eq_some_iff.1 hx
  rw [List.drop_eq_getElem_cons h1, h2]
  show (if waitN x = 0 then tellGo L (xs.drop (i + 1)) (i + 1) else (pathM L i, waitN x) :: tellGo L (xs.drop (i + 1)) (i + 1)) = _
  rw [if_neg h]
def WtPost (w : World) (cs : List Ch) (ts : List (Tx × Nat)) (e : Ending) (w' : World) : Prop :=
  Below w.heap.size w w' ∧ ∃ g1 v1 g2 v2, e = .returned (.tuple #[v1, v2]) ∧ OwnX 3 w' g1 v1 (cs.map cgC).flatten ∧ OwnX 2 w' g2 v2 (ts.map tlC).flatten ∧ (∀ k, g1 = some k → w.heap.size ≤ k) ∧ (∀ k, g2 = some k → w.heap.size ≤ k) ∧ (∀ k, g1 = some k → g2 ≠ some k)
set_option maxRecDepth 100000 in
set_option maxHeartbeats 4000000 in
theorem wait_walk {z db K : Nat} {w : World} {own : Nat → Nat × Nat} {d : Dk} {q : DParts} (h : DSt z w own db d q) (hw : Wf d K) (hK : K ≤ 10000) :
    Calls Tryz.prog 72 #[ptrV db] w (WtPost w d.waits (tellM d)) := by
  have HD := Lib.hid h
  have HW := Lib.hid hw
  obtain ⟨A, n, c, ev, -⟩ := h.rest.chs.sl
  have hX := h.rest.chs
  rw [ev] at hX
  obtain ⟨hn, hnc, hm, hat⟩ := ch_at hX
  have k6 : w.cell? ⟨db, 6, none⟩ = some (.slice A n c) := by rw [← ev]; exact h.blk.cell 6
  have HAT := Lib.hid hat
  have HN := Lib.hid hn
  have hn1 : n ≤ 10000 := by have := hw.wk; omega
  obtain ⟨nf, hnf⟩ : ∃ nf, d.nodes.length = nf := ⟨_, rfl⟩
  have HNF := Lib.hid hnf
  have hnf1 : nf ≤ 10000 := by have := hw.nk; omega
  obtain ⟨Af, nf', cf, ef, hxf, hnf2, hmf⟩ := h.rest.files.sl
  obtain rfl : nf = nf' := by
    rw [List.length_map, h.rest.len] at hxf
    omega
  have HEF := Lib.hid ef
  have HBL : Hid (q.bl.length = nf) := Lib.hid (by rw [h.rest.len]; exact hnf)
  have hdb := h.blk.lt
  unfold ptrV
  clear h hw ev hX hn hm hat hxf hnf
  go_enter Tryz.func72, Tryz.ntmps72
  go_upto_region 3 with fail
  go_loopg [4, 6, 16] n (fun k s4 s6 s16 wr => ∃ (j : Nat) (g4 : Option Nat), s16 = .int .i64 (j : Int) ∧ j + k = n ∧ Hid (OwnX 3 wr g4 s4 ((d.waits.take j).map cgC).flatten) ∧ Hid (∀ k, g4 = some k → w.heap.size ≤ k) ∧ Hid (Below w.heap.size w wr))
  case atStart => exact ⟨0, none, rfl, by omega, Lib.hid (OwnX.nil _ _), Lib.hid (fun k e => by cases e), Lib.hid (Below.refl _ _)⟩
  case round =>
    obtain ⟨j, g4, rfl, hj, HX, HG, HB⟩ := hrel
    by_cases hlt : j < n
    · have hlt1 : (j : Int) < (n : Int) := by omega
      obtain ⟨x, hx⟩ : ∃ x, d.waits[j]? = some x := ⟨_, List.getElem?_eq_getElem (by rw [← HN.out]; exact hlt)⟩
      obtain ⟨P, hP⟩ := chP_ptr q.bl x
      obtain ⟨bb, off, -, rfl, hbl, c0, c1, c2, c3⟩ := HAT.out j x hx
      have hb1 := HB.out
      rw [hP] at c3
      have q0 : wr.cell? ⟨bb, off + j * 4, none⟩ = some (.int .i64 x.kind) := (hb1.cell (p := ⟨bb, off + j * 4, none⟩) hbl).trans c0
      have q1 : wr.cell? ⟨bb, off + j * 4 + 1, none⟩ = some (.string (bs x.fr)) := (hb1.cell (p := ⟨bb, off + j * 4 + 1, none⟩) hbl).trans c1
      have q2 : wr.cell? ⟨bb, off + j * 4 + 2, none⟩ = some (.string (bs x.tt)) := (hb1.cell (p := ⟨bb, off + j * 4 + 2, none⟩) hbl).trans c2
      have q3 : wr.cell? ⟨bb, off + j * 4 + 3, none⟩ = some (.pointer P) := (hb1.cell (p := ⟨bb, off + j * 4 + 3, none⟩) hbl).trans c3
      have HTK : Hid (d.waits.take (j + 1) = d.waits.take j ++ [x]) := Lib.hid (by
        obtain ⟨h1, h2⟩ := List.getElem?_eq_some_iff.1 hx
        rw [List.take_succ_eq_append_getElem h1, h2])
      have HBX := Lib.hid (Blk.new wr 80 #[.int .i64 x.kind, .string (bs x.fr), .string (bs x.tt), .pointer P])
      have HA1 := Lib.hid (HX.out.below ((Below.refl wr.heap.size wr).alloc (Nat.le_refl _) (.cells #[.int .i64 x.kind, .string (bs x.fr), .string (bs x.tt), .pointer P] 80)) fun k hk => HX.out.lt hk)
      have HB1 := Lib.hid (HB.out.alloc HB.out.size (.cells #[.int .i64 x.kind, .string (bs x.fr), .string (bs x.tt), .pointer P] 80))
      clear c0 c1 c2 c3 hP hb1 hx hbl
      go_upto_region 5 with fail
      have hs1 : (wr.alloc (.cells #[.int .i64 x.kind, .string (bs x.fr), .string (bs x.tt), .pointer P] 80)).heap.size = wr.heap.size + 1 := by simp
      have HS1 := Lib.hid hs1
      generalize hw1 : wr.alloc (.cells #[.int .i64 x.kind, .string (bs x.fr), .string (bs x.tt), .pointer P] 80) = w1 at *
      clear hw1 hs1 q0 q1 q2 q3
      have x0 : w1.cell? ⟨wr.heap.size, 0, none⟩ = some (.int .i64 x.kind) := HBX.out.cell 0
      have x1 : w1.cell? ⟨wr.heap.size, 1, none⟩ = some (.string (bs x.fr)) := HBX.out.cell 1
      have x2 : w1.cell? ⟨wr.heap.size, 2, none⟩ = some (.string (bs x.tt)) := HBX.out.cell 2
      have HA2 := Lib.hid (HA1.out.below ((Below.refl w1.heap.size w1).alloc (Nat.le_refl _) (.cells #[.int .i64 x.kind, .string (bs x.fr), .string (bs x.tt)] 78)) fun k hk => HA1.out.lt hk)
      have HLR : Hid (((d.waits.take j).map cgC).flatten.length ≤ 30000) := Lib.hid (by rw [flat_len (cg_all _), List.length_map, List.length_take]; omega)
      go_wp2_with (at_builtin; refine wpList_appX _ uxG (.tmp 20) (.tmp 23) rfl rfl rfl HA2.out (some ⟨w1.heap.size, 0, none⟩) 1 1 rfl [.int .i64 x.kind, .string (bs x.fr), .string (bs x.tt)] rfl (fun h => by cases h) (news_of w1 78 [.int .i64 x.kind, .string (bs x.fr), .string (bs x.tt)]) (fun u hu => by simp only [List.mem_cons, List.not_mem_nil, or_false] at hu; rcases hu with rfl | rfl | rfl <;> rfl) (by have := HLR.out; omega) ?_; intro v7 g7 w7 hX7 hG7 ho7; have HX7 := Lib.hid hX7; have HG7 := Lib.hid hG7; have HO7 := Lib.hid ho7; clear hX7 hG7 ho7)
      go_wp2_with fail
      go_roundg (gk - 1)
      case rel =>
        have hB2 := HB1.out.alloc HB1.out.size (.cells #[.int .i64 x.kind, .string (bs x.fr), .string (bs x.tt)] 78)
        have hg47 : ∀ k, g7 = some k → w.heap.size ≤ k := fun k e => by
          rcases HO7.out with h7 | h7
          · exact HG.out k (h7.symm.trans e)
          · rw [h7] at e
            injection e with e
            have := HB1.out.size
            simp at e
            omega
        exact ⟨j + 1, g7, by go_num, by omega, Lib.hid (by rw [HTK.out, List.map_append, List.flatten_append]; simpa [cgC] using HX7.out), Lib.hid hg47, Lib.hid (belowX hB2 HG7.out (fun k e => HG.out k e) hB2.size)⟩
      case measure => omega
    · have hlt1 : ¬ (j : Int) < (n : Int) := by omega
      obtain rfl : j = n := by omega
      obtain ⟨w9, rfl⟩ : ∃ w9, w9 = wr := ⟨_, rfl⟩
      have hX9 := HX.out
      rw [show d.waits.take j = d.waits by rw [HN.out, List.take_length]] at hX9
      have HX9 := Lib.hid hX9
      clear hX9
      obtain ⟨A4, n4, c4, rfl, -⟩ := HX9.out.sl
      have HD9 := Lib.hid (HD.out.below HB.out)
      have k3 : w9.cell? ⟨db, 3, none⟩ = some (.slice Af nf cf) := by rw [← HEF.out]; exact HD9.out.blk.cell 3
      clear HX hj k6
      go_upto_region 9 with fail
      go_loopg [7, 9, 10, 31] nf (fun k s7 s9 s10 s31 wr => ∃ (i : Nat) (g7 : Option Nat) (T : List (Tx × Nat)), s31 = .int .i64 (i : Int) ∧ i + k = nf ∧ T.length ≤ i ∧ Hid (OwnX 2 wr g7 s7 (T.map tlC).flatten) ∧ Hid (∀ k, g7 = some k → w9.heap.size ≤ k) ∧ Hid (T ++ tellGo d.now (d.nodes.drop i) i = tellM d) ∧ Hid (Below w9.heap.size w9 wr))
      case atStart => exact ⟨0, none, [], rfl, by omega, by simp, Lib.hid (OwnX.nil _ _), Lib.hid (fun k e => by cases e), Lib.hid rfl, Lib.hid (Below.refl _ _)⟩
      case round =>
        obtain ⟨i, g7, T, rfl, hi, hTl, HX7, HG7, HT, HB7⟩ := hrel
        clear k3
        by_cases hlt : i < nf
        · have hlt1 : (i : Int) < (nf : Int) := by omega
          obtain ⟨x, hx⟩ : ∃ x, d.nodes[i]? = some x := ⟨_, List.getElem?_eq_getElem (by rw [HNF.out]; exact hlt)⟩
          obtain ⟨b, hb⟩ : ∃ b, q.bl[i]? = some b := ⟨_, List.getElem?_eq_getElem (by rw [HBL.out]; exact hlt)⟩
          have HDr := Lib.hid (HD9.out.below HB7.out)
          have hF := HDr.out.rest.fs i b x hb hx
          have hok : NdOk x K := HW.out.nd x (List.mem_of_getElem? hx)
          have hX := HDr.out.rest.files
          rw [HEF.out] at hX
          obtain ⟨gf, of_, -, rfl, -, hcl, -⟩ := hX.at_ (by omega)
          have e0 : wr.cell? ⟨gf, of_ + i, none⟩ = some (.pointer (some ⟨b, 0, none⟩)) := by
            have h1 : ((q.bl.map ptrV)[i]?) = some (ptrV b) := by rw [List.getElem?_map, hb]; rfl
            have h2 := (List.getElem?_eq_some_iff.1 h1).1
            rw [hcl i h2]
            exact h1
          have KW := Lib.hid (waiting_walk hF hok (by omega))
          have HXX := Lib.hid hx
          have HBB := Lib.hid hb
          unfold ptrV at KW
          clear hF hok hX hcl hx hb
          go_wp2_with fail
          refine KW.out.mono ?_
          rintro e w3 ⟨hb3, rfl⟩
          have HB3 := Lib.hid (HB7.out.trans (hb3.mono HB7.out.size))
          have HX3 := Lib.hid (HX7.out.below hb3 fun k hk => HX7.out.lt hk)
          clear hb3 e0 KW
          by_cases h0 : waitN x = 0
          · have HT1 : Hid (T ++ tellGo d.now (d.nodes.drop (i + 1)) (i + 1) = tellM d) := Lib.hid (by rw [← tellGo_no HXX.out h0]; exact HT.out)
            rw [h0]
            clear h0
            go_wp2_with fail
            go_roundg (gk - 1)
            case rel => exact ⟨i + 1, g7, T, by go_num, by omega, by omega, HX3, HG7, HT1, HB3⟩
            case measure => omega
          · have hpos : (0 : Int) < (waitN x : Int) := by omega
            have HT1 : Hid ((T ++ [(pathM d.now i, waitN x)]) ++ tellGo d.now (d.nodes.drop (i + 1)) (i + 1) = tellM d) := Lib.hid (by rw [List.append_assoc, List.singleton_append, ← tellGo_yes HXX.out h0]; exact HT.out)
            have KP := Lib.hid (path_walk (HD9.out.below HB3.out) HW.out HBB.out)
            unfold ptrV stV at KP
            obtain ⟨pp, hpp⟩ : ∃ pp, pathM d.now i = pp := ⟨_, rfl⟩
            obtain ⟨wn, hwn⟩ : ∃ wn, waitN x = wn := ⟨_, rfl⟩
            rw [hpp] at KP HT1
            rw [hwn] at HT1 hpos
            rw [hwn]
            clear h0 hpp hwn
            go_wp2_with fail
            refine KP.out.mono ?_
            rintro e w5 ⟨hb5, rfl⟩
            have HB5 := Lib.hid (HB3.out.trans (hb5.mono HB3.out.size))
            have HX5 := Lib.hid (HX3.out.below hb5 fun k hk => HX3.out.lt hk)
            have HA5 := Lib.hid (HX5.out.below ((Below.refl w5.heap.size w5).alloc (Nat.le_refl _) (.cells #[.string (bs pp), .int .i64 (wn : Int)] 106)) fun k hk => HX5.out.lt hk)
            have HLR : Hid ((T.map tlC).flatten.length ≤ 20000) := Lib.hid (by rw [flat_len (tl_all _), List.length_map]; omega)
            clear hb5 KP
            go_wp2_with (at_builtin; refine wpList_appX _ uxH (.tmp 39) (.tmp 45) rfl rfl rfl HA5.out (some ⟨w5.heap.size, 0, none⟩) 1 1 rfl [.string (bs pp), .int .i64 (wn : Int)] rfl (fun h => by cases h) (news_of w5 106 [.string (bs pp), .int .i64 (wn : Int)]) (fun u hu => by simp only [List.mem_cons, List.not_mem_nil, or_false] at hu; rcases hu with rfl | rfl <;> rfl) (by have := HLR.out; omega) ?_; intro v8 g8 w8 hX8 hG8 ho8; have HX8 := Lib.hid hX8; have HG8 := Lib.hid hG8; have HO8 := Lib.hid ho8; clear hX8 hG8 ho8)
            go_wp2_with fail
            go_roundg (gk - 1)
            case rel =>
              have hB2 := HB5.out.alloc HB5.out.size (.cells #[.string (bs pp), .int .i64 (wn : Int)] 106)
              have hg8 : ∀ k, g8 = some k → w9.heap.size ≤ k := fun k e => by
                rcases HO8.out with h7 | h7
                · exact HG7.out k (h7.symm.trans e)
                · rw [h7] at e
                  injection e with e
                  have := HB5.out.size
                  simp at e
                  omega
              exact ⟨i + 1, g8, T ++ [(pp, wn)], by go_num, by omega, by rw [List.length_append]; simp; omega, Lib.hid (by rw [List.map_append, List.flatten_append]; simpa [tlC] using HX8.out), Lib.hid hg8, HT1, Lib.hid (belowX hB2 HG8.out (fun k e => HG7.out k e) hB2.size)⟩
            case measure => omega
        · have hlt1 : ¬ (i : Int) < (nf : Int) := by omega
          obtain rfl : i = nf := by omega
          have HTF : Hid (T = tellM d) := Lib.hid (by
            have := HT.out
            rw [List.drop_of_length_le (by rw [HNF.out]; exact Nat.le_refl _)] at this
            rw [← this]
            show T = T ++ []
            rw [List.append_nil])
          obtain ⟨A7, n7, c7, rfl, -⟩ := HX7.out.sl
          go_wp2_with fail
          go_ret2
          exact ⟨HB.out.trans (HB7.out.mono HB.out.size), g4, _, g7, _, rfl, HX9.out.below HB7.out fun k hk => HX9.out.lt hk, by rw [← HTF.out]; exact HX7.out, HG.out, (fun k hk => Nat.le_trans HB.out.size (HG7.out k hk)), fun k e e2 => by have h1 := HX9.out.lt e; have h2 := HG7.out k e2; omega⟩
end Go.Proofs.YtbpooaicmjkemaaGreatDoor
