/-
  The walk of the program's write. Conditions: the lengths.
-/
import Derived.Test.YtbpooaicmjkemaaGreatDoorRun4
import Derived.Test.YtbpooaicmjkemaaGreatDoorLibAll
namespace Go.Proofs.YtbpooaicmjkemaaGreatDoor
open Go.RowKit Go.Maps
set_option linter.unusedVariables false
theorem uxW : UX Tryz.prog 73 85 2 := by
  obtain ⟨i, h1, h2, h3, h4⟩ := info_parts (show (Tryz.prog.info? 85).map (fun i => (i.zero, i.size, i.bytes)) = some (some (.agg #[.int .i64 0, .slice none 0 0]), 2, 32) by kernel_rfl)
  exact ⟨Tryz.underlying73, ⟨i, _, h1, h2, rfl, h3, by omega⟩, by omega⟩
theorem news_of (w : World) (E : TypeId) (vs : List Value) : ∀ ad, (some (⟨w.heap.size, 0, none⟩ : Addr)) = some ad → ∀ j u, vs[j]? = some u → (w.alloc (.cells vs.toArray E)).cell? (ad.add j) = some u := by
  intro ad e j u hu
  cases e
  rw [Addr.add_lit, Nat.zero_add, (Blk.new w E vs.toArray).cell j]
  simpa using hu
/-- the end of a write: the disk put together again -/
theorem wr_end {z db i b s4 : Nat} {w w6 w7 : World} {own : Nat → Nat × Nat} {d d1 : Dk} {q : DParts} {x : Wr} {vl v2 vn5 v7 vwo : Value} {gn gl gw g2 g5 g7 : Option Nat} {vs : List Value} (h : DSt z w own db d q) (hb : q.bl[i]? = some b) (hx : d.nodes[i]? = some (nodeM d i)) (mk : own b = (10 * z + 2, i))
    (m1 : ∀ k, gn = some k → own k = (10 * z + 3, i)) (m2 : ∀ k, gl = some k → own k = (10 * z + 4, i)) (m3 : ∀ k, gw = some k → own k = (10 * z + 5, i))
    (hold : ∀ k, k < w.heap.size → k ≠ db → k ≠ b → gn ≠ some k → w6.heap[k]? = w.heap[k]?) (hgo : w6.os = w.os ∧ w6.tape = w.tape ∧ w6.output = w.output) (hs4 : w.heap.size ≤ s4) (hs46 : s4 ≤ w6.heap.size)
    (hB7 : Blk w7 b 75 #[vn5, vl, vwo]) (hO6 : OwnQ w6 0 g5 vn5 (laid (nodeM d i).now x)) (hL6 : OwnQ w6 0 gl vl (nodeM d i).lasts) (hX7 : OwnX 2 w7 g7 v7 ((wrRow vs (nodeM d i).waits).flatten ++ [.int .i64 x.at_, v2]))
    (hV6 : OwnQ w6 0 g2 v2 x.b) (hFV : WrsV w own vs (nodeM d i).waits) (hg5 : ∀ k, g5 = some k → gn = some k ∨ s4 ≤ k) (hg2 : ∀ k, g2 = some k → w.heap.size < k ∧ k < s4)
    (hG7 : (w6.alloc (.cells #[.int .i64 x.at_, v2] 85)).drew.grownBy w7 gw) (ho7 : g7 = gw ∨ g7 = some (w6.alloc (.cells #[.int .i64 x.at_, v2] 85)).drew.heap.size)
    (hC6 : Blk w6 db 69 (q.cells (wroteM d1 i x))) (hd : SameD d d1) (hlt : ∀ k, (gn = some k ∨ gl = some k ∨ gw = some k) → k < w.heap.size) :
    DSt z (w7.setCell ⟨b, 2, none⟩ v7) (newM w own fun k => if g5 = some k then (10 * z + 3, i) else if g7 = some k then (10 * z + 5, i) else if g2 = some k then frz else (0, 0)) db (wroteM d1 i x) q ∧ Turn (isD z) w (w7.setCell ⟨b, 2, none⟩ v7) own (newM w own fun k => if g5 = some k then (10 * z + 3, i) else if g7 = some k then (10 * z + 5, i) else if g2 = some k then frz else (0, 0)) := by
  have hbl := (h.rest.fs i b _ hb hx).ex
  obtain ⟨_, _, _, _, _, _, _, hB0, -⟩ := hbl
  have hbw := hB0.lt
  have hdw := h.blk.lt
  have hdm := h.mark
  have hs67 : w6.heap.size + 1 ≤ w7.heap.size := by have := hG7.size; simpa using this
  have hsW : (w7.setCell ⟨b, 2, none⟩ v7).heap.size = w7.heap.size := by simp
  have st7 : ∀ k, k < w6.heap.size → gw ≠ some k → w7.heap[k]? = w6.heap[k]? := fun k h1 h2 => (hG7.block k (by show k < (w6.alloc _).heap.size; simp; omega) (fun e => h2 e.symm)).trans (Below.heap_alloc w6 _ k h1)
  have stW : ∀ k, k < w6.heap.size → gw ≠ some k → k ≠ b → (w7.setCell ⟨b, 2, none⟩ v7).heap[k]? = w6.heap[k]? := fun k h1 h2 h3 => (Below.heap_setCell w7 ⟨b, 2, none⟩ v7 k h3).trans (st7 k h1 h2)
  have nb : ∀ k m, own k = (10 * z + m, i) → m ≠ 2 → k ≠ b := fun k m hk hm e => by rw [e, mk] at hk; injection hk with hk; omega
  have gwx : ∀ k m, own k = (10 * z + m, i) → m ≠ 5 → gw ≠ some k := fun k m hk hm e => by have := m3 k e; rw [hk] at this; injection this with this; omega
  have gwd : gw ≠ some db := fun e => by have := m3 db e; rw [hdm] at this; injection this with this; omega
  have gwb : gw ≠ some b := gwx b 2 mk (by decide)
  have hS : Safe (fun k => k < w.heap.size ∧ butFile z i (own k)) w (w7.setCell ⟨b, 2, none⟩ v7) := by
    refine ⟨hG7.os.trans hgo.1, hG7.tape.trans hgo.2.1, hG7.output.trans hgo.2.2, by rw [hsW]; omega, fun k hk => ?_⟩
    obtain ⟨hk, hn1, hn2⟩ := hk
    have fm : ∀ m, 2 ≤ m → m ≤ 5 → own k ≠ (10 * z + m, i) := fun m h1 h2 e => hn2 (by rw [e]; exact ⟨⟨by simp; omega, by simp; omega⟩, rfl⟩)
    have hkb : k ≠ b := fun e => fm 2 (by decide) (by decide) (by rw [e]; exact mk)
    exact (stW k (by omega) (fun e => fm 5 (by decide) (by decide) (m3 k e)) hkb).trans (hold k hk (fun e => hn1 (by rw [e]; exact hdm)) hkb fun e => fm 3 (by decide) (by decide) (m1 k e))
  have hg5lt : ∀ k, g5 = some k → k < w6.heap.size := fun k e => (hO6.base_ e).2
  have hg7 : ∀ k, g7 = some k → gw = some k ∨ w6.heap.size < k := fun k e => by
    rcases ho7 with h7 | h7
    · exact .inl (h7.symm.trans e)
    · rw [h7] at e
      injection e with e
      have e2 : (w6.alloc (.cells #[.int .i64 x.at_, v2] 85)).drew.heap.size = w6.heap.size + 1 := by show (w6.alloc _).heap.size = _; simp
      exact .inr (by omega)
  obtain ⟨e1, e2, e3, e4, e5, e6⟩ := hd
  refine file_fin (gn := g5) (gl := gl) (gw := g7) h hb (List.getElem?_eq_some_iff.1 hx).1 (x' := { nodeM d i with now := laid (nodeM d i).now x, waits := (nodeM d i).waits ++ [x] }) hS (hB7.set_ 2 v7) (hO6.blocks (by omega) fun k e hk => ?_) (hL6.blocks (by omega) fun k e hk => ?_) (vs := vs ++ [v2]) ?_ ?_ (fun k e => ?_) (fun k e => ?_) (fun k e => ?_) (hC6.at_ (stW db (by omega) gwd (fun e => by rw [e, mk] at hdm; injection hdm with hdm; omega))) ⟨e1, ?_, e3, e4, e5, e6⟩
  · rcases hg5 k e with h5 | h5
    · exact stW k hk (gwx k 3 (m1 k h5) (by decide)) (nb k 3 (m1 k h5) (by decide))
    · exact stW k hk (fun e' => by have := hlt k (.inr (.inr e')); omega) (by omega)
  · exact stW k hk (gwx k 4 (m2 k e) (by decide)) (nb k 4 (m2 k e) (by decide))
  · show OwnX 2 _ g7 v7 (wrRow (vs ++ [v2]) ((nodeM d i).waits ++ [x])).flatten
    rw [wrRow_snoc hFV.1, List.flatten_append]
    refine OwnX.same (xs := (wrRow vs (nodeM d i).waits).flatten ++ [wrC v2 x].flatten) (by simpa [wrC] using hX7) (by rw [hsW]; exact Nat.le_refl _) fun k e => Below.heap_setCell w7 ⟨b, 2, none⟩ v7 k ?_
    rcases hg7 k e with h7 | h7
    · exact nb k 5 (m3 k h7) (by decide)
    · show k ≠ b; omega
  · refine (hFV.goes (hS.goes fun k h1 h2 => ⟨h1, h2⟩) butFile_frz).snoc (OwnQ.fz (hV6.blocks (by omega) fun k e hk => ?_) fun k e => ?_)
    · have := hg2 k e
      exact stW k hk (fun e' => by have := hlt k (.inr (.inr e')); omega) (by omega)
    · have h2 := hg2 k e
      rw [newM_new (by omega), if_neg (fun e5 => by rcases hg5 k e5 with h5 | h5; have := hlt k (.inl h5); omega; omega), if_neg (fun e7 => by rcases hg7 k e7 with h7 | h7; have := hlt k (.inr (.inr h7)); omega; omega), if_pos e]
  · rcases hg5 k e with h5 | h5
    · rw [newM_old (hlt k (.inl h5))]; exact m1 k h5
    · rw [newM_new (by omega), if_pos e]
  · rw [newM_old (hlt k (.inr (.inl e)))]; exact m2 k e
  · rcases hg7 k e with h7 | h7
    · rw [newM_old (hlt k (.inr (.inr h7)))]; exact m3 k h7
    · rw [newM_new (by omega), if_neg (fun e5 => by have := hg5lt k e5; omega), if_pos e]
  · show d1.nodes.set i { nodeM d1 i with now := laid (nodeM d1 i).now x, waits := (nodeM d1 i).waits ++ [x] } = d.nodes.set i { nodeM d i with now := laid (nodeM d i).now x, waits := (nodeM d i).waits ++ [x] }
    unfold nodeM
    rw [e2]
set_option maxRecDepth 100000 in
set_option maxHeartbeats 2000000 in
theorem write_walk (z : Nat) (w : World) (own : Nat → Nat × Nat) (db : Nat) (d : Dk) (q : DParts) (h : DSt z w own db d q) {K : Nat} (hw : Wf d K) (hs : SwOk d K) (hK : K ≤ 100000)
    (p : Tx) (i b : Nat) (hp : getE d.now p = some i) (hb : q.bl[i]? = some b) (x : Wr) (Ab : Option Addr) (cb : Nat) (hr : RB w w.heap.size Ab x.b) (hA : Ab = none → x.b.length = 0) (hc : x.b.length ≤ cb) (hm : cb ≤ maxLen)
    (hf : FitW (nodeM d i).now x) (hl : (laid (nodeM d i).now x).length ≤ 67108864) (h64 : x.at_ ≤ 9223372036854775807) :
    Calls Tryz.prog 36 #[ptrV db, ptrV b, .agg #[.int .i64 x.at_, .slice Ab x.b.length cb]] w (OpPost z w own db (writeM d i x)) := by
  have hx : d.nodes[i]? = some (nodeM d i) := by
    have := hw.iln _ (getE_some hp)
    unfold nodeM
    rw [List.getD_eq_getElem?_getD, List.getElem?_eq_getElem this]; rfl
  have hF := h.rest.fs i b _ hb hx
  have hbox := (Below.refl w.heap.size w).alloc (Nat.le_refl _) (.cells #[.int .i64 x.at_, .slice Ab x.b.length cb] 85)
  have HBox := Lib.hid (Blk.new w 85 #[.int .i64 x.at_, .slice Ab x.b.length cb])
  have HBB := Lib.hid hbox
  have hdb := h.blk.lt
  have HD := Lib.hid (h.below hbox)
  have HR := Lib.hid (hr.below hbox)
  have HP := Lib.hid h
  have HF := Lib.hid hF
  have HW := Lib.hid hw
  have KS := Lib.hid (step_walk z _ own db d q HD.out hs (by omega))
  have HFit := Lib.hid hf
  have HLen := Lib.hid hl
  have hbl67 : x.b.length ≤ 67108864 := by
    have := laid_len hf
    have := hw.node i |>.ln
    rcases hf with hf | hf
    · rw [laid_len (.inl hf), if_pos (by omega)] at hl; omega
    · omega
  have HP1 := Lib.hid (⟨hp, hb, hx⟩ : getE d.now p = some i ∧ q.bl[i]? = some b ∧ d.nodes[i]? = some (nodeM d i))
  unfold ptrV at *
  clear h hF hbox hr hw hf hl hp hb hx hs
  obtain ⟨at_, bt0⟩ := x
  simp only [] at *
  generalize hn : bt0.length = nb at *
  have HN := Lib.hid hn
  clear hn
  cases he : (stepM d).2 == 0 with
  | false =>
    have t1 : ((stepM d).2 != 0) = true := by simpa using he
    have E : Hid (writeM d i ⟨at_, bt0⟩ = stepM d) := Lib.hid (by unfold writeM; rw [if_pos (by simpa using he)])
    clear he
    go_enter Tryz.func36, Tryz.ntmps36
    go_wp2_with fail
    refine KS.out.mono ?_
    rintro e w1 ⟨hd1, ho1, rfl⟩
    have HD1 := Lib.hid hd1
    have HO1 := Lib.hid ho1
    clear hd1 ho1
    generalize hsm : (stepM d).2 = se at *
    have HSM := Lib.hid hsm
    clear hsm
    go_wp2_with fail
    go_ret
    rw [E.out]
    exact OpPost.sw HP.out.mark HBB.out ⟨HD1.out, HO1.out, by rw [HSM.out]; rfl⟩
  | true =>
    have he0 : (stepM d).2 = 0 := by simpa using he
    have E : Hid (writeM d i ⟨at_, bt0⟩ = (wroteM (stepM d).1 i ⟨at_, bt0⟩, 0)) := Lib.hid (by unfold writeM; rw [if_neg (by rw [he0]; decide)])
    have HE0 := Lib.hid he0
    clear he he0
    have hdw : w.heap.size ≠ db := by omega
    go_enter Tryz.func36, Tryz.ntmps36
    go_wp2_with fail
    refine KS.out.mono ?_
    rintro e w1 ⟨hd1, ho1, rfl⟩
    rw [HE0.out]
    have HD1 := Lib.hid hd1
    have HO1 := Lib.hid ho1
    have HX1 := Lib.hid (HBox.out.only ho1 hdw)
    have HR1 := Lib.hid (HR.out.only_db HD.out ho1)
    have hA2 : Ab = none → nb = 0 := hA
    have y1 : w1.cell? ⟨w.heap.size, 1, none⟩ = some (.slice Ab nb cb) := HX1.out.cell 1
    have HA := Lib.hid hA2
    clear hd1 ho1 KS hA hA2 hdw
    go_wp2_with fail
    refine (clone_walk w1 Ab bt0 nb cb HN.out.symm HR1.out HA.out (by omega)).mono ?_
    rintro e w2 ⟨hb2, g2, v2, rfl, hO2⟩
    have HB2 := Lib.hid hb2
    have HV2 := Lib.hid hO2
    obtain ⟨A2, c2, rfl, hc2, hm2, -⟩ := hO2
    have HX2 := Lib.hid (HX1.out.keep hb2)
    have HS2 : Hid (Safe (fun k => k < w.heap.size ∧ k ≠ db) w w2) := Lib.hid ((((Safe.refl _ w).below HBB.out fun k hk => hk.1).only HO1.out fun k hk => ⟨Nat.lt_of_lt_of_le hk.1 HBB.out.size, hk.2⟩).below hb2 fun k hk => Nat.lt_of_lt_of_le hk.1 (Nat.le_trans HBB.out.size HO1.out.size))
    have HC2 := Lib.hid (HD1.out.blk.keep hb2)
    rw [HN.out] at hc2 HV2
    rw [HN.out]
    clear hb2 y1 HX1 HR1
    have y0 : w2.cell? ⟨w.heap.size, 0, none⟩ = some (.int .i64 at_) := HX2.out.cell 0
    have y1 : w2.cell? ⟨w.heap.size, 1, none⟩ = some (.slice Ab nb cb) := HX2.out.cell 1
    have f1 : w2.frozen? ⟨w.heap.size, 1, none⟩ = false := HX2.out.frozen 1
    go_upto_region 5 with fail
    have HX3 : Hid (Blk (w2.setCell ⟨w.heap.size, 1, none⟩ (.slice A2 nb c2)) w.heap.size 85 #[.int .i64 at_, .slice A2 nb c2]) := Lib.hid (HX2.out.set_ 1 _)
    have HC3 := Lib.hid (HC2.out.far (p := ⟨w.heap.size, 1, none⟩) (by show db ≠ w.heap.size; omega) (.slice A2 nb c2))
    have HS3 := Lib.hid (HS2.out.set_ (p := ⟨w.heap.size, 1, none⟩) (by show ¬ (w.heap.size < w.heap.size ∧ _); omega) (.slice A2 nb c2))
    have HV3 := Lib.hid ((HV2.out.far (p := ⟨w.heap.size, 1, none⟩) (fun e => by have h1 := (HV2.out.base_ e).1; have h2 := HO1.out.size; simp at h1 h2; omega) (.slice A2 nb c2)).mono_ (Nat.zero_le _))
    have Hg2 : Hid (∀ k, g2 = some k → w.heap.size < k ∧ k < (w2.setCell ⟨w.heap.size, 1, none⟩ (.slice A2 nb c2)).heap.size) := Lib.hid fun k e => by
      have h1 := HV2.out.base_ e
      have := HO1.out.size
      simp at this
      simp
      omega
    clear HX2 HC2 HS2 HV2 y0 y1 f1 HD1 HB2 HBox
    generalize w2.setCell ⟨w.heap.size, 1, none⟩ (.slice A2 nb c2) = w3 at *
    clear HO1 HR HD HBB
    have y0 : w3.cell? ⟨w.heap.size, 0, none⟩ = some (.int .i64 at_) := HX3.out.cell 0
    have y1 : w3.cell? ⟨w.heap.size, 1, none⟩ = some (.slice A2 nb c2) := HX3.out.cell 1
    obtain ⟨vn, gn, vl, gl, vw, gw, vs, hfB, hfN, hfL, hfW, hfV, hm1, hm2', hm3⟩ := HF.out.ex
    have HFB := Lib.hid hfB
    have HFN := Lib.hid hfN
    have HFL := Lib.hid hfL
    have HFW := Lib.hid hfW
    have HFV := Lib.hid hfV
    have HM1 := Lib.hid hm1
    have HM2 := Lib.hid hm2'
    have HM3 := Lib.hid hm3
    clear hfB hfN hfL hfW hfV hm1 hm2' hm3
    have HU : Hid (usedM (wroteM (stepM d).1 i ⟨at_, bt0⟩) = usedM (stepM d).1 + (if at_ < 0 then nb else 0)) := Lib.hid (by
      obtain ⟨s1, s2, s3, s4, s5, s6⟩ := step_same d
      have := used_wrote HW.out.step (p := p) (i := i) (x := ⟨at_, bt0⟩) (by rw [s3]; exact HP1.out.1) (by unfold nodeM; rw [s2]; exact HFit.out)
      rw [← HN.out]
      exact this)
    by_cases h0 : at_ < 0
    · have c1 : w3.cell? ⟨db, 1, none⟩ = some (.int .i64 (usedM (stepM d).1 : Int)) := HC3.out.cell 1
      have fc1 := HC3.out.frozen 1
      have hu : usedM (stepM d).1 ≤ K * 67108864 := HW.out.step.used
      have hu2 : IntKind.i64.wrap ((usedM (stepM d).1 : Int) + (nb : Int)) = (usedM (stepM d).1 : Int) + (nb : Int) := IntWalk.i64_in _ (by omega)
      have HCu : Hid (Blk ((w3.setCell ⟨db, 1, none⟩ (.int .i64 ((usedM (stepM d).1 : Int) + (nb : Int)))).drew) db 69 (q.cells (wroteM (stepM d).1 i ⟨at_, bt0⟩))) := Lib.hid (by
        have h1 := HC3.out.set_ 1 (.int .i64 ((usedM (stepM d).1 : Int) + (nb : Int)))
        have h2 := HU.out
        rw [if_pos h0] at h2
        unfold DParts.cells
        rw [h2]
        exact h1)
      clear hu
      generalize usedM (stepM d).1 = us at *
      go_upto_region 6 with fail
      go_region
      all_goals
        go_upto_region 7 with fail
        have HC4 := HCu
        have HX4 : Hid (Blk (w3.setCell ⟨db, 1, none⟩ (.int .i64 ((us : Int) + (nb : Int)))).drew w.heap.size 85 #[.int .i64 at_, .slice A2 nb c2]) := Lib.hid (HX3.out.far (p := ⟨db, 1, none⟩) (by show w.heap.size ≠ db; omega) (.int .i64 ((us : Int) + (nb : Int))))
        have HS4 : Hid (Safe (fun k => k < w.heap.size ∧ k ≠ db) w (w3.setCell ⟨db, 1, none⟩ (.int .i64 ((us : Int) + (nb : Int)))).drew) := Lib.hid ((HS3.out.set_ (p := ⟨db, 1, none⟩) (fun h => h.2 rfl) (.int .i64 ((us : Int) + (nb : Int)))).drewN 1)
        have HV4 : Hid (OwnQ (w3.setCell ⟨db, 1, none⟩ (.int .i64 ((us : Int) + (nb : Int)))).drew 0 g2 (.slice A2 nb c2) bt0) := Lib.hid (HV3.out.far (p := ⟨db, 1, none⟩) (fun e => by have := (Hg2.out _ e).1; simp at this; omega) (.int .i64 ((us : Int) + (nb : Int))))
        have Hg4 : Hid (∀ k, g2 = some k → w.heap.size < k ∧ k < (w3.setCell ⟨db, 1, none⟩ (.int .i64 ((us : Int) + (nb : Int)))).drew.heap.size) := Lib.hid fun k e => by have := Hg2.out k e; simpa using this
        clear HCu HX3 HC3 HS3 HV3 Hg2 c1 fc1 hu2 y0 y1 HU
        generalize (w3.setCell ⟨db, 1, none⟩ (.int .i64 ((us : Int) + (nb : Int)))).drew = w4 at *
        clear w3
        have hFb : b < w.heap.size ∧ b ≠ db := ⟨HFB.out.lt, fun e => by have := HF.out.mark; rw [e, HP.out.mark] at this; simp at this⟩
        have HB4 := Lib.hid (HFB.out.safe HS4.out hFb)
        have HN4 := Lib.hid (HFN.out.blocks HS4.out.size fun k e hlt => HS4.out.block k ⟨hlt, fun e2 => by have := HM1.out k e; rw [e2, HP.out.mark] at this; simp at this⟩)
        have k0 : w4.cell? ⟨b, 0, none⟩ = some vn := HB4.out.cell 0
        have z0 : w4.cell? ⟨w.heap.size, 0, none⟩ = some (.int .i64 at_) := HX4.out.cell 0
        have z1 : w4.cell? ⟨w.heap.size, 1, none⟩ = some (.slice A2 nb c2) := HX4.out.cell 1
        have hne0 : ∀ k, gn = some k → k ≠ b ∧ k ≠ db ∧ k < w.heap.size := fun k e => ⟨fun e2 => by have := HM1.out k e; rw [e2, HF.out.mark] at this; simp at this, fun e2 => by have := HM1.out k e; rw [e2, HP.out.mark] at this; simp at this, (HFN.out.base_ e).2⟩
        have HNE := Lib.hid hne0
        have HFb := Lib.hid hFb
        have k0d : w4.drew.cell? ⟨b, 0, none⟩ = some vn := k0
        have z0d : w4.drew.cell? ⟨w.heap.size, 0, none⟩ = some (.int .i64 at_) := z0
        have z1d : w4.drew.cell? ⟨w.heap.size, 1, none⟩ = some (.slice A2 nb c2) := z1
        clear hne0 hFb
        have hbw := HFb.out.1
        have KD : Hid (Calls Tryz.prog 85 #[.agg #[.int .i64 at_, .slice A2 nb c2], vn] w4.drew (DoPost w4.drew gn (laid (nodeM d i).now ⟨at_, bt0⟩))) := Lib.hid (do_walk w4.drew gn vn (nodeM d i).now HN4.out ⟨at_, bt0⟩ A2 nb c2 HN.out.symm (by have := HV4.out.rb.1; exact this) hc2 hm2 (.inr HFit.out) (by have := HW.out.node i |>.ln; have := HN.out; show _ + bt0.length ≤ _; omega))
        obtain ⟨An, cn, rfl, -⟩ : ∃ An cn, vn = .slice An (nodeM d i).now.length cn ∧ True := by obtain ⟨A', c', h1, -⟩ := HFN.out; exact ⟨A', c', h1, trivial⟩
        go_region_law (refine step_calls rfl #[.tmp 31, .tmp 35] #[85, 35] (by rfl) Tryz.func85 (by kernel_rfl) (by kernel_rfl) #[.agg #[.int .i64 at_, .slice A2 nb c2], .slice An (nodeM d i).now.length cn] (by simp [Act.eval]) KD.out ?_; rintro e1 w5 ⟨g5, v5, rfl, hO5, hg5, hG5⟩; refine ⟨_, rfl, ?_⟩; have HO5 := Lib.hid hO5; have Hg5 := Lib.hid hg5; have HG5 := Lib.hid hG5; obtain ⟨A5, c5, rfl, -⟩ := hO5; have hB5 := (show Blk w4.drew b 75 _ from HB4.out).grown hG5 (fun e => (HNE.out b e.symm).1 rfl); have k5 := hB5.cell 0; have fk5 := hB5.frozen 0; have HB5 := Lib.hid hB5; clear hg5 hG5 hB5)
        all_goals
          go_upto_region 8 with fail
          have hg5b : g5 ≠ some b := fun e => by
            rcases Hg5.out with h | ⟨k, h, hk⟩
            · exact (HNE.out b (by rw [← h]; exact e)).1 rfl
            · rw [e] at h; cases h; have := HS4.out.size; simp at hk; omega
          have hs45 : w4.heap.size ≤ w5.heap.size := HG5.out.size
          have hsz4 := HS4.out.size
          have hst : ∀ k, k < w4.heap.size → k ≠ b → gn ≠ some k → (w5.setCell ⟨b, 0, none⟩ (.slice A5 (laid (nodeM d i).now ⟨at_, bt0⟩).length c5)).heap[k]? = w4.heap[k]? := fun k h1 h2 h3 => (Below.heap_setCell w5 ⟨b, 0, none⟩ _ k h2).trans (HG5.out.block k h1 (fun e => h3 e.symm))
          have hnn : ∀ k, (w.heap.size ≤ k ∨ k = db) → gn ≠ some k := fun k h e => by have := HNE.out k e; rcases h with h | h <;> omega
          have hs46 : w4.heap.size ≤ (w5.setCell ⟨b, 0, none⟩ (.slice A5 (laid (nodeM d i).now ⟨at_, bt0⟩).length c5)).heap.size := by simpa using hs45
          have hold : ∀ k, k < w.heap.size → k ≠ db → k ≠ b → gn ≠ some k → (w5.setCell ⟨b, 0, none⟩ (.slice A5 (laid (nodeM d i).now ⟨at_, bt0⟩).length c5)).heap[k]? = w.heap[k]? := fun k h1 h2 h3 h4 => (hst k (by omega) h3 h4).trans (HS4.out.block k ⟨h1, h2⟩)
          have HB6 := Lib.hid (HB5.out.set_ 0 (.slice A5 (laid (nodeM d i).now ⟨at_, bt0⟩).length c5))
          have HO6 := Lib.hid (HO5.out.far (p := ⟨b, 0, none⟩) hg5b (.slice A5 (laid (nodeM d i).now ⟨at_, bt0⟩).length c5))
          have HX6 := Lib.hid (HX4.out.at_ (hst _ HX4.out.lt (by omega) (hnn _ (.inl (Nat.le_refl _)))))
          have HC6 := Lib.hid (HC4.out.at_ (hst _ HC4.out.lt (fun e => HFb.out.2 e.symm) (hnn _ (.inr rfl))))
          have HV6 := Lib.hid (HV4.out.blocks hs46 fun k e hlt => hst k hlt (by have := (Hg4.out k e).1; omega) (hnn _ (.inl (by have := (Hg4.out k e).1; omega))))
          have mne : ∀ k m, own k = (10 * z + m, i) → (m = 4 ∨ m = 5) → k ≠ db ∧ k ≠ b ∧ gn ≠ some k := fun k m hk h45 => ⟨fun e => by rw [e, HP.out.mark] at hk; injection hk with hk; omega, fun e => by rw [e, HF.out.mark] at hk; injection hk with hk; omega, fun e => by have := HM1.out k e; rw [hk] at this; injection this with this; omega⟩
          have HW6 := Lib.hid (HFW.out.same (Nat.le_trans hsz4 hs46) fun k e => hold k (HFW.out.lt e) (mne k 5 (HM3.out k e) (.inr rfl)).1 (mne k 5 (HM3.out k e) (.inr rfl)).2.1 (mne k 5 (HM3.out k e) (.inr rfl)).2.2)
          have HL6 := Lib.hid (HFL.out.blocks (Nat.le_trans hsz4 hs46) fun k e hlt => hold k hlt (mne k 4 (HM2.out k e) (.inl rfl)).1 (mne k 4 (HM2.out k e) (.inl rfl)).2.1 (mne k 4 (HM2.out k e) (.inl rfl)).2.2)
          have Hg6 : Hid (∀ k, g5 = some k → gn = some k ∨ w4.heap.size ≤ k) := Lib.hid fun k e => by
            rcases Hg5.out with h | ⟨k', h, hk⟩
            · exact .inl (h.symm.trans e)
            · rw [e] at h; cases h; exact .inr hk
          have HOLD := Lib.hid hold
          have HS46 := Lib.hid hs46
          have HSZ4 := Lib.hid hsz4
          have HGO : Hid ((w5.setCell ⟨b, 0, none⟩ (.slice A5 (laid (nodeM d i).now ⟨at_, bt0⟩).length c5)).os = w.os ∧ (w5.setCell ⟨b, 0, none⟩ (.slice A5 (laid (nodeM d i).now ⟨at_, bt0⟩).length c5)).tape = w.tape ∧ (w5.setCell ⟨b, 0, none⟩ (.slice A5 (laid (nodeM d i).now ⟨at_, bt0⟩).length c5)).output = w.output) := Lib.hid ⟨HG5.out.os.trans HS4.out.os, HG5.out.tape.trans HS4.out.tape, HG5.out.output.trans HS4.out.output⟩
          clear hg5b hs45 hsz4 hst hnn hs46 hold mne HB5 HO5 HG5 Hg5 k5 fk5
          generalize w5.setCell ⟨b, 0, none⟩ (.slice A5 (laid (nodeM d i).now ⟨at_, bt0⟩).length c5) = w6 at *
          clear w5
          obtain ⟨Aw, nw, cw, rfl, hxw, hnw, hmw⟩ := HW6.out.sl
          have k2 : w6.cell? ⟨b, 2, none⟩ = some (.slice Aw nw cw) := HB6.out.cell 2
          have fk2 : w6.frozen? ⟨b, 2, none⟩ = false := HB6.out.frozen 2
          have q0 : w6.cell? ⟨w.heap.size, 0, none⟩ = some (.int .i64 at_) := HX6.out.cell 0
          have q1 : w6.cell? ⟨w.heap.size, 1, none⟩ = some (.slice A2 nb c2) := HX6.out.cell 1
          have hlw : (wrRow vs (nodeM d i).waits).flatten.length ≤ 200000 := by
            have h1 := (HW.out.node i).lw
            rw [flat_len (wrRow_all _ _), wrRow_len HFV.out.1]
            omega
          have HA7 := Lib.hid (HW6.out.below ((Below.refl w6.heap.size w6).alloc (Nat.le_refl _) (.cells #[.int .i64 at_, .slice A2 nb c2] 85)) fun k hk => HW6.out.lt hk)
          have kd2 : (w6.alloc (.cells #[.int .i64 at_, .slice A2 nb c2] 85)).drew.cell? ⟨b, 2, none⟩ = some (.slice Aw nw cw) := (HB6.out.alloc (.cells #[.int .i64 at_, .slice A2 nb c2] 85)).cell 2
          have HLW := Lib.hid hlw
          clear hlw
          go_region_law (refine step_appX (P := Tryz.prog) _ rfl uxW (.tmp 43) (.tmp 45) rfl (by rfl) (show OwnX 2 (w6.alloc (.cells #[.int .i64 at_, .slice A2 nb c2] 85)).drew gw (.slice Aw nw cw) _ from HA7.out) (some ⟨w6.heap.size, 0, none⟩) 1 1 (by rfl) [.int .i64 at_, .slice A2 nb c2] rfl (fun h => by cases h) (news_of w6 85 [.int .i64 at_, .slice A2 nb c2]) (by intro u hu; rcases List.mem_cons.1 hu with rfl | hu; rfl; obtain rfl := List.mem_singleton.1 hu; rfl) (by have := HLW.out; omega) ?_; intro v7 g7 w7 hX7 hG7 ho7; obtain ⟨A7, n7, c7, rfl, -⟩ := hX7.sl; have HX7 := Lib.hid hX7; have HG7 := Lib.hid hG7; have HO7 := Lib.hid ho7; have hB7 := (show Blk (w6.alloc (.cells #[.int .i64 at_, .slice A2 nb c2] 85)).drew b _ _ from HB6.out.alloc _).grown hG7 (fun e => by have := HM3.out b e.symm; rw [HF.out.mark] at this; simp at this); have k7 := hB7.cell 2; have fk7 := hB7.frozen 2; have HB7 := Lib.hid hB7; clear hX7 hG7 ho7 hB7)
          all_goals
            go_wp2
            go_ret
            rw [E.out]
            have hd := wr_end HP.out HP1.out.2.1 HP1.out.2.2 HF.out.mark (x := ⟨at_, bt0⟩) HM1.out HM2.out HM3.out HOLD.out HGO.out HSZ4.out HS46.out HB7.out HO6.out HL6.out HX7.out HV6.out HFV.out Hg6.out Hg4.out HG7.out HO7.out HC6.out (step_sameD d) (fun k hk => by rcases hk with hk | hk | hk; exact (HFN.out.base_ hk).2; exact (HFL.out.base_ hk).2; exact HFW.out.lt hk)
            exact ⟨_, ⟨q, hd.1⟩, rfl, hd.2⟩
    · have h0' : decide (at_ < 0) = false := decide_eq_false h0
      have HC4 : Hid (Blk w3 db 69 (q.cells (wroteM (stepM d).1 i ⟨at_, bt0⟩))) := Lib.hid (by
        have h2 := HU.out
        rw [if_neg h0, Nat.add_zero] at h2
        unfold DParts.cells
        rw [h2]
        exact HC3.out)
      go_upto_region 7 with fail
      have HX4 := HX3
      have HS4 := HS3
      have HV4 := HV3
      have Hg4 := Hg2
      clear HX3 HC3 HS3 HV3 Hg2 y0 y1 HU
      obtain ⟨w4, rfl⟩ : ∃ w4, w4 = w3 := ⟨_, rfl⟩
      have hFb : b < w.heap.size ∧ b ≠ db := ⟨HFB.out.lt, fun e => by have := HF.out.mark; rw [e, HP.out.mark] at this; simp at this⟩
      have HB4 := Lib.hid (HFB.out.safe HS4.out hFb)
      have HN4 := Lib.hid (HFN.out.blocks HS4.out.size fun k e hlt => HS4.out.block k ⟨hlt, fun e2 => by have := HM1.out k e; rw [e2, HP.out.mark] at this; simp at this⟩)
      have k0 : w4.cell? ⟨b, 0, none⟩ = some vn := HB4.out.cell 0
      have z0 : w4.cell? ⟨w.heap.size, 0, none⟩ = some (.int .i64 at_) := HX4.out.cell 0
      have z1 : w4.cell? ⟨w.heap.size, 1, none⟩ = some (.slice A2 nb c2) := HX4.out.cell 1
      have hne0 : ∀ k, gn = some k → k ≠ b ∧ k ≠ db ∧ k < w.heap.size := fun k e => ⟨fun e2 => by have := HM1.out k e; rw [e2, HF.out.mark] at this; simp at this, fun e2 => by have := HM1.out k e; rw [e2, HP.out.mark] at this; simp at this, (HFN.out.base_ e).2⟩
      have HNE := Lib.hid hne0
      have HFb := Lib.hid hFb
      have k0d : w4.drew.cell? ⟨b, 0, none⟩ = some vn := k0
      have z0d : w4.drew.cell? ⟨w.heap.size, 0, none⟩ = some (.int .i64 at_) := z0
      have z1d : w4.drew.cell? ⟨w.heap.size, 1, none⟩ = some (.slice A2 nb c2) := z1
      clear hne0 hFb
      have hbw := HFb.out.1
      have KD : Hid (Calls Tryz.prog 85 #[.agg #[.int .i64 at_, .slice A2 nb c2], vn] w4.drew (DoPost w4.drew gn (laid (nodeM d i).now ⟨at_, bt0⟩))) := Lib.hid (do_walk w4.drew gn vn (nodeM d i).now HN4.out ⟨at_, bt0⟩ A2 nb c2 HN.out.symm (by have := HV4.out.rb.1; exact this) hc2 hm2 (.inr HFit.out) (by have := HW.out.node i |>.ln; have := HN.out; show _ + bt0.length ≤ _; omega))
      obtain ⟨An, cn, rfl, -⟩ : ∃ An cn, vn = .slice An (nodeM d i).now.length cn ∧ True := by obtain ⟨A', c', h1, -⟩ := HFN.out; exact ⟨A', c', h1, trivial⟩
      go_region_law (refine step_calls rfl #[.tmp 31, .tmp 35] #[85, 35] (by rfl) Tryz.func85 (by kernel_rfl) (by kernel_rfl) #[.agg #[.int .i64 at_, .slice A2 nb c2], .slice An (nodeM d i).now.length cn] (by simp [Act.eval]) KD.out ?_; rintro e1 w5 ⟨g5, v5, rfl, hO5, hg5, hG5⟩; refine ⟨_, rfl, ?_⟩; have HO5 := Lib.hid hO5; have Hg5 := Lib.hid hg5; have HG5 := Lib.hid hG5; obtain ⟨A5, c5, rfl, -⟩ := hO5; have hB5 := (show Blk w4.drew b 75 _ from HB4.out).grown hG5 (fun e => (HNE.out b e.symm).1 rfl); have k5 := hB5.cell 0; have fk5 := hB5.frozen 0; have HB5 := Lib.hid hB5; clear hg5 hG5 hB5)
      all_goals
        go_upto_region 8 with fail
        have hg5b : g5 ≠ some b := fun e => by
          rcases Hg5.out with h | ⟨k, h, hk⟩
          · exact (HNE.out b (by rw [← h]; exact e)).1 rfl
          · rw [e] at h; cases h; have := HS4.out.size; simp at hk; omega
        have hs45 : w4.heap.size ≤ w5.heap.size := HG5.out.size
        have hsz4 := HS4.out.size
        have hst : ∀ k, k < w4.heap.size → k ≠ b → gn ≠ some k → (w5.setCell ⟨b, 0, none⟩ (.slice A5 (laid (nodeM d i).now ⟨at_, bt0⟩).length c5)).heap[k]? = w4.heap[k]? := fun k h1 h2 h3 => (Below.heap_setCell w5 ⟨b, 0, none⟩ _ k h2).trans (HG5.out.block k h1 (fun e => h3 e.symm))
        have hnn : ∀ k, (w.heap.size ≤ k ∨ k = db) → gn ≠ some k := fun k h e => by have := HNE.out k e; rcases h with h | h <;> omega
        have hs46 : w4.heap.size ≤ (w5.setCell ⟨b, 0, none⟩ (.slice A5 (laid (nodeM d i).now ⟨at_, bt0⟩).length c5)).heap.size := by simpa using hs45
        have hold : ∀ k, k < w.heap.size → k ≠ db → k ≠ b → gn ≠ some k → (w5.setCell ⟨b, 0, none⟩ (.slice A5 (laid (nodeM d i).now ⟨at_, bt0⟩).length c5)).heap[k]? = w.heap[k]? := fun k h1 h2 h3 h4 => (hst k (by omega) h3 h4).trans (HS4.out.block k ⟨h1, h2⟩)
        have HB6 := Lib.hid (HB5.out.set_ 0 (.slice A5 (laid (nodeM d i).now ⟨at_, bt0⟩).length c5))
        have HO6 := Lib.hid (HO5.out.far (p := ⟨b, 0, none⟩) hg5b (.slice A5 (laid (nodeM d i).now ⟨at_, bt0⟩).length c5))
        have HX6 := Lib.hid (HX4.out.at_ (hst _ HX4.out.lt (by omega) (hnn _ (.inl (Nat.le_refl _)))))
        have HC6 := Lib.hid (HC4.out.at_ (hst _ HC4.out.lt (fun e => HFb.out.2 e.symm) (hnn _ (.inr rfl))))
        have HV6 := Lib.hid (HV4.out.blocks hs46 fun k e hlt => hst k hlt (by have := (Hg4.out k e).1; omega) (hnn _ (.inl (by have := (Hg4.out k e).1; omega))))
        have mne : ∀ k m, own k = (10 * z + m, i) → (m = 4 ∨ m = 5) → k ≠ db ∧ k ≠ b ∧ gn ≠ some k := fun k m hk h45 => ⟨fun e => by rw [e, HP.out.mark] at hk; injection hk with hk; omega, fun e => by rw [e, HF.out.mark] at hk; injection hk with hk; omega, fun e => by have := HM1.out k e; rw [hk] at this; injection this with this; omega⟩
        have HW6 := Lib.hid (HFW.out.same (Nat.le_trans hsz4 hs46) fun k e => hold k (HFW.out.lt e) (mne k 5 (HM3.out k e) (.inr rfl)).1 (mne k 5 (HM3.out k e) (.inr rfl)).2.1 (mne k 5 (HM3.out k e) (.inr rfl)).2.2)
        have HL6 := Lib.hid (HFL.out.blocks (Nat.le_trans hsz4 hs46) fun k e hlt => hold k hlt (mne k 4 (HM2.out k e) (.inl rfl)).1 (mne k 4 (HM2.out k e) (.inl rfl)).2.1 (mne k 4 (HM2.out k e) (.inl rfl)).2.2)
        have Hg6 : Hid (∀ k, g5 = some k → gn = some k ∨ w4.heap.size ≤ k) := Lib.hid fun k e => by
          rcases Hg5.out with h | ⟨k', h, hk⟩
          · exact .inl (h.symm.trans e)
          · rw [e] at h; cases h; exact .inr hk
        have HOLD := Lib.hid hold
        have HS46 := Lib.hid hs46
        have HSZ4 := Lib.hid hsz4
        have HGO : Hid ((w5.setCell ⟨b, 0, none⟩ (.slice A5 (laid (nodeM d i).now ⟨at_, bt0⟩).length c5)).os = w.os ∧ (w5.setCell ⟨b, 0, none⟩ (.slice A5 (laid (nodeM d i).now ⟨at_, bt0⟩).length c5)).tape = w.tape ∧ (w5.setCell ⟨b, 0, none⟩ (.slice A5 (laid (nodeM d i).now ⟨at_, bt0⟩).length c5)).output = w.output) := Lib.hid ⟨HG5.out.os.trans HS4.out.os, HG5.out.tape.trans HS4.out.tape, HG5.out.output.trans HS4.out.output⟩
        clear hg5b hs45 hsz4 hst hnn hs46 hold mne HB5 HO5 HG5 Hg5 k5 fk5
        generalize w5.setCell ⟨b, 0, none⟩ (.slice A5 (laid (nodeM d i).now ⟨at_, bt0⟩).length c5) = w6 at *
        clear w5
        obtain ⟨Aw, nw, cw, rfl, hxw, hnw, hmw⟩ := HW6.out.sl
        have k2 : w6.cell? ⟨b, 2, none⟩ = some (.slice Aw nw cw) := HB6.out.cell 2
        have fk2 : w6.frozen? ⟨b, 2, none⟩ = false := HB6.out.frozen 2
        have q0 : w6.cell? ⟨w.heap.size, 0, none⟩ = some (.int .i64 at_) := HX6.out.cell 0
        have q1 : w6.cell? ⟨w.heap.size, 1, none⟩ = some (.slice A2 nb c2) := HX6.out.cell 1
        have hlw : (wrRow vs (nodeM d i).waits).flatten.length ≤ 200000 := by
          have h1 := (HW.out.node i).lw
          rw [flat_len (wrRow_all _ _), wrRow_len HFV.out.1]
          omega
        have HA7 := Lib.hid (HW6.out.below ((Below.refl w6.heap.size w6).alloc (Nat.le_refl _) (.cells #[.int .i64 at_, .slice A2 nb c2] 85)) fun k hk => HW6.out.lt hk)
        have kd2 : (w6.alloc (.cells #[.int .i64 at_, .slice A2 nb c2] 85)).drew.cell? ⟨b, 2, none⟩ = some (.slice Aw nw cw) := (HB6.out.alloc (.cells #[.int .i64 at_, .slice A2 nb c2] 85)).cell 2
        have HLW := Lib.hid hlw
        clear hlw
        go_region_law (refine step_appX (P := Tryz.prog) _ rfl uxW (.tmp 43) (.tmp 45) rfl (by rfl) (show OwnX 2 (w6.alloc (.cells #[.int .i64 at_, .slice A2 nb c2] 85)).drew gw (.slice Aw nw cw) _ from HA7.out) (some ⟨w6.heap.size, 0, none⟩) 1 1 (by rfl) [.int .i64 at_, .slice A2 nb c2] rfl (fun h => by cases h) (news_of w6 85 [.int .i64 at_, .slice A2 nb c2]) (by intro u hu; rcases List.mem_cons.1 hu with rfl | hu; rfl; obtain rfl := List.mem_singleton.1 hu; rfl) (by have := HLW.out; omega) ?_; intro v7 g7 w7 hX7 hG7 ho7; obtain ⟨A7, n7, c7, rfl, -⟩ := hX7.sl; have HX7 := Lib.hid hX7; have HG7 := Lib.hid hG7; have HO7 := Lib.hid ho7; have hB7 := (show Blk (w6.alloc (.cells #[.int .i64 at_, .slice A2 nb c2] 85)).drew b _ _ from HB6.out.alloc _).grown hG7 (fun e => by have := HM3.out b e.symm; rw [HF.out.mark] at this; simp at this); have k7 := hB7.cell 2; have fk7 := hB7.frozen 2; have HB7 := Lib.hid hB7; clear hX7 hG7 ho7 hB7)
        all_goals
          go_wp2
          go_ret
          rw [E.out]
          have hd := wr_end HP.out HP1.out.2.1 HP1.out.2.2 HF.out.mark (x := ⟨at_, bt0⟩) HM1.out HM2.out HM3.out HOLD.out HGO.out HSZ4.out HS46.out HB7.out HO6.out HL6.out HX7.out HV6.out HFV.out Hg6.out Hg4.out HG7.out HO7.out HC6.out (step_sameD d) (fun k hk => by rcases hk with hk | hk | hk; exact (HFN.out.base_ hk).2; exact (HFL.out.base_ hk).2; exact HFW.out.lt hk)
          exact ⟨_, ⟨q, hd.1⟩, rfl, hd.2⟩
end Go.Proofs.YtbpooaicmjkemaaGreatDoor
