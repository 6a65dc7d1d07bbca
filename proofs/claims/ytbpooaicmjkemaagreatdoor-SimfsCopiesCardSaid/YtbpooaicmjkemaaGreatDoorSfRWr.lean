/-
  The walk of the document's wrote: a write is done, and waits. Conditions: the lengths.
-/
import Derived.Test.YtbpooaicmjkemaaGreatDoorSfREn
import Derived.Test.YtbpooaicmjkemaaGreatDoorLibAll
namespace Go.Proofs.YtbpooaicmjkemaaGreatDoor
open Go.RowKit Go.Maps
set_option linter.unusedVariables false
theorem uxY : UX Tryz.prog 115 135 2 := by
  obtain ⟨i, h1, h2, h3, h4⟩ := info_parts (show (Tryz.prog.info? 135).map (fun i => (i.zero, i.size, i.bytes)) = some (some (.agg #[.int .i64 0, .slice none 0 0]), 2, 32) by kernel_rfl)
  exact ⟨Tryz.underlying115, ⟨i, _, h1, h2, rfl, h3, by omega⟩, by omega⟩
theorem node_at {d : Dk} {i : Nat} {x : Nd} (h : d.nodes[i]? = some x) : nodeM d i = x := by
  unfold nodeM
  rw [List.getD_eq_getElem?_getD, h]
  rfl
/-- the end of a write -/
theorem rwr_end {z db i g off nn cn : Nat} {w w5 w7 : World} {own : Nat → Nat × Nat} {d : Dk} {q : RParts} {m : NdV} {x : Nd} {y : Wr} {v5 v7 vb : Value} {g5 g7 : Option Nat} (h : RSt z w own db d q) (hm : q.ms[i]? = some m) (hx : d.nodes[i]? = some x) (hg : q.gn = some g) (hvn : q.vn = .slice (some ⟨g, off, none⟩) nn cn)
    (hb5 : Below w.heap.size w w5) (hX5 : OwnX 1 w5 g5 v5 (Lib.byteCells (laid x.now y))) (h5 : ∀ k, g5 = some k → w.heap.size ≤ k) (hv : FzV w own vb y.b)
    (hX7 : OwnX 2 w7 g7 v7 ((wrRow m.vs x.waits).flatten ++ [.int .i64 y.at_, vb])) (hG : ((w5.setCell ⟨g, off + i * 3, none⟩ v5).alloc (.cells #[.int .i64 y.at_, vb] 135)).drew.grownBy w7 m.gw)
    (ho : g7 = m.gw ∨ g7 = some ((w5.setCell ⟨g, off + i * 3, none⟩ v5).alloc (.cells #[.int .i64 y.at_, vb] 135)).drew.heap.size) :
    REntPost z w own db (wroteM d i y) (.returned (.tuple #[])) (w7.setCell ⟨g, off + i * 3 + 2, none⟩ v7) := by
  have r := h.rest
  have hN := r.nd i m x hm hx
  have hdm := h.mark
  have hdw := h.blk.lt
  have hgm := r.mn g hg
  have hgw := r.nodes.lt hg
  have s5 := hb5.size
  have s6 : (w5.setCell ⟨g, off + i * 3, none⟩ v5).heap.size = w5.heap.size := by simp
  have s7 : w5.heap.size + 1 ≤ w7.heap.size := by have := hG.size; simpa using this
  have hsW : (w7.setCell ⟨g, off + i * 3 + 2, none⟩ v7).heap.size = w7.heap.size := by simp
  have gwg : m.gw ≠ some g := fun e => by have := hN.mw g e; rw [hgm] at this; simp at this
  have gwd : m.gw ≠ some db := fun e => by have := hN.mw db e; rw [hdm] at this; simp at this
  have gdb : db ≠ g := fun e => by rw [e, hgm] at hdm; simp at hdm
  have st7 : ∀ k, k < w5.heap.size → m.gw ≠ some k → w7.heap[k]? = (w5.setCell ⟨g, off + i * 3, none⟩ v5).heap[k]? := fun k h1 h2 =>
    (hG.block k (by show k < ((w5.setCell _ _).alloc _).heap.size; simp; omega) (fun e => h2 e.symm)).trans (Below.heap_alloc _ _ k (by rw [s6]; exact h1))
  have st : ∀ k, k < w5.heap.size → m.gw ≠ some k → k ≠ g → (w7.setCell ⟨g, off + i * 3 + 2, none⟩ v7).heap[k]? = w5.heap[k]? := fun k h1 h2 h3 =>
    (Below.heap_setCell w7 ⟨g, off + i * 3 + 2, none⟩ v7 k h3).trans ((st7 k h1 h2).trans (Below.heap_setCell w5 ⟨g, off + i * 3, none⟩ v5 k h3))
  have hg7 : ∀ k, g7 = some k → m.gw = some k ∨ w5.heap.size ≤ k := fun k e => by
    rcases ho with h7 | h7
    · exact .inl (h7.symm.trans e)
    · rw [h7] at e
      injection e with e
      have e2 : ((w5.setCell ⟨g, off + i * 3, none⟩ v5).alloc (.cells #[.int .i64 y.at_, vb] 135)).drew.heap.size = w5.heap.size + 1 := by show ((w5.setCell _ _).alloc _).heap.size = _; simp
      exact .inr (by omega)
  have hi := (List.getElem?_eq_some_iff.1 hx).1
  have hg5 : ∀ k, g5 = some k → w.heap.size ≤ k ∧ k < w5.heap.size := fun k e => ⟨h5 k e, hX5.lt e⟩
  have gww : ∀ k, m.gw = some k → k < w.heap.size := fun k e => hN.wts.lt e
  have hS : Safe (fun k => k < w.heap.size ∧ butNode z i (own k)) w (w7.setCell ⟨g, off + i * 3 + 2, none⟩ v7) :=
    ⟨hG.os.trans hb5.os, hG.tape.trans hb5.tape, hG.output.trans hb5.output, by rw [hsW]; omega, fun k ⟨k1, k2, k3, k4⟩ => (st k (by omega) (fun e => k4 (hN.mw k e)) (fun e => k3 (by rw [e]; exact hgm))).trans (hb5.block k k1)⟩
  have hgo : Goes (butNode z i) w (w7.setCell ⟨g, off + i * 3 + 2, none⟩ v7) own (newM w own fun k => if g5 = some k then frz else if g7 = some k then (10 * z + 5, i) else (0, 0)) := hS.goes fun k k1 k2 => ⟨k1, k2⟩
  have hO := r.nodes
  rw [hvn] at hO
  have hrow : (q.ms.map ndC)[i]? = some (ndC m) := by rw [List.getElem?_map, hm]; rfl
  have hil : i < (q.ms.map ndC).length := (List.getElem?_eq_some_iff.1 hrow).1
  have hO6 := (hO.below hb5 fun k e => r.nodes.lt e).put_ (by decide) (nd_all _) hrow (j := 0) (by decide) v5
  have hO7 : OwnX 3 w7 q.gn (.slice (some ⟨g, off, none⟩) nn cn) ((q.ms.map ndC).set i ((ndC m).set 0 v5)).flatten := hO6.same (by simp; omega) fun k e => st7 k (by have := r.nodes.lt e; omega) (fun e2 => gwg (by rw [← hg, e]; exact e2))
  have hO8 := hO7.put_ (by decide) (set_all (nd_all _) (by rfl)) (i := i) (r := (ndC m).set 0 v5) (by rw [List.getElem?_set_self hil]) (j := 2) (by decide) v7
  have hfin := rnode_fin (f := fun k => if g5 = some k then frz else if g7 = some k then (10 * z + 5, i) else (0, 0)) (m' := { m with vn := v5, vw := v7, gw := g7, vs := m.vs ++ [vb] }) (x' := { x with now := laid x.now y, waits := x.waits ++ [y] }) (vn' := q.vn) (gn' := q.gn) (d' := wroteM d i y) h hi hS ?_ (fun k e => ?_) ⟨?_, hN.lasts.goes hgo butNode_frz, ?_, (hN.wrs.goes hgo butNode_frz).snoc (hv.goes hgo butNode_frz), fun k e => ?_⟩ ?_ ⟨rfl, ?_, rfl, rfl, rfl, rfl⟩
  · exact ⟨_, ⟨_, hfin.1⟩, hfin.2, rfl⟩
  · rw [hvn]
    have e1 : (q.ms.set i { m with vn := v5, vw := v7, gw := g7, vs := m.vs ++ [vb] }).map ndC = ((q.ms.map ndC).set i ((ndC m).set 0 v5)).set i (((ndC m).set 0 v5).set 2 v7) := by
      rw [List.set_set, List.map_set]; rfl
    rw [e1]
    exact hO8
  · rw [newM_old (r.nodes.lt e)]; exact r.mn k e
  · refine OwnX.fz (g := g5) (hX5.same (by rw [hsW]; omega) fun k e => st k (hg5 k e).2 (fun e2 => by have := gww k e2; have := hg5 k e; omega) (by have := hg5 k e; omega)) fun k e => ?_
    rw [newM_new (hg5 k e).1, if_pos e]
  · show OwnX 2 _ g7 v7 (wrRow (m.vs ++ [vb]) (x.waits ++ [y])).flatten
    rw [wrRow_snoc hN.wrs.1, List.flatten_append]
    refine OwnX.same (xs := (wrRow m.vs x.waits).flatten ++ [wrC vb y].flatten) (by simpa [wrC] using hX7) (by rw [hsW]; exact Nat.le_refl _) fun k e => Below.heap_setCell w7 ⟨g, off + i * 3 + 2, none⟩ v7 k ?_
    rcases hg7 k e with h7 | h7
    · exact fun e2 => gwg (by rw [h7]; exact congrArg some e2)
    · show k ≠ g; omega
  · rcases hg7 k e with h7 | h7
    · rw [newM_old (gww k h7)]; exact hN.mw k h7
    · rw [newM_new (by omega), if_neg (fun e2 => by have := hg5 k e2; omega)]; exact if_pos e
  · exact (h.blk.keep hb5).at_ (st db (by omega) gwd gdb)
  · show d.nodes.set i { nodeM d i with now := laid (nodeM d i).now y, waits := (nodeM d i).waits ++ [y] } = d.nodes.set i { x with now := laid x.now y, waits := x.waits ++ [y] }
    rw [node_at hx]
set_option maxRecDepth 100000 in
set_option maxHeartbeats 4000000 in
theorem rwrote_walk (z : Nat) (w : World) (own : Nat → Nat × Nat) (db : Nat) (d : Dk) (q : RParts) (h : RSt z w own db d q) (i : Nat) (x : Nd) (hx : d.nodes[i]? = some x) (y : Wr) (vb : Value) (hv : FzV w own vb y.b) (hf : FitW x.now y) (hl : x.now.length + y.b.length ≤ 1000000000) (hk : x.waits.length ≤ 1000000) :
    Calls Tryz.prog 100 #[ptrV db, .int .i64 (i : Int), .agg #[.int .i64 y.at_, vb]] w (REntPost z w own db (wroteM d i y)) := by
  obtain ⟨m, g, off, nn, cn, hm, hg, hvn, hnn, hnc, hgl, n0, n1, n2, hN⟩ := h.rest.ndAt hx
  obtain ⟨An, ca, hv1, hc1, hm1, hfz⟩ := hN.now
  obtain ⟨Ab, cb, rfl, hcb, hmb, hfb⟩ := hv
  obtain ⟨Aw, nw, cw, ew, hxw, hcw, hmw⟩ := hN.wts.sl
  have hbox := (Below.refl w.heap.size w).alloc (Nat.le_refl _) (.cells #[.int .i64 y.at_, .slice Ab y.b.length cb] 135)
  have HX := Lib.hid (Blk.new w 135 #[.int .i64 y.at_, .slice Ab y.b.length cb])
  have HBX := Lib.hid hbox
  have HP := Lib.hid h
  have HH := Lib.hid (h.below hbox)
  have KL := Lib.hid (rlaid_walk (w.alloc (.cells #[.int .i64 y.at_, .slice Ab y.b.length cb] 135)).drew An x.now.length ca x.now ((hfz.rb.below hbox).mono hbox.size) rfl Ab y.b.length cb y ((hfb.rb.below hbox).mono hbox.size) rfl (by
    rcases hf with hf | ⟨h1, h2⟩
    · left; omega
    · right; exact ⟨y.at_.toNat, by omega, h2⟩) (by omega))
  have HM := Lib.hid (⟨hm, hx, hg, hvn⟩ : q.ms[i]? = some m ∧ d.nodes[i]? = some x ∧ q.gn = some g ∧ q.vn = .slice (some ⟨g, off, none⟩) nn cn)
  have HNd := Lib.hid hN
  have HV : Hid (FzV w own (.slice Ab y.b.length cb) y.b) := Lib.hid ⟨Ab, cb, rfl, hcb, hmb, hfb⟩
  have hrow : (q.ms.map ndC)[i]? = some (ndC m) := by rw [List.getElem?_map, hm]; rfl
  have hO := h.rest.nodes
  rw [hvn] at hO
  obtain ⟨-, -, -, hin, g', off', hg', ea, -, hcl⟩ := hO.elem (by decide) (nd_all _) hrow
  cases ea
  have HF : Hid (w.frozen? ⟨g, off + i * 3, none⟩ = false ∧ w.frozen? ⟨g, off + i * 3 + 2, none⟩ = false) := Lib.hid ⟨(hcl 0 (by decide)).2, (hcl 2 (by decide)).2⟩
  have hgd : g ≠ db := fun e => by have h1 := h.rest.mn g hg; rw [e, h.mark] at h1; simp at h1
  have HGD := Lib.hid hgd
  have hgwg : m.gw ≠ some g ∧ m.gw ≠ some db := ⟨fun e => by have h1 := hN.mw g e; rw [h.rest.mn g hg] at h1; simp at h1, fun e => by have h1 := hN.mw db e; rw [h.mark] at h1; simp at h1⟩
  have HGW := Lib.hid hgwg
  have hin1 : (i : Int) < (nn : Int) := by omega
  have hdb := h.blk.lt
  have HLW : Hid ((wrRow m.vs x.waits).flatten.length ≤ 2000000) := Lib.hid (by rw [flat_len (wrRow_all _ _), wrRow_len hN.wrs.1]; omega)
  have k2w : w.cell? ⟨db, 2, none⟩ = some (.slice (some ⟨g, off, none⟩) nn cn) := by rw [← hvn]; exact h.blk.cell 2
  have q0w : w.cell? ⟨g, off + i * 3, none⟩ = some (.slice An x.now.length ca) := by rw [← hv1]; exact n0
  have q2w : w.cell? ⟨g, off + i * 3 + 2, none⟩ = some (.slice Aw nw cw) := by rw [← ew]; exact n2
  have HE : Hid (w.cell? ⟨db, 2, none⟩ = some (.slice (some ⟨g, off, none⟩) nn cn) ∧ w.cell? ⟨g, off + i * 3, none⟩ = some (.slice An x.now.length ca) ∧ w.cell? ⟨g, off + i * 3 + 2, none⟩ = some (.slice Aw nw cw)) := Lib.hid ⟨k2w, q0w, q2w⟩
  have HWX : Hid (OwnX 2 w m.gw (.slice Aw nw cw) (wrRow m.vs x.waits).flatten) := Lib.hid (by rw [← ew]; exact hN.wts)
  have hG0 := hgl
  clear hm hg hvn hnn hnc n0 n1 n2 hN hc1 hm1 hfz hcb hmb hfb ew hxw hcw hmw hf hl hk h hO hrow hcl hg' hgd hgwg hx hv1 hgl hin
  unfold ptrV
  obtain ⟨at_, bt0⟩ := y
  simp only [] at *
  generalize hnb : bt0.length = nb at *
  have HNB := Lib.hid hnb
  generalize hln : x.now.length = ln at *
  have HLN := Lib.hid hln
  clear hnb hln
  have k2 : (w.alloc (.cells #[.int .i64 at_, .slice Ab nb cb] 135)).drew.cell? ⟨db, 2, none⟩ = some (.slice (some ⟨g, off, none⟩) nn cn) := (HBX.out.cell (p := ⟨db, 2, none⟩) hdb).trans k2w
  have q0 : (w.alloc (.cells #[.int .i64 at_, .slice Ab nb cb] 135)).drew.cell? ⟨g, off + i * 3, none⟩ = some (.slice An ln ca) := (HBX.out.cell (p := ⟨g, off + i * 3, none⟩) hG0).trans q0w
  have b0 : (w.alloc (.cells #[.int .i64 at_, .slice Ab nb cb] 135)).drew.cell? ⟨w.heap.size, 0, none⟩ = some (.int .i64 at_) := HX.out.cell 0
  have b1 : (w.alloc (.cells #[.int .i64 at_, .slice Ab nb cb] 135)).drew.cell? ⟨w.heap.size, 1, none⟩ = some (.slice Ab nb cb) := HX.out.cell 1
  clear k2w q0w q2w
  go_enter Tryz.func100, Tryz.ntmps100
  go_upto_region 1 with fail
  go_cut [20] from 6 to 22 (fun s20 wr => ∃ (w5 : World) (g5 : Option Nat) (A5 : Option Addr) (n5 c5 : Nat), wr = w5.setCell ⟨g, off + i * 3, none⟩ (.slice A5 n5 c5) ∧ Hid (Below w.heap.size w w5) ∧ Hid (Blk w5 w.heap.size 135 #[.int .i64 at_, .slice Ab nb cb]) ∧ Hid (OwnX 1 w5 g5 (.slice A5 n5 c5) (Lib.byteCells (laid x.now ⟨at_, bt0⟩))) ∧ Hid (∀ k, g5 = some k → w.heap.size ≤ k))
  case first =>
   go_region_law (refine step_calls rfl #[.tmp 18, .tmp 19] #[35, 135] (by rfl) Tryz.func122 (by kernel_rfl) (by kernel_rfl) #[.slice An ln ca, .agg #[.int .i64 at_, .slice Ab nb cb]] (by simp [Act.eval, Act.put]) KL.out ?_; rintro e1 w5 ⟨hb5, g5, v5, rfl, hX5, ho5⟩; refine ⟨_, rfl, ?_⟩; have hb50 := HBX.out.trans ((show Below (w.alloc (.cells #[.int .i64 at_, .slice Ab nb cb] 135)).heap.size (w.alloc (.cells #[.int .i64 at_, .slice Ab nb cb] 135)) w5 from ⟨hb5.os, hb5.tape, hb5.output, hb5.size, hb5.block⟩).mono HBX.out.size); have HB5 := Lib.hid hb50; have HXB5 := Lib.hid (HX.out.keep (show Below (w.alloc (.cells #[.int .i64 at_, .slice Ab nb cb] 135)).heap.size (w.alloc (.cells #[.int .i64 at_, .slice Ab nb cb] 135)) w5 from ⟨hb5.os, hb5.tape, hb5.output, hb5.size, hb5.block⟩)); have HX5 := Lib.hid hX5; have HO5 : Hid (∀ k, g5 = some k → w.heap.size ≤ k) := Lib.hid (fun k e => Nat.le_trans HBX.out.size (ho5 k e)); obtain ⟨A5, n5, c5, rfl, -⟩ := hX5.sl; have p2 : w5.cell? ⟨db, 2, none⟩ = some (.slice (some ⟨g, off, none⟩) nn cn) := (hb50.cell (p := ⟨db, 2, none⟩) hdb).trans HE.out.1; have p0 : w5.cell? ⟨g, off + i * 3, none⟩ = some (.slice An ln ca) := (hb50.cell (p := ⟨g, off + i * 3, none⟩) hG0).trans HE.out.2.1; have pf : w5.frozen? ⟨g, off + i * 3, none⟩ = false := (World.frozen?_of_block (hb50.block g hG0)).trans HF.out.1; clear hb5 hX5 ho5 hb50)
   all_goals
    go_wp2_with fail
    go_meet
    case rel => exact ⟨w5, g5, A5, n5, c5, rfl, HB5, HXB5, HX5, HO5⟩
  case rest =>
    obtain ⟨w5, g5, A5, n5, c5, hwc, HB5, HXB5, HX5, HO5⟩ := hcut
    have p2 : w5.cell? ⟨db, 2, none⟩ = some (.slice (some ⟨g, off, none⟩) nn cn) := (HB5.out.cell (p := ⟨db, 2, none⟩) hdb).trans HE.out.1
    go_upto_region 2 with fail
    have hg5 : g < w5.heap.size := Nat.lt_of_lt_of_le hG0 HB5.out.size
    have HX6 : Hid (Blk (w5.setCell ⟨g, off + i * 3, none⟩ (.slice A5 n5 c5)) w.heap.size 135 #[.int .i64 at_, .slice Ab nb cb]) := Lib.hid (HXB5.out.far (p := ⟨g, off + i * 3, none⟩) (by show w.heap.size ≠ g; omega) _)
    have m2 : (w5.setCell ⟨g, off + i * 3, none⟩ (.slice A5 n5 c5)).cell? ⟨db, 2, none⟩ = some (.slice (some ⟨g, off, none⟩) nn cn) := by
      rw [World.cell?_setCell_other _ _ _ _ (by intro e2; injection e2 with e3 e4; exact HGD.out e3)]; exact p2
    have m0 : (w5.setCell ⟨g, off + i * 3, none⟩ (.slice A5 n5 c5)).cell? ⟨g, off + i * 3 + 2, none⟩ = some (.slice Aw nw cw) := by
      rw [World.cell?_setCell_other _ _ _ _ (by intro e2; injection e2 with e3 e4; omega)]
      exact (HB5.out.cell (p := ⟨g, off + i * 3 + 2, none⟩) hG0).trans HE.out.2.2
    have mf : (w5.setCell ⟨g, off + i * 3, none⟩ (.slice A5 n5 c5)).frozen? ⟨g, off + i * 3 + 2, none⟩ = false := by
      rw [World.frozen?_setCell]
      exact (World.frozen?_of_block (HB5.out.block g hG0)).trans HF.out.2
    have HM6 : Hid ((w5.setCell ⟨g, off + i * 3, none⟩ (.slice A5 n5 c5)).cell? ⟨g, off + i * 3 + 2, none⟩ = some (.slice Aw nw cw) ∧ (w5.setCell ⟨g, off + i * 3, none⟩ (.slice A5 n5 c5)).frozen? ⟨g, off + i * 3 + 2, none⟩ = false ∧ (w5.setCell ⟨g, off + i * 3, none⟩ (.slice A5 n5 c5)).cell? ⟨db, 2, none⟩ = some (.slice (some ⟨g, off, none⟩) nn cn)) := Lib.hid ⟨m0, mf, m2⟩
    have HWX6 : Hid (OwnX 2 (w5.setCell ⟨g, off + i * 3, none⟩ (.slice A5 n5 c5)) m.gw (.slice Aw nw cw) (wrRow m.vs x.waits).flatten) := Lib.hid ((HWX.out.below HB5.out fun k e => HWX.out.lt e).same (by simp) fun k e => Below.heap_setCell w5 ⟨g, off + i * 3, none⟩ _ k (fun e2 => HGW.out.1 (by rw [e]; exact congrArg some e2)))
    have HSZ : Hid ((w5.setCell ⟨g, off + i * 3, none⟩ (.slice A5 n5 c5)).heap.size = w5.heap.size) := Lib.hid (by simp)
    have HBX5 := HB5
    obtain ⟨w6, hw6⟩ : ∃ w6, w5.setCell ⟨g, off + i * 3, none⟩ (.slice A5 n5 c5) = w6 := ⟨_, rfl⟩
    have HW6 := Lib.hid hw6
    rw [hw6] at HX6 m2 m0 mf HM6 HWX6 HSZ hwc
    subst hwc
    have hg6 : g < wc.heap.size := by rw [HSZ.out]; exact hg5
    have hd6 : db < wc.heap.size := by rw [HSZ.out]; exact Nat.lt_of_lt_of_le hdb HB5.out.size
    have HL6 := Lib.hid (⟨hg6, hd6⟩ : g < wc.heap.size ∧ db < wc.heap.size)
    have md2 : (wc.alloc (.cells #[.int .i64 at_, .slice Ab nb cb] 135)).drew.cell? ⟨db, 2, none⟩ = some (.slice (some ⟨g, off, none⟩) nn cn) := (World.cell?_of_block (w := wc) (Below.heap_alloc wc _ db hd6)).trans m2
    have md0 : (wc.alloc (.cells #[.int .i64 at_, .slice Ab nb cb] 135)).drew.cell? ⟨g, off + i * 3 + 2, none⟩ = some (.slice Aw nw cw) := (World.cell?_of_block (w := wc) (Below.heap_alloc wc _ g hg6)).trans m0
    have c0 : wc.cell? ⟨w.heap.size, 0, none⟩ = some (.int .i64 at_) := HX6.out.cell 0
    have c1 : wc.cell? ⟨w.heap.size, 1, none⟩ = some (.slice Ab nb cb) := HX6.out.cell 1
    have HA6 : Hid (OwnX 2 (wc.alloc (.cells #[.int .i64 at_, .slice Ab nb cb] 135)).drew m.gw (.slice Aw nw cw) (wrRow m.vs x.waits).flatten) := Lib.hid (show OwnX 2 (wc.alloc (.cells #[.int .i64 at_, .slice Ab nb cb] 135)) m.gw _ _ from HWX6.out.below ((Below.refl wc.heap.size wc).alloc (Nat.le_refl _) (.cells #[.int .i64 at_, .slice Ab nb cb] 135)) fun k hk => HWX6.out.lt hk)
    clear mf hw6 hg5 hg6 hd6 p2 k2 q0 b0 b1 KL HX hG0 hdb
    obtain ⟨v7, g7, w7, hrun, hX7, hG7, ho7⟩ := run_appX (P := Tryz.prog) (wc.alloc (.cells #[.int .i64 at_, .slice Ab nb cb] 135)).drew uxY 115 HA6.out (some ⟨wc.heap.size, 0, none⟩) 1 1 [.int .i64 at_, .slice Ab nb cb] rfl (fun h => by cases h) (news_of wc 135 [.int .i64 at_, .slice Ab nb cb]) (fun u hu => by simp only [List.mem_cons, List.not_mem_nil, or_false] at hu; rcases hu with rfl | rfl <;> rfl) (by have := HLW.out; omega)
    obtain ⟨A7, n7, c7, rfl, -⟩ := hX7.sl
    have HX7 := Lib.hid hX7
    have HG7 := Lib.hid hG7
    have HO7 := Lib.hid ho7
    have hbk : w7.heap[g]? = wc.heap[g]? := (hG7.block g (by show g < (wc.alloc _).heap.size; simp; have := HL6.out.1; omega) (fun e => HGW.out.1 e.symm)).trans (Below.heap_alloc wc _ g HL6.out.1)
    have hbd : w7.heap[db]? = wc.heap[db]? := (hG7.block db (by show db < (wc.alloc _).heap.size; simp; have := HL6.out.2; omega) (fun e => HGW.out.2 e.symm)).trans (Below.heap_alloc wc _ db HL6.out.2)
    have k7 : w7.cell? ⟨g, off + i * 3 + 2, none⟩ = some (.slice Aw nw cw) := (World.cell?_of_block hbk).trans HM6.out.1
    have fk7 : w7.frozen? ⟨g, off + i * 3 + 2, none⟩ = false := (World.frozen?_of_block hbk).trans HM6.out.2.1
    have k72 : w7.cell? ⟨db, 2, none⟩ = some (.slice (some ⟨g, off, none⟩) nn cn) := (World.cell?_of_block hbd).trans HM6.out.2.2
    have HRUN := Lib.hid hrun
    have HFIN : Hid (REntPost z w own db (wroteM d i ⟨at_, bt0⟩) (.returned (.tuple #[])) (w7.setCell ⟨g, off + i * 3 + 2, none⟩ (.slice A7 n7 c7))) := Lib.hid (by
      obtain ⟨e1, e2, e3, e4⟩ := HM.out
      obtain rfl := HW6.out
      exact rwr_end HP.out e1 e2 e3 e4 HB5.out HX5.out HO5.out HV.out HX7.out HG7.out HO7.out)
    clear hX7 hG7 ho7 hbk hbd hrun HX7 HG7 HO7 HM HW6 HP HB5 HX5 HO5 HV HNd HF HGD HGW HLW HBX HE HWX HWX6 HXB5 HX6 HBX5 HM6 HSZ HL6 HA6 HNB HLN
    go_region_law (refine step_appR (P := Tryz.prog) rfl (.tmp 35) (.tmp 37) (by rfl) rfl (by rfl) HRUN.out ?_)
    all_goals
      go_wp2
      refine bodyPost_ret (res0 rfl _ _ _) rfl ?_
      exact HFIN.out
end Go.Proofs.YtbpooaicmjkemaaGreatDoor
