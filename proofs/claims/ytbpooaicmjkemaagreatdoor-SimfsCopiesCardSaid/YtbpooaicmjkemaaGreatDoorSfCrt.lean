/-
  The walk of the program's Create. Conditions: the lengths.
-/
import Derived.Test.YtbpooaicmjkemaaGreatDoorSfMv
namespace Go.Proofs.YtbpooaicmjkemaaGreatDoor
open Go.RowKit Go.Maps
set_option linter.unusedVariables false
/-- a file more, nobody's yet -/
def moreM (d : Dk) : Dk := { d with nodes := d.nodes ++ [nd0] }
theorem Wf.more {d : Dk} {K : Nat} (h : Wf d K) : Wf (moreM d) (K + 1) := by
  refine ⟨h.q1, h.q2, h.dn, h.ds, h.dl, h.sl, h.ml, h.oc, h.mw, h.va, h.eq, h.ij, h.fr, fun e he => ?_, fun c hc k => ?_, ?_, fun x hx => ?_, ?_, Nat.le_succ_of_le h.wk⟩
  · show e.2 < (d.nodes ++ [nd0]).length
    rw [List.length_append]; have := h.il e he; omega
  · show c.node < (d.nodes ++ [nd0]).length
    rw [List.length_append]; have := h.iw c hc k; omega
  · show d.lasts.length + crN d.waits ≤ (d.nodes ++ [nd0]).length
    rw [List.length_append]; have := h.cp; omega
  · rcases List.mem_append.1 hx with hx | hx
    · exact (h.nd x hx).mono (Nat.le_succ _)
    · obtain rfl := List.mem_singleton.1 hx; exact nd0_ok _
  · show (d.nodes ++ [nd0]).length ≤ K + 1
    rw [List.length_append]; have := h.nk; simp; omega
theorem MapE.more {D : DataW Unit} {L : Es} {bl : List Nat} (h : MapE D L bl) (hl : ∀ e ∈ L, e.2 < bl.length) (b0 : Nat) : MapE D L (bl ++ [b0]) :=
  ⟨h.sz, h.no, fun p i b hp hi hb => h.ya p i b hp hi (by rwa [List.getElem?_append_left (hl _ (getE_some hi))] at hb)⟩
theorem chC_more {bl : List Nat} {c : Ch} (h : c.kind = 1 → c.node < bl.length) (b0 : Nat) : chC (bl ++ [b0]) c = chC bl c := by
  unfold chC chP
  by_cases k : c.kind = 1
  · rw [if_pos k, if_pos k, List.getElem?_append_left (h k)]
  · rw [if_neg k, if_neg k]
theorem used_more {nodes : List Nd} : ∀ {L : Es}, (∀ e ∈ L, e.2 < nodes.length) → usedL (nodes ++ [nd0]) L = usedL nodes L
  | [], _ => rfl
  | e :: r, h => by
    have ih := used_more (nodes := nodes) (L := r) fun x hx => h x (List.mem_cons_of_mem _ hx)
    rw [used_cons, used_cons, ih, List.getD_eq_getElem?_getD, List.getElem?_append_left (h e List.mem_cons_self), ← List.getD_eq_getElem?_getD]
theorem uxF : UX Tryz.prog 66 70 1 := by
  obtain ⟨i, h1, h2, h3, h4⟩ := info_parts (show (Tryz.prog.info? 70).map (fun i => (i.zero, i.size, i.bytes)) = some (some (.pointer none), 1, 8) by kernel_rfl)
  exact ⟨Tryz.underlying66, ⟨i, _, h1, h2, rfl, h3, by omega⟩, by omega⟩
def fileW (w : World) : World := w.alloc (.cells #[.slice none 0 0, .slice none 0 0, .slice none 0 0] 75)
def fileX (w : World) : World := (fileW w).alloc (.cells #[ptrV w.heap.size] 70)
theorem crt_end {z db K : Nat} {w w7 : World} {own : Nat → Nat × Nat} {d : Dk} {q : DParts} (h : DSt z w own db d q) (hw : Wf d K) {g7 : Option Nat} {v7 : Value} (hX : OwnX 1 w7 g7 v7 (q.bl.map ptrV ++ [ptrV w.heap.size])) (hG : (fileX w).grownBy w7 q.gf)
    (ho : g7 = q.gf ∨ g7 = some (fileX w).heap.size) :
    DSt z (w7.setCell ⟨db, 3, none⟩ v7) (newM w own fun k => if k = w.heap.size then (10 * z + 2, d.nodes.length) else if g7 = some k then (10 * z + 1, 1) else (0, 0)) db (moreM d) { q with bl := q.bl ++ [w.heap.size], vf := v7, gf := g7 } ∧
    Turn (isD z) w (w7.setCell ⟨db, 3, none⟩ v7) own (newM w own fun k => if k = w.heap.size then (10 * z + 2, d.nodes.length) else if g7 = some k then (10 * z + 1, 1) else (0, 0)) := by
  have r := h.rest
  have hdm := h.mark
  have hdw := h.blk.lt
  have hs2 : (fileX w).heap.size = w.heap.size + 2 := by show ((fileW w).alloc _).heap.size = _; unfold fileW; simp
  have hs7 : w.heap.size + 2 ≤ w7.heap.size := by have := hG.size; omega
  have hsW : (w7.setCell ⟨db, 3, none⟩ v7).heap.size = w7.heap.size := by simp
  have hfm : ∀ k, q.gf = some k → own k = (10 * z + 1, 1) := r.mf
  have e0 : ∀ k, k < w.heap.size → (fileX w).heap[k]? = w.heap[k]? := fun k hk =>
    (Below.heap_alloc (fileW w) _ k (by unfold fileW; simp; omega)).trans (Below.heap_alloc w _ k hk)
  have st : ∀ k, k < w.heap.size → q.gf ≠ some k → k ≠ db → (w7.setCell ⟨db, 3, none⟩ v7).heap[k]? = w.heap[k]? := fun k h1 h2 h3 =>
    (Below.heap_setCell w7 ⟨db, 3, none⟩ v7 k h3).trans ((hG.block k (by omega) (fun e => h2 e.symm)).trans (e0 k h1))
  have st0 : ∀ k, k < w.heap.size → own k ≠ (10 * z + 1, 0) → own k ≠ (10 * z + 1, 1) → (w7.setCell ⟨db, 3, none⟩ v7).heap[k]? = w.heap[k]? := fun k h1 h2 h3 => st k h1 (fun e => h3 (hfm k e)) (fun e => h2 (by rw [e]; exact hdm))
  have hg : Goes (fun t => t ≠ (10 * z + 1, 0) ∧ t ≠ (10 * z + 1, 1)) w (w7.setCell ⟨db, 3, none⟩ v7) own (newM w own fun k => if k = w.heap.size then (10 * z + 2, d.nodes.length) else if g7 = some k then (10 * z + 1, 1) else (0, 0)) :=
    ⟨by rw [hsW]; omega, fun k h1 ⟨h2, h3⟩ => ⟨st0 k h1 h2 h3, newM_old h1⟩⟩
  have hfz : (fun t : Nat × Nat => t ≠ (10 * z + 1, 0) ∧ t ≠ (10 * z + 1, 1)) frz := by unfold frz; exact ⟨by simp, by simp⟩
  have m2 : own q.mn ≠ (10 * z + 1, 0) ∧ own q.mn ≠ (10 * z + 1, 1) := by rw [r.mkn]; exact ⟨by simp, by simp⟩
  have m3 : own q.ml ≠ (10 * z + 1, 0) ∧ own q.ml ≠ (10 * z + 1, 1) := by rw [r.mkl]; exact ⟨by simp, by simp⟩
  have m4 : ∀ k, q.gc = some k → own k ≠ (10 * z + 1, 0) ∧ own k ≠ (10 * z + 1, 1) := fun k e => by rw [r.mc k e]; exact ⟨by simp, by simp⟩
  have hgf : ∀ k, q.gf = some k → k < w.heap.size := fun k e => r.files.lt e
  have hgfd : q.gf ≠ some db := fun e => by have := hfm _ e; rw [hdm] at this; simp at this
  have hg7 : ∀ k, g7 = some k → q.gf = some k ∨ w.heap.size + 2 ≤ k := fun k e => by
    rcases ho with h7 | h7
    · exact .inl (h7.symm.trans e)
    · rw [h7] at e
      injection e with e
      exact .inr (by omega)
  have hfb : (w7.setCell ⟨db, 3, none⟩ v7).heap[w.heap.size]? = (fileW w).heap[w.heap.size]? :=
    (Below.heap_setCell w7 ⟨db, 3, none⟩ v7 _ (show w.heap.size ≠ db by omega)).trans ((hG.block _ (by omega) (fun e => by have := hgf _ e.symm; omega)).trans (Below.heap_alloc (fileW w) _ _ (by unfold fileW; simp)))
  have hlen : q.bl.length = d.nodes.length := r.len
  refine ⟨⟨?_, (newM_old hdw).trans hdm, ⟨r.dirs.goes hg hfz, ?_, fun k e => ?_, ?_, (newM_old r.on.lt).trans r.mkn, ownsMap_same r.on (hg.block _ r.on.lt m2).1, r.en.more (fun e he => by rw [hlen]; exact hw.iln e he) _, (newM_old r.ol.lt).trans r.mkl, ownsMap_same r.ol (hg.block _ r.ol.lt m3).1, r.el.more (fun e he => by rw [hlen]; exact hw.il e he) _, ?_, fun k e => ?_, fun i b x hb hx => ?_, r.bn, r.bnl⟩⟩, ?_⟩
  · have hC : Blk w7 db 69 (q.cells d) := h.blk.at_ ((hG.block db (by omega) (fun e => hgfd e.symm)).trans (e0 db hdw))
    have h1 := hC.set_ 3 v7
    unfold DParts.cells at h1 ⊢
    have hu : usedM (moreM d) = usedM d := used_more fun e he => hw.iln e he
    rw [hu]
    exact h1
  · show OwnX 1 _ g7 v7 ((q.bl ++ [w.heap.size]).map ptrV)
    rw [List.map_append]
    refine OwnX.same hX (by rw [hsW]; exact Nat.le_refl _) fun k e => Below.heap_setCell w7 ⟨db, 3, none⟩ v7 k ?_
    rcases hg7 k e with h7 | h7
    · exact fun e2 => hgfd (by rw [h7]; exact congrArg some e2)
    · show k ≠ db; omega
  · rcases hg7 k e with h7 | h7
    · rw [newM_old (hgf k h7)]; exact hfm k h7
    · rw [newM_new (by omega), if_neg (by omega)]; exact if_pos e
  · show (q.bl ++ [w.heap.size]).length = (d.nodes ++ [nd0]).length
    rw [List.length_append, List.length_append, hlen]; rfl
  · show OwnX 4 _ q.gc q.vc (d.waits.map (chC (q.bl ++ [w.heap.size]))).flatten
    have e1 : d.waits.map (chC (q.bl ++ [w.heap.size])) = d.waits.map (chC q.bl) := List.map_congr_left fun c hc => chC_more (fun k => by rw [hlen]; exact hw.iw c hc k) _
    rw [e1]
    exact r.chs.same hg.size fun g e => (hg.block g (r.chs.lt e) (m4 g e)).1
  · exact (hg.block k (r.chs.lt e) (m4 k e)).2.trans (r.mc k e)
  · have hb : (q.bl ++ [w.heap.size])[i]? = some b := hb
    have hx : (d.nodes ++ [nd0])[i]? = some x := hx
    rcases Nat.lt_or_ge i d.nodes.length with hi | hi
    · rw [List.getElem?_append_left (by omega)] at hb
      rw [List.getElem?_append_left hi] at hx
      exact (r.fs i b x hb hx).goes hg hfz fun t ht => ⟨(by rintro rfl; have := ht.1.1; simp at this), (by rintro rfl; have := ht.1.1; simp at this)⟩
    · have hil : i = d.nodes.length := by
        have := (List.getElem?_eq_some_iff.1 hx).1
        rw [List.length_append] at this
        simp at this; omega
      subst hil
      rw [List.getElem?_append_right (by omega), hlen, Nat.sub_self] at hb
      rw [List.getElem?_append_right (Nat.le_refl _), Nat.sub_self] at hx
      obtain rfl : w.heap.size = b := by simpa using hb
      obtain rfl : nd0 = x := by simpa using hx
      refine ⟨by rw [newM_new (Nat.le_refl _), if_pos rfl], .slice none 0 0, none, .slice none 0 0, none, .slice none 0 0, none, [], (Blk.new w 75 #[.slice none 0 0, .slice none 0 0, .slice none 0 0]).at_ hfb, OwnQ.nil _ _ _, OwnQ.nil _ _ _, OwnX.nil _ _, ⟨rfl, fun j v y hv _ => by cases hv⟩, (fun k e => by cases e), (fun k e => by cases e), (fun k e => by cases e)⟩
  · exact ⟨hG.os, hG.tape, hG.output, by rw [hsW]; omega, fun k h1 h2 => st0 k h1 (fun e => h2 (by rw [e]; exact ⟨by simp, by simp⟩)) (fun e => h2 (by rw [e]; exact ⟨by simp, by simp⟩)), fun k h1 _ => newM_old h1⟩
/-- behind the store: the entry change -/
theorem crt_ent {z db K : Nat} {w w7 : World} {own : Nat → Nat × Nat} {d : Dk} {q : DParts} (h : DSt z w own db d q) (hw : Wf d K) (hK : K ≤ 9000) {g7 : Option Nat} {v7 : Value} (hX : OwnX 1 w7 g7 v7 (q.bl.map ptrV ++ [ptrV w.heap.size])) (hG : (fileX w).grownBy w7 q.gf)
    (ho : g7 = q.gf ∨ g7 = some (fileX w).heap.size) (p : Tx) (hp : p.length ≤ maxLen) (hne : p ≠ []) (hg : getE d.now p = none) (nd : Nat) (hn : d.nodes.length = nd) :
    Calls Tryz.prog 34 #[.pointer (some ⟨db, 0, none⟩), .agg #[.int .i64 1, .string ⟨#[]⟩, .string (bs p), .pointer (some ⟨w.heap.size, 0, none⟩)]] (w7.setCell ⟨db, 3, none⟩ v7) (EntPost z w own db (enterM (moreM d) ⟨1, [], p, nd⟩)) := by
  obtain ⟨hd, ht⟩ := crt_end h hw hX hG ho
  subst hn
  have r := h.rest
  have hbl : (q.bl ++ [w.heap.size])[d.nodes.length]? = some w.heap.size := by rw [List.getElem?_append_right (by rw [r.len]; exact Nat.le_refl _), r.len, Nat.sub_self]; rfl
  have hnd : nodeM (moreM d) d.nodes.length = nd0 := by
    unfold nodeM
    show (d.nodes ++ [nd0]).getD d.nodes.length nd0 = nd0
    rw [List.getD_eq_getElem?_getD, List.getElem?_append_right (Nat.le_refl _), Nat.sub_self]; rfl
  have ne := own_exact hd.rest.on
  rw [hd.rest.en.sz] at ne
  have h1 := hw.more.cpn
  have h2 := hw.more.nk
  have hd2 : DSt z (w7.setCell ⟨db, 3, none⟩ v7) (newM w own fun k => if k = w.heap.size then (10 * z + 2, d.nodes.length) else if g7 = some k then (10 * z + 1, 1) else (0, 0)) db (moreM d) { q with bl := q.bl ++ [w.heap.size], vf := v7, gf := g7, nn := (moreM d).now.length } :=
    ⟨hd.blk, hd.mark, ⟨hd.rest.dirs, hd.rest.files, hd.rest.mf, hd.rest.len, hd.rest.mkn, ne, hd.rest.en, hd.rest.mkl, hd.rest.ol, hd.rest.el, hd.rest.chs, hd.rest.mc, hd.rest.fs, by show (moreM d).now.length ≤ _; omega, hd.rest.bnl⟩⟩
  refine (enter_walk z _ _ db (moreM d) _ hd2 hw.more (by omega) ⟨1, [], p, d.nodes.length⟩ (ptrV w.heap.size) (.inl ⟨rfl, rfl, hne⟩) (by simp [maxLen]) hp (by show (moreM d).now.length ≤ _; omega) (fun _ => ⟨hg, hnd, _, hbl, rfl⟩) (fun k => absurd rfl k) (fun k => by cases k)).mono fun e w9 hp9 => ?_
  obtain ⟨own9, hd9, ht9, he9⟩ := hp9
  exact ⟨own9, hd9, ht.trans ht9, he9⟩
theorem look_any {z db K : Nat} {w : World} {own : Nat → Nat × Nat} {d : Dk} {q : DParts} (h : DSt z w own db d q) (hw : Wf d K) (p : Tx) (hp : p.length ≤ maxLen) :
    ∃ v, (Instr.lookup 65 (.map (some q.mn)) (.string (bs p)) true).run Tryz.prog w = .ok (.tuple #[v, .bool (getE d.now p).isSome]) w := by
  cases hg : getE d.now p with
  | none => exact ⟨_, look_no h.rest.on h.rest.en hp hg 0⟩
  | some i =>
    have hl := hw.iln _ (getE_some hg)
    exact ⟨_, look_yes h.rest.on h.rest.en hp hg (List.getElem?_eq_getElem (by rw [h.rest.len]; exact hl)) 0⟩
theorem len_now {z db : Nat} {w w1 : World} {own : Nat → Nat × Nat} {d : Dk} {q : DParts} (h : DSt z w own db d q) (hb : Below w.heap.size w w1) : (Builtin.len_ #[65] 3 #[.map (some q.mn)]).run Tryz.prog w1 = .ok (.int .i64 (d.now.length : Int)) w1 := by
  have h1 := ownsMap_same h.rest.on (hb.block _ h.rest.on.lt)
  have := h1.len Tryz.underlying65 3
  rw [h.rest.en.sz] at this
  exact this
set_option maxRecDepth 100000 in
set_option maxHeartbeats 4000000 in
theorem create_walk (z : Nat) (w : World) (own : Nat → Nat × Nat) (db : Nat) (d : Dk) (q : DParts) (h : DSt z w own db d q) {K : Nat} (hw : Wf d K) (hs : SwOk d K) (hK : K ≤ 9000) (p : Tx) (hp : p.length ≤ maxLen) :
    Calls Tryz.prog 8 #[ptrV db, .string (bs p)] w (OpPost z w own db (createM d p)) := by
  have H := Lib.hid h
  have KM := Lib.hid (may_dst h hw p hp)
  have KS : Hid (∀ w1, Below w.heap.size w w1 → Calls Tryz.prog 33 #[ptrV db] w1 (SwPost z w1 own db q (stepM d))) := Lib.hid fun w1 hb => step_walk z w1 own db d q (h.below hb) hs (by omega)
  have k7 : w.cell? ⟨db, 7, none⟩ = some (.bool d.off) := h.blk.cell 7
  have k4 : w.cell? ⟨db, 4, none⟩ = some (.map (some q.mn)) := h.blk.cell 4
  obtain ⟨v, hl⟩ := look_any h hw p hp
  have HL4 : Hid (∀ w1, Below w.heap.size w w1 → w1.cell? ⟨db, 4, none⟩ = some (.map (some q.mn)) ∧ (Builtin.len_ #[65] 3 #[.map (some q.mn)]).run Tryz.prog w1 = .ok (.int .i64 (d.now.length : Int)) w1) := Lib.hid fun w1 hb => ⟨(h.blk.keep hb).cell 4, len_now h hb⟩
  have hnl : d.now.length ≤ K := by have := hw.cpn; have := hw.nk; omega
  have HW := Lib.hid hw
  have HLP := Lib.hid hp
  have HMP : Hid (mayB d.dirs p = true → p ≠ []) := Lib.hid fun h => may_ne h
  have HST := Lib.hid (step_same d)
  cases ho : d.off with
  | true =>
    have E : Hid (createM d p = (d, 10)) := Lib.hid (by unfold createM; rw [if_pos ho])
    rw [ho] at k7
    clear h hw hs hp ho KM KS HL4 hnl HW HLP HMP HST
    generalize (getE d.now p).isSome = is at *
    unfold ptrV at *
    go_enter Tryz.func8, Tryz.ntmps8
    go_wp2_with fail
    go_ret
    rw [E.out]
    exact OpPost.bl H.out (Below.refl _ _) 10
  | false =>
    rw [ho] at k7
    cases hmy : mayB d.dirs p with
    | false =>
      have E : Hid (createM d p = (d, 11)) := Lib.hid (by unfold createM; rw [if_neg (by rw [ho]; decide), if_pos hmy])
      rw [hmy] at KM
      clear h hw hs hp ho hmy KS HL4 hnl HW HLP HMP HST
      generalize (getE d.now p).isSome = is at *
      unfold ptrV at *
      go_enter Tryz.func8, Tryz.ntmps8
      go_wp2_with fail
      refine KM.out.mono ?_
      rintro e w1 ⟨rfl, hb1⟩
      have HB1 := Lib.hid hb1
      clear hb1
      go_wp2_with fail
      go_ret
      rw [E.out]
      exact OpPost.bl H.out HB1.out 11
    | true =>
      rw [hmy] at KM
      cases hg : getE d.now p with
      | some i =>
        have E : Hid (createM d p = (d, 13)) := Lib.hid (by unfold createM; rw [if_neg (by rw [ho]; decide), if_neg (by rw [hmy]; decide), if_pos (by rw [hg]; simp)])
        rw [hg] at hl
        have hl2 : (Instr.lookup 65 (.map (some q.mn)) (.string (bs p)) true).run Tryz.prog w = .ok (.tuple #[v, .bool true]) w := hl
        clear h hw hs hp ho hmy KS HL4 hnl HW HLP HMP HST hg hl
        unfold ptrV at *
        go_enter Tryz.func8, Tryz.ntmps8
        go_wp2_with fail
        refine KM.out.mono ?_
        rintro e w1 ⟨rfl, hb1⟩
        have HB1 := Lib.hid hb1
        clear hb1
        go_wp2_with fail
        go_ret
        rw [E.out]
        exact OpPost.bl H.out HB1.out 13
      | none =>
        rw [hg] at hl
        have hl2 : (Instr.lookup 65 (.map (some q.mn)) (.string (bs p)) true).run Tryz.prog w = .ok (.tuple #[v, .bool false]) w := hl
        clear hl
        by_cases hmn : 4096 ≤ d.now.length
        · have E : Hid (createM d p = (d, 14)) := Lib.hid (by unfold createM; rw [if_neg (by rw [ho]; decide), if_neg (by rw [hmy]; decide), if_neg (by rw [hg]; simp), if_pos hmn])
          have hmn2 : (4096 : Int) ≤ (d.now.length : Int) := by omega
          clear h hw hs hp ho hmy KS HW HLP HMP HST hg hmn
          unfold ptrV at *
          go_enter Tryz.func8, Tryz.ntmps8
          go_wp2_with fail
          refine KM.out.mono ?_
          rintro e w1 ⟨rfl, hb1⟩
          have HB1 := Lib.hid hb1
          obtain ⟨c4, hlen⟩ := HL4.out w1 hb1
          clear hb1
          go_wp2_with fail
          go_ret
          rw [E.out]
          exact OpPost.bl H.out HB1.out 14
        · have hmn2 : ¬ (4096 : Int) ≤ (d.now.length : Int) := by omega
          cases he : (stepM d).2 == 0 with
          | false =>
            have t1 : ((stepM d).2 != 0) = true := by simpa using he
            have E : Hid (createM d p = stepM d) := Lib.hid (by unfold createM; rw [if_neg (by rw [ho]; decide), if_neg (by rw [hmy]; decide), if_neg (by rw [hg]; simp), if_neg hmn, if_pos (by simpa using he)])
            clear h hw hs hp ho hmy HW HLP HMP HST hg hmn he
            unfold ptrV at *
            go_enter Tryz.func8, Tryz.ntmps8
            go_wp2_with fail
            refine KM.out.mono ?_
            rintro e w1 ⟨rfl, hb1⟩
            have HB1 := Lib.hid hb1
            obtain ⟨c4, hlen⟩ := HL4.out w1 hb1
            clear hb1
            go_wp2_with fail
            refine (KS.out _ HB1.out).mono ?_
            rintro e w2 ⟨hd1, ho1, rfl⟩
            have HD1 := Lib.hid hd1
            have HO1 := Lib.hid ho1
            clear hd1 ho1
            generalize hsm : (stepM d).2 = se at *
            have HSM := Lib.hid hsm
            clear hsm
            go_wp2_with fail
            go_ret
            rw [E.out]
            exact OpPost.sw H.out.mark HB1.out ⟨HD1.out, HO1.out, by rw [HSM.out]; rfl⟩
          | true =>
            have he0 : (stepM d).2 = 0 := by simpa using he
            have KS2 : Hid (∀ w1, Below w.heap.size w w1 → Calls Tryz.prog 33 #[ptrV db] w1 fun e w' => (DSt z w' own db (stepM d).1 q ∧ Only db w1 w') ∧ e = .returned (.int .i64 0)) := Lib.hid fun w1 hb => (KS.out w1 hb).mono fun e w' ⟨h1, h2, h3⟩ => ⟨⟨h1, h2⟩, by rw [h3, he0]⟩
            have E : Hid (createM d p = (enterM (moreM (stepM d).1) ⟨1, [], p, d.nodes.length⟩, 0)) := Lib.hid (by
              unfold createM; rw [if_neg (by rw [ho]; decide), if_neg (by rw [hmy]; decide), if_neg (by rw [hg]; simp), if_neg hmn, if_neg (by rw [he0]; decide)]
              unfold moreM
              rw [HST.out.2.1])
            have HW1 : Hid (Wf (stepM d).1 K) := Lib.hid hw.step
            have HGN : Hid (getE (stepM d).1.now p = none ∧ (stepM d).1.nodes.length = d.nodes.length) := Lib.hid ⟨by rw [HST.out.2.2.1]; exact hg, by rw [HST.out.2.1]⟩
            have HPN := Lib.hid (HMP.out hmy)
            have HKK := Lib.hid hK
            clear h hw hs hp ho hmy HW HMP HST hg hmn he he0 KS
            generalize hsd : (stepM d).1 = d1 at *
            generalize hnd : d.nodes.length = nd at *
            clear hsd hnd
            unfold ptrV at *
            go_enter Tryz.func8, Tryz.ntmps8
            go_wp2_with fail
            refine KM.out.mono ?_
            rintro e w1 ⟨rfl, hb1⟩
            have HB1 := Lib.hid hb1
            obtain ⟨c4, hlen⟩ := HL4.out w1 hb1
            clear hb1
            go_wp2_with fail
            refine (KS2.out _ HB1.out).mono ?_
            rintro e w2 ⟨⟨hd1, ho1⟩, rfl⟩
            have HD1 := Lib.hid hd1
            have HO1 := Lib.hid ho1
            have HFD : Hid (∀ k, q.gf = some k → k < w2.heap.size ∧ k ≠ db) := Lib.hid fun k e => ⟨hd1.rest.files.lt e, fun e2 => by have h1 := hd1.rest.mf k e; rw [e2, hd1.mark] at h1; simp at h1⟩
            obtain ⟨Af, nf, cf, ef, hxf, hnf, hmf⟩ := hd1.rest.files.sl
            have c3 : (fileX w2).cell? ⟨db, 3, none⟩ = some (.slice Af nf cf) := by
              rw [← ef]
              exact ((hd1.blk.alloc _).alloc (.cells #[ptrV w2.heap.size] 70)).cell 3
            have HA : Hid (OwnX 1 (fileX w2) q.gf (.slice Af nf cf) (q.bl.map ptrV)) := Lib.hid (by
              rw [← ef]
              exact (hd1.rest.files.below ((Below.refl w2.heap.size w2).alloc (Nat.le_refl _) (.cells #[.slice none 0 0, .slice none 0 0, .slice none 0 0] 75)) fun k hk => hd1.rest.files.lt hk).below ((Below.refl (fileW w2).heap.size (fileW w2)).alloc (Nat.le_refl _) (.cells #[ptrV w2.heap.size] 70)) fun k hk => by have := hd1.rest.files.lt hk; show k < (fileW w2).heap.size; unfold fileW; simp; omega)
            have HLF : Hid ((q.bl.map ptrV).length ≤ 9000) := Lib.hid (by have h1 := HW1.out.nk; have h2 := HKK.out; have h3 := hd1.rest.len; rw [List.length_map]; omega)
            have HBX : Hid (Blk (fileX w2) db 69 (q.cells d1)) := Lib.hid ((hd1.blk.alloc _).alloc (.cells #[ptrV w2.heap.size] 70))
            have HEF := Lib.hid ef
            have c3a : (fileW w2).cell? ⟨db, 3, none⟩ = some (.slice Af nf cf) := by rw [← ef]; exact (hd1.blk.alloc _).cell 3
            have HNW := Lib.hid (news_of (fileW w2) 70 [ptrV w2.heap.size])
            have hsz : (fileW w2).heap.size = w2.heap.size + 1 := by unfold fileW; simp
            rw [hsz] at HNW
            clear hd1 ho1 ef hxf hnf hmf hsz
            unfold fileX fileW ptrV at c3 HA
            unfold fileW at c3a
            unfold fileW ptrV at HNW
            go_wp2_with (at_builtin; refine wpList_appX _ uxF (.tmp 48) (.tmp 50) rfl rfl rfl HA.out (some ⟨w2.heap.size + 1, 0, none⟩) 1 1 rfl [ptrV w2.heap.size] rfl (fun h => by cases h) HNW.out (fun u hu => by obtain rfl := List.mem_singleton.1 hu; rfl) (by have := HLF.out; rw [List.length_map] at this ⊢; omega) ?_; intro v7 g7 w7 hX7 hG7 ho7; obtain ⟨A7, n7, c7, rfl, -⟩ := hX7.sl; have HX7 := Lib.hid hX7; have HG7 := Lib.hid hG7; have HO7 := Lib.hid ho7; have hB7 := HBX.out.grown hG7 (fun e => (HFD.out db e.symm).2 rfl); have k73 : w7.cell? ⟨db, 3, none⟩ = some q.vf := hB7.cell 3; have fk7 := hB7.frozen 3; have HB7 := Lib.hid hB7; clear hX7 hG7 ho7 hB7)
            have KE := crt_ent HD1.out HW1.out HKK.out HX7.out HG7.out HO7.out p HLP.out HPN.out HGN.out.1 nd HGN.out.2
            refine KE.mono ?_
            rintro e w9 hp9
            have HP9 := Lib.hid (OpPost.ent2 H.out.mark HB1.out HO1.out hp9)
            obtain ⟨-, -, -, rfl⟩ := hp9
            clear KE
            generalize hd9 : enterM (moreM d1) ⟨1, [], p, nd⟩ = d9 at *
            clear hd9
            go_wp2_with fail
            go_ret
            rw [E.out]
            exact HP9.out
end Go.Proofs.YtbpooaicmjkemaaGreatDoor
