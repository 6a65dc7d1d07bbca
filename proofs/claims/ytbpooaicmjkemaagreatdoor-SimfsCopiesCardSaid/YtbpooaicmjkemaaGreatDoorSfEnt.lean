/-
  The walk of the program's enter: an entry change is done, and waits. Conditions: the lengths.
-/
import Derived.Test.YtbpooaicmjkemaaGreatDoorRun8
namespace Go.Proofs.YtbpooaicmjkemaaGreatDoor
open Go.RowKit Go.Maps
set_option linter.unusedVariables false
/-! ### how many bytes all files have, behind an entry change -/
def lenAt (nodes : List Nd) (L : Es) (p : Tx) : Nat := match getE L p with
  | none => 0
  | some i => (nodes.getD i nd0).now.length
theorem used_app (nodes : List Nd) (a b : Es) : usedL nodes (a ++ b) = usedL nodes a + usedL nodes b := by simp [usedL]
theorem used_cons (nodes : List Nd) (e : Tx × Nat) (b : Es) : usedL nodes (e :: b) = (nodes.getD e.2 nd0).now.length + usedL nodes b := by simp [usedL]
theorem used_split (nodes : List Nd) : ∀ {L : Es}, sortE L → ∀ p : Tx, usedL nodes (L.filter fun e => decide (e.1 < p)) + usedL nodes (L.filter fun e => decide (p < e.1)) + lenAt nodes L p = usedL nodes L
  | [], _, p => rfl
  | e :: r, h, p => by
    obtain ⟨h1, h2⟩ := List.pairwise_cons.1 h
    have ih := used_split nodes h2 p
    unfold lenAt getE
    unfold lenAt at ih
    simp only [List.filter_cons]
    rcases key_tot e.1 p with hlt | heq | hgt
    · have hn : ¬ p < e.1 := fun h => key_ir _ (key_tr hlt h)
      have hne : ¬ e.1 = p := fun h => by rw [h] at hlt; exact key_ir _ hlt
      simp only [hlt, hn, hne, decide_true, decide_false, if_true, if_false, used_cons, Bool.false_eq_true]
      omega
    · have h4 : ¬ p < p := key_ir p
      have hg : getE r p = none := getE_none.2 fun x hx hxp => by have := h1 x hx; rw [hxp, heq] at this; exact key_ir _ this
      rw [hg] at ih
      simp only [h4, heq, decide_false, if_true, if_false, Bool.false_eq_true, used_cons]
      simp only at ih
      omega
    · have hn : ¬ e.1 < p := fun h => key_ir _ (key_tr h hgt)
      have hne : ¬ e.1 = p := fun h => by rw [h] at hgt; exact key_ir _ hgt
      simp only [hn, hgt, hne, decide_true, decide_false, if_true, if_false, used_cons, Bool.false_eq_true]
      omega
theorem used_put (nodes : List Nd) {L : Es} (h : sortE L) (p : Tx) (n : Nat) : usedL nodes (putE L p n) + lenAt nodes L p = usedL nodes L + (nodes.getD n nd0).now.length := by
  have := used_split nodes h p
  unfold putE
  rw [used_app, used_cons]
  simp only at *
  omega
theorem drop_split : ∀ {L : Es}, sortE L → ∀ p : Tx, dropE L p = (L.filter fun e => decide (e.1 < p)) ++ (L.filter fun e => decide (p < e.1))
  | [], _, p => rfl
  | e :: r, h, p => by
    obtain ⟨h1, h2⟩ := List.pairwise_cons.1 h
    have ih := drop_split h2 p
    unfold dropE at ih ⊢
    simp only [List.filter_cons]
    rcases key_tot e.1 p with hlt | heq | hgt
    · have hn : ¬ p < e.1 := fun h => key_ir _ (key_tr hlt h)
      have hne : ¬ e.1 = p := fun h => by rw [h] at hlt; exact key_ir _ hlt
      simp only [hlt, hn, hne, ne_eq, not_false_eq_true, decide_true, decide_false, if_true, if_false, Bool.false_eq_true, List.cons_append]
      simp only [ne_eq] at ih
      rw [ih]
    · have h4 : ¬ p < p := key_ir p
      simp only [h4, heq, ne_eq, not_true_eq_false, decide_false, Bool.false_eq_true, if_false]
      simp only [ne_eq] at ih
      rw [ih]
    · have hn : ¬ e.1 < p := fun h => key_ir _ (key_tr h hgt)
      have hne : ¬ e.1 = p := fun h => by rw [h] at hgt; exact key_ir _ hgt
      have hnil : (r.filter fun e => decide (e.1 < p)) = [] := List.filter_eq_nil_iff.2 fun x hx => by
        have := key_tr hgt (h1 x hx)
        simp only [decide_eq_true_eq]
        exact fun h => key_ir _ (key_tr h this)
      simp only [hn, hgt, hne, ne_eq, not_false_eq_true, decide_true, decide_false, if_true, if_false, Bool.false_eq_true, hnil, List.nil_append]
      simp only [ne_eq] at ih
      rw [ih, hnil, List.nil_append]
theorem used_drop (nodes : List Nd) {L : Es} (h : sortE L) (p : Tx) : usedL nodes (dropE L p) + lenAt nodes L p = usedL nodes L := by
  have := used_split nodes h p
  rw [drop_split h, used_app]
  omega
/-- what goes with a path, when a change names it -/
def subC (d : Dk) (c : Ch) (p : Tx) : Nat := if c.kind = 3 ∨ p = c.tt then lenAt d.nodes d.now p else 0
theorem used_enter {d : Dk} {c : Ch} (hs : sortE d.now) (h0 : getE d.now [] = none) (hc : OkC c) (h1 : c.kind = 1 → getE d.now c.tt = none ∧ nodeM d c.node = nd0) (h2 : c.kind = 2 → getE d.now c.fr ≠ none) :
    usedM (enterM d c) + subC d c c.tt + subC d c c.fr = usedM d := by
  show usedL d.nodes (didE d.now c) + _ + _ = usedL d.nodes d.now
  unfold subC
  rcases hc with ⟨k, e1, e2⟩ | ⟨k, e1, e2, e3⟩ | ⟨k, e1, e2⟩
  · obtain ⟨g1, g2⟩ := h1 k
    have := used_put d.nodes hs c.tt c.node
    unfold nodeM at g2
    rw [g2] at this
    have l1 : lenAt d.nodes d.now c.tt = 0 := by unfold lenAt; rw [g1]
    have l2 : lenAt d.nodes d.now c.fr = 0 := by unfold lenAt; rw [e1, h0]
    unfold didE
    rw [if_pos k, l1, l2]
    rw [l1] at this
    simp [nd0] at this
    simp
    exact this
  · obtain ⟨i, hi⟩ := Option.ne_none_iff_exists'.1 (h2 k)
    have a1 := used_put d.nodes (sort_dropE hs c.fr) c.tt i
    have a2 := used_drop d.nodes hs c.fr
    have l1 : lenAt d.nodes d.now c.fr = (d.nodes.getD i nd0).now.length := by unfold lenAt; rw [hi]
    have l2 : lenAt d.nodes (dropE d.now c.fr) c.tt = lenAt d.nodes d.now c.tt := by
      unfold lenAt
      rw [getE_dropE hs, if_neg (fun e => e3 e.symm)]
    unfold didE
    rw [if_neg (by rw [k]; decide), if_neg (by rw [k]; decide), hi]
    rw [if_pos (.inr rfl), if_neg (by rw [k]; simp [e3])]
    show usedL d.nodes (putE (dropE d.now c.fr) c.tt i) + _ + 0 = _
    omega
  · have a2 := used_drop d.nodes hs c.fr
    have l2 : lenAt d.nodes d.now c.tt = 0 := by unfold lenAt; rw [e2, h0]
    unfold didE
    rw [if_neg (by rw [k]; decide), if_pos k, l2, if_pos (.inl k), if_pos (.inl k)]
    omega
/-! ### the walk -/
theorem uxC : UX Tryz.prog 67 80 4 := by
  obtain ⟨i, h1, h2, h3, h4⟩ := info_parts (show (Tryz.prog.info? 80).map (fun i => (i.zero, i.size, i.bytes)) = some (some (.agg #[.int .i64 0, .string ⟨#[]⟩, .string ⟨#[]⟩, .pointer none]), 4, 48) by kernel_rfl)
  exact ⟨Tryz.underlying67, ⟨i, _, h1, h2, rfl, h3, by omega⟩, by omega⟩
theorem chs_all (bl : List Nat) (cs : List Ch) : ∀ r ∈ cs.map (chC bl), r.length = 4 := fun r hr => by
  obtain ⟨c, _, rfl⟩ := List.mem_map.1 hr
  rfl
theorem pc_one {bl : List Nat} {c : Ch} {pc : Value} {Q R : Prop} (hc : OkC c) (h1 : c.kind = 1 → Q ∧ R ∧ ∃ b, bl[c.node]? = some b ∧ pc = .pointer (some ⟨b, 0, none⟩)) (h0 : c.kind ≠ 1 → pc = .pointer none) : ∀ u ∈ [Value.int .i64 c.kind, .string (bs c.fr), .string (bs c.tt), pc], u.oneCell' = true := by
  have hp : pc.oneCell' = true := by
    by_cases k : c.kind = 1
    · obtain ⟨-, -, b, -, rfl⟩ := h1 k; rfl
    · rw [h0 k]; rfl
  intro u hu
  simp only [List.mem_cons, List.not_mem_nil, or_false] at hu
  rcases hu with rfl | rfl | rfl | rfl
  · rfl
  · rfl
  · rfl
  · exact hp
def DParts.cellsU (q : DParts) (d : Dk) (u : Nat) : Array Value :=
  #[.int .i64 d.quota, .int .i64 (u : Int), q.vd, q.vf, .map (some q.mn), .map (some q.ml), q.vc, .bool d.off, .int .i64 d.done, .int .i64 (d.arm : Int), .int .i64 (d.fail : Int), .int .i64 d.failed]
theorem pc_same {bl : List Nat} {c : Ch} {pc : Value} {Q R : Prop} (h1 : c.kind = 1 → Q ∧ R ∧ ∃ b, bl[c.node]? = some b ∧ pc = .pointer (some ⟨b, 0, none⟩)) (h0 : c.kind ≠ 1 → pc = .pointer none) : pc = chP bl c := by
  unfold chP
  by_cases k : c.kind = 1
  · obtain ⟨-, -, b, hb, rfl⟩ := h1 k
    rw [if_pos k, hb]; rfl
  · rw [if_neg k, h0 k]
/-- the end of an entry change: the disk put together again -/
theorem ent_end {z db u n5 : Nat} {w w5 w7 : World} {own : Nat → Nat × Nat} {d : Dk} {q : DParts} {c : Ch} {pc v7 vw : Value} {g7 : Option Nat} {D5 : DataW Unit} (h : DSt z w own db d q)
    (hold : ∀ k, k < w.heap.size → k ≠ db → k ≠ q.mn → w5.heap[k]? = w.heap[k]?) (hgo : w5.os = w.os ∧ w5.tape = w.tape ∧ w5.output = w.output ∧ w.heap.size ≤ w5.heap.size)
    (hO : w5.ownsMap Tryz.prog 9 ptrElem q.mn n5 D5) (hn5 : n5 ≤ q.nn + 1) (hnn : q.nn ≤ 900000) (hE : MapE D5 (didE d.now c) q.bl) (hC : Blk w5 db 69 (q.cellsU d u)) (hu : usedM (enterM d c) = u) (hew : q.vc = vw)
    (hX : OwnX 4 w7 g7 v7 ((d.waits.map (chC q.bl)).flatten ++ [.int .i64 c.kind, .string (bs c.fr), .string (bs c.tt), pc])) (hpc : pc = chP q.bl c)
    (hG : (w5.alloc (.cells #[.int .i64 c.kind, .string (bs c.fr), .string (bs c.tt), pc] 80)).drew.grownBy w7 q.gc) (ho : g7 = q.gc ∨ g7 = some (w5.alloc (.cells #[.int .i64 c.kind, .string (bs c.fr), .string (bs c.tt), pc] 80)).drew.heap.size) :
    DSt z (w7.setCell ⟨db, 6, none⟩ v7) (newM w own fun k => if g7 = some k then (10 * z + 1, 4) else (0, 0)) db (enterM d c) { q with nn := n5, Dn := D5, vc := v7, gc := g7 } ∧ Turn (isD z) w (w7.setCell ⟨db, 6, none⟩ v7) own (newM w own fun k => if g7 = some k then (10 * z + 1, 4) else (0, 0)) := by
  have r := h.rest
  have hdm := h.mark
  have hdw := h.blk.lt
  have hs57 : w5.heap.size + 1 ≤ w7.heap.size := by have := hG.size; simpa using this
  have hsW : (w7.setCell ⟨db, 6, none⟩ v7).heap.size = w7.heap.size := by simp
  have hcm : ∀ k, q.gc = some k → own k = (10 * z + 1, 4) := r.mc
  have st : ∀ k, k < w5.heap.size → q.gc ≠ some k → k ≠ db → (w7.setCell ⟨db, 6, none⟩ v7).heap[k]? = w5.heap[k]? := fun k h1 h2 h3 =>
    (Below.heap_setCell w7 ⟨db, 6, none⟩ v7 k h3).trans ((hG.block k (by show k < (w5.alloc _).heap.size; simp; omega) (fun e => h2 e.symm)).trans (Below.heap_alloc w5 _ k h1))
  have st0 : ∀ k, k < w.heap.size → own k ≠ (10 * z + 1, 0) → own k ≠ (10 * z + 1, 2) → own k ≠ (10 * z + 1, 4) → (w7.setCell ⟨db, 6, none⟩ v7).heap[k]? = w.heap[k]? := fun k h1 h2 h3 h4 =>
    (st k (by omega) (fun e => h4 (hcm k e)) (fun e => h2 (by rw [e]; exact hdm))).trans (hold k h1 (fun e => h2 (by rw [e]; exact hdm)) (fun e => h3 (by rw [e]; exact r.mkn)))
  have hg : Goes (fun t => t ≠ (10 * z + 1, 0) ∧ t ≠ (10 * z + 1, 2) ∧ t ≠ (10 * z + 1, 4)) w (w7.setCell ⟨db, 6, none⟩ v7) own (newM w own fun k => if g7 = some k then (10 * z + 1, 4) else (0, 0)) :=
    ⟨by rw [hsW]; omega, fun k h1 ⟨h2, h3, h4⟩ => ⟨st0 k h1 h2 h3 h4, newM_old h1⟩⟩
  have hfz : (fun t : Nat × Nat => t ≠ (10 * z + 1, 0) ∧ t ≠ (10 * z + 1, 2) ∧ t ≠ (10 * z + 1, 4)) frz := by unfold frz; exact ⟨by simp, by simp, by simp⟩
  have m1 : ∀ k, q.gf = some k → own k ≠ (10 * z + 1, 0) ∧ own k ≠ (10 * z + 1, 2) ∧ own k ≠ (10 * z + 1, 4) := fun k e => by rw [r.mf k e]; exact ⟨by simp, by simp, by simp⟩
  have m3 : own q.ml ≠ (10 * z + 1, 0) ∧ own q.ml ≠ (10 * z + 1, 2) ∧ own q.ml ≠ (10 * z + 1, 4) := by rw [r.mkl]; exact ⟨by simp, by simp, by simp⟩
  have hmnw := r.on.lt
  have hmne : q.mn ≠ db := fun e => by have := r.mkn; rw [e, hdm] at this; simp at this
  have hgcm : q.gc ≠ some q.mn := fun e => by have := hcm _ e; rw [r.mkn] at this; simp at this
  have hgcd : q.gc ≠ some db := fun e => by have := hcm _ e; rw [hdm] at this; simp at this
  have hg7 : ∀ k, g7 = some k → q.gc = some k ∨ w5.heap.size < k := fun k e => by
    rcases ho with h7 | h7
    · exact .inl (h7.symm.trans e)
    · rw [h7] at e
      injection e with e
      have e2 : (w5.alloc (.cells #[.int .i64 c.kind, .string (bs c.fr), .string (bs c.tt), pc] 80)).drew.heap.size = w5.heap.size + 1 := by show (w5.alloc _).heap.size = _; simp
      exact .inr (by omega)
  subst hpc
  refine ⟨⟨?_, (newM_old hdw).trans hdm, ⟨r.dirs.goes hg hfz, r.files.same hg.size fun g e => (hg.block g (r.files.lt e) (m1 g e)).1, fun k e => (hg.block k (r.files.lt e) (m1 k e)).2.trans (r.mf k e), r.len, (newM_old hmnw).trans r.mkn, ownsMap_same hO (st q.mn (by omega) hgcm hmne), hE, (hg.block _ r.ol.lt m3).2.trans r.mkl, ownsMap_same r.ol (hg.block _ r.ol.lt m3).1, r.el, ?_, fun k e => ?_, fun i b x hb hx => (r.fs i b x hb hx).goes hg hfz fun t ht => ?_, ?_, r.bnl⟩⟩, ?_⟩
  · have h1 := (hC.at_ ((hG.block db (by show db < (w5.alloc _).heap.size; simp; omega) (fun e => hgcd e.symm)).trans (Below.heap_alloc w5 _ db (by omega)))).set_ 6 v7
    unfold DParts.cells
    rw [hu]
    exact h1
  · show OwnX 4 _ g7 v7 ((d.waits ++ [c]).map (chC q.bl)).flatten
    rw [List.map_append, List.flatten_append]
    refine OwnX.same (xs := (d.waits.map (chC q.bl)).flatten ++ ([c].map (chC q.bl)).flatten) (by simpa [chC] using hX) (by rw [hsW]; exact Nat.le_refl _) fun k e => Below.heap_setCell w7 ⟨db, 6, none⟩ v7 k ?_
    rcases hg7 k e with h7 | h7
    · exact fun e2 => hgcd (by rw [h7]; exact congrArg some e2)
    · show k ≠ db; omega
  · rcases hg7 k e with h7 | h7
    · rw [newM_old (r.chs.lt h7)]; exact hcm k h7
    · rw [newM_new (by omega)]; exact if_pos e
  · refine ⟨?_, ?_, ?_⟩ <;> (rintro rfl; have := ht.1.1; simp at this)
  · show n5 ≤ 1000000; omega
  · exact ⟨hG.os.trans hgo.1, hG.tape.trans hgo.2.1, hG.output.trans hgo.2.2.1, by rw [hsW]; omega, fun k h1 h2 => st0 k h1 (fun e => h2 (by rw [e]; exact ⟨by simp, by simp⟩)) (fun e => h2 (by rw [e]; exact ⟨by simp, by simp⟩)) (fun e => h2 (by rw [e]; exact ⟨by simp, by simp⟩)), fun k h1 _ => newM_old h1⟩
/-- what an entry change leaves -/
def EntPost (z : Nat) (w : World) (own : Nat → Nat × Nat) (db : Nat) (d' : Dk) (e : Ending) (w' : World) : Prop := ∃ own', Disk z w' own' db d' ∧ Turn (isD z) w w' own own' ∧ e = .returned (.tuple #[])
set_option maxRecDepth 100000 in
set_option maxHeartbeats 4000000 in
theorem enter_walk (z : Nat) (w : World) (own : Nat → Nat × Nat) (db : Nat) (d : Dk) (q : DParts) (h : DSt z w own db d q) {K : Nat} (hw : Wf d K) (hK : K ≤ 10000) (c : Ch) (pc : Value) (hc : OkC c) (hf : c.fr.length ≤ maxLen) (ht : c.tt.length ≤ maxLen) (hn9 : q.nn ≤ 900000)
    (h1 : c.kind = 1 → getE d.now c.tt = none ∧ nodeM d c.node = nd0 ∧ ∃ b, q.bl[c.node]? = some b ∧ pc = .pointer (some ⟨b, 0, none⟩)) (h0 : c.kind ≠ 1 → pc = .pointer none) (h2 : c.kind = 2 → getE d.now c.fr ≠ none) :
    Calls Tryz.prog 34 #[ptrV db, .agg (chA c pc)] w (EntPost z w own db (enterM d c)) := by
  have g0 : getE d.now [] = none := getE_none.2 fun e he hn => may_ne (hw.mn e he) hn
  have hue := used_enter (d := d) (c := c) hw.sn g0 hc (fun k => ⟨(h1 k).1, (h1 k).2.1⟩) h2
  have hub := hw.used
  have HUE := Lib.hid hue
  have HUB : Hid (usedM d ≤ 1000000000000) := Lib.hid (by omega)
  have HP := Lib.hid h
  have HO := Lib.hid h.rest.on
  have HE := Lib.hid h.rest.en
  have HLfr := Lib.hid hf
  have HLtt := Lib.hid ht
  have HMN : Hid (q.mn < w.heap.size ∧ q.mn ≠ db) := Lib.hid ⟨h.rest.on.lt, fun e => by have := h.rest.mkn; rw [e, h.mark] at this; simp at this⟩
  have HFI : Hid (∀ (p : Tx) (i : Nat), getE d.now p = some i → ∃ b x, q.bl[i]? = some b ∧ d.nodes[i]? = some x ∧ FSt z w own i b x) := Lib.hid fun p i hg => by
    have hl := hw.iln _ (getE_some hg)
    have hb : q.bl[i]? = some (q.bl[i]'(by rw [h.rest.len]; exact hl)) := List.getElem?_eq_getElem _
    exact ⟨_, _, hb, List.getElem?_eq_getElem hl, h.rest.fs i _ _ hb (List.getElem?_eq_getElem hl)⟩
  have HFD : Hid (∀ (i b : Nat), q.bl[i]? = some b → b < w.heap.size ∧ b ≠ db) := Lib.hid fun i b hb => by
    have hl : i < d.nodes.length := by rw [← h.rest.len]; exact (List.getElem?_eq_some_iff.1 hb).1
    have hF := h.rest.fs i b _ hb (List.getElem?_eq_getElem hl)
    obtain ⟨_, _, _, _, _, _, _, hB, -⟩ := hF.ex
    exact ⟨hB.lt, fun e => by have := hF.mark; rw [e, h.mark] at this; simp at this⟩
  have HNF : Hid (c.kind ≠ 3 → ∀ i, getE d.now c.fr = some i → ¬ c.fr = c.tt) := Lib.hid fun hk i hg e => by
    rcases hc with ⟨k, e1, e2⟩ | ⟨k, e1, e2, e3⟩ | ⟨k, e1, e2⟩
    · rw [e1, g0] at hg; cases hg
    · exact e3 e
    · exact hk k
  have HOC := Lib.hid hc
  have H1 := Lib.hid h1
  have H0 := Lib.hid h0
  have H2 := Lib.hid h2
  have HW := Lib.hid hw
  have hdb := h.blk.lt
  have hX0 := (Blk.new w 80 (chA c pc)).alloc (.cells #[.string (bs c.tt), .string (bs c.fr)] 9)
  have hs1 : (w.alloc (.cells (chA c pc) 80)).heap.size = w.heap.size + 1 := by simp
  have hY0 := Blk.new (w.alloc (.cells (chA c pc) 80)) 9 #[.string (bs c.tt), .string (bs c.fr)]
  rw [hs1] at hY0
  have hbl := ((Below.refl w.heap.size w).alloc (Nat.le_refl _) (.cells (chA c pc) 80)).alloc (by simp) (.cells #[.string (bs c.tt), .string (bs c.fr)] 9)
  have HX0 := Lib.hid hX0
  have HY0 := Lib.hid hY0
  have HC0 : Hid (Blk ((w.alloc (.cells (chA c pc) 80)).alloc (.cells #[.string (bs c.tt), .string (bs c.fr)] 9)) db 69 (q.cellsU d (usedM d))) := Lib.hid (h.blk.keep hbl)
  have HS0 : Hid (Safe (fun k => k < w.heap.size ∧ k ≠ db) w ((w.alloc (.cells (chA c pc) 80)).alloc (.cells #[.string (bs c.tt), .string (bs c.fr)] 9))) := Lib.hid ((Safe.refl _ w).below hbl fun k hk => hk.1)
  have j1 : (w.alloc (.cells (chA c pc) 80)).cell? ⟨w.heap.size, 1, none⟩ = some (.string (bs c.fr)) := (Blk.new w 80 (chA c pc)).cell 1
  have j2 : (w.alloc (.cells (chA c pc) 80)).cell? ⟨w.heap.size, 2, none⟩ = some (.string (bs c.tt)) := (Blk.new w 80 (chA c pc)).cell 2
  unfold ptrV
  clear h hw hc hf ht h1 h0 h2 g0 hue hub hX0 hY0 hbl hs1
  unfold chA at *
  go_enter Tryz.func34, Tryz.ntmps34
  go_wp2_with fail
  go_loopg [5, 6, 7, 16] 2 (fun k s5 s6 s7 s16 wr => ∃ j u : Nat, s16 = .int .i64 (j : Int) ∧ j + k = 2 ∧ Hid (u + (if 1 ≤ j then subC d c c.tt else 0) + (if 2 ≤ j then subC d c c.fr else 0) = usedM d) ∧ Hid (Blk wr db 69 (q.cellsU d u)) ∧ Hid (Blk wr w.heap.size 80 (chA c pc)) ∧ Hid (Blk wr (w.heap.size + 1) 9 #[.string (bs c.tt), .string (bs c.fr)]) ∧ Hid (Safe (fun k => k < w.heap.size ∧ k ≠ db) w wr))
  case atStart => exact ⟨0, usedM d, rfl, rfl, Lib.hid (by simp), HC0, HX0, HY0, HS0⟩
  case round =>
    obtain ⟨j, u, rfl, hj, HU, HC, HX, HY, HS⟩ := hrel
    clear HC0 HX0 HY0 HS0 j1 j2
    by_cases hj0 : j = 0
    · subst hj0
      have k0 : wr.cell? ⟨w.heap.size + 1, 0, none⟩ = some (.string (bs c.tt)) := HY.out.cell 0
      have c4 : wr.cell? ⟨db, 4, none⟩ = some (.map (some q.mn)) := HC.out.cell 4
      have c1 : wr.cell? ⟨db, 1, none⟩ = some (.int .i64 (u : Int)) := HC.out.cell 1
      have fc1 := HC.out.frozen 1
      have x0 : wr.cell? ⟨w.heap.size, 0, none⟩ = some (.int .i64 c.kind) := HX.out.cell 0
      have x2 : wr.cell? ⟨w.heap.size, 2, none⟩ = some (.string (bs c.tt)) := HX.out.cell 2
      have hmn := HS.out.block q.mn HMN.out
      cases hg : getE d.now c.tt with
      | none =>
        have hl := look_no (ownsMap_same HO.out hmn) HE.out HLtt.out hg 0
        rw [drewN0] at hl
        have HU2 : Hid (u + (if 1 ≤ 1 then subC d c c.tt else 0) + (if 2 ≤ 1 then subC d c c.fr else 0) = usedM d) := Lib.hid (by have := HU.out; simp only [subC, lenAt, hg] at this ⊢; simpa using this)
        clear hg hmn
        go_wp2_with fail
        go_roundg (gk - 1)
        case rel => exact ⟨1, u, by go_num, by omega, HU2, HC, HX, HY, HS⟩
        case measure => omega
      | some i =>
        obtain ⟨b, x, hb, hx, hF⟩ := HFI.out c.tt i hg
        obtain ⟨vn, gn, vl, gl, vw, gw, vs, hB, hN, -⟩ := hF.ex
        obtain ⟨A, cn, rfl, -⟩ := hN
        have hfb := HFD.out i b hb
        have kb : wr.cell? ⟨b, 0, none⟩ = some (.slice A x.now.length cn) := (hB.safe HS.out hfb).cell 0
        have hl := look_yes (ownsMap_same HO.out hmn) HE.out HLtt.out hg hb 0
        rw [drewN0] at hl
        have hla : lenAt d.nodes d.now c.tt = x.now.length := by unfold lenAt; rw [hg]; show (d.nodes.getD i nd0).now.length = _; rw [List.getD_eq_getElem?_getD, hx]; rfl
        have hsub : subC d c c.tt = x.now.length := by unfold subC; rw [if_pos (.inr rfl), hla]
        have hle : x.now.length ≤ u := by
          have h1 := HU.out
          have h2 := HUE.out
          simp at h1
          omega
        have hul : u ≤ 1000000000000 := by have h1 := HU.out; have h2 := HUB.out; simp at h1; omega
        have HU2 : Hid (u - x.now.length + (if 1 ≤ 1 then subC d c c.tt else 0) + (if 2 ≤ 1 then subC d c c.fr else 0) = usedM d) := Lib.hid (by
          have h1 := HU.out
          simp at h1
          simp
          omega)
        have e1 : (u : Int) - (x.now.length : Int) = ((u - x.now.length : Nat) : Int) := by omega
        have hw1 : IntKind.i64.wrap ((u : Int) - (x.now.length : Int)) = ((u - x.now.length : Nat) : Int) := by rw [e1]; exact IntWalk.i64_in _ (by omega)
        have HC2 : Hid (Blk (wr.setCell ⟨db, 1, none⟩ (.int .i64 ((u - x.now.length : Nat) : Int))).drew db 69 (q.cellsU d (u - x.now.length))) := Lib.hid (HC.out.set_ 1 _)
        have HX2 : Hid (Blk (wr.setCell ⟨db, 1, none⟩ (.int .i64 ((u - x.now.length : Nat) : Int))).drew w.heap.size 80 (chA c pc)) := Lib.hid (HX.out.far (p := ⟨db, 1, none⟩) (by show w.heap.size ≠ db; omega) _)
        have HY2 : Hid (Blk (wr.setCell ⟨db, 1, none⟩ (.int .i64 ((u - x.now.length : Nat) : Int))).drew (w.heap.size + 1) 9 #[.string (bs c.tt), .string (bs c.fr)]) := Lib.hid (HY.out.far (p := ⟨db, 1, none⟩) (by show w.heap.size + 1 ≠ db; omega) _)
        have HS2 : Hid (Safe (fun k => k < w.heap.size ∧ k ≠ db) w (wr.setCell ⟨db, 1, none⟩ (.int .i64 ((u - x.now.length : Nat) : Int))).drew) := Lib.hid ((HS.out.set_ (p := ⟨db, 1, none⟩) (fun h => h.2 rfl) _).drewN 1)
        clear hg hmn hB hx hb hla hfb e1 hsub HU
        generalize x.now.length = xl at *
        cases hk2 : (c.kind == 3)
        all_goals
          go_wp2_with fail
          go_region
          all_goals
            go_wp2_with fail
            go_roundg (gk - 1)
            case rel => exact ⟨1, u - xl, by go_num, by omega, HU2, HC2, HX2, HY2, HS2⟩
            case measure => omega
    · by_cases hj1 : j = 1
      · subst hj1
        have k0 : wr.cell? ⟨w.heap.size + 1, 1, none⟩ = some (.string (bs c.fr)) := HY.out.cell 1
        have c4 : wr.cell? ⟨db, 4, none⟩ = some (.map (some q.mn)) := HC.out.cell 4
        have c1 : wr.cell? ⟨db, 1, none⟩ = some (.int .i64 (u : Int)) := HC.out.cell 1
        have fc1 := HC.out.frozen 1
        have x0 : wr.cell? ⟨w.heap.size, 0, none⟩ = some (.int .i64 c.kind) := HX.out.cell 0
        have x2 : wr.cell? ⟨w.heap.size, 2, none⟩ = some (.string (bs c.tt)) := HX.out.cell 2
        have hmn := HS.out.block q.mn HMN.out
        cases hg : getE d.now c.fr with
        | none =>
          have hl := look_no (ownsMap_same HO.out hmn) HE.out HLfr.out hg 0
          rw [drewN0] at hl
          have HU2 : Hid (u + (if 1 ≤ 2 then subC d c c.tt else 0) + (if 2 ≤ 2 then subC d c c.fr else 0) = usedM d) := Lib.hid (by have := HU.out; simp only [subC, lenAt, hg] at this ⊢; simpa using this)
          clear hg hmn
          go_wp2_with fail
          go_roundg (gk - 1)
          case rel => exact ⟨2, u, by go_num, by omega, HU2, HC, HX, HY, HS⟩
          case measure => omega
        | some i =>
          obtain ⟨b, x, hb, hx, hF⟩ := HFI.out c.fr i hg
          obtain ⟨vn, gn, vl, gl, vw, gw, vs, hB, hN, -⟩ := hF.ex
          obtain ⟨A, cn, rfl, -⟩ := hN
          have hfb := HFD.out i b hb
          have kb : wr.cell? ⟨b, 0, none⟩ = some (.slice A x.now.length cn) := (hB.safe HS.out hfb).cell 0
          have hl := look_yes (ownsMap_same HO.out hmn) HE.out HLfr.out hg hb 0
          rw [drewN0] at hl
          have hla : lenAt d.nodes d.now c.fr = x.now.length := by unfold lenAt; rw [hg]; show (d.nodes.getD i nd0).now.length = _; rw [List.getD_eq_getElem?_getD, hx]; rfl
          by_cases hk : c.kind = 3
          · have hk2 : (c.kind == 3) = true := by simpa using hk
            have hsub : subC d c c.fr = x.now.length := by unfold subC; rw [if_pos (.inl hk), hla]
            have hle : x.now.length ≤ u := by
              have h1 := HU.out
              have h2 := HUE.out
              simp at h1
              omega
            have hul : u ≤ 1000000000000 := by have h1 := HU.out; have h2 := HUB.out; simp at h1; omega
            have HU2 : Hid (u - x.now.length + (if 1 ≤ 2 then subC d c c.tt else 0) + (if 2 ≤ 2 then subC d c c.fr else 0) = usedM d) := Lib.hid (by
              have h1 := HU.out
              simp at h1
              simp
              omega)
            have e1 : (u : Int) - (x.now.length : Int) = ((u - x.now.length : Nat) : Int) := by omega
            have hw1 : IntKind.i64.wrap ((u : Int) - (x.now.length : Int)) = ((u - x.now.length : Nat) : Int) := by rw [e1]; exact IntWalk.i64_in _ (by omega)
            have HC2 : Hid (Blk (wr.setCell ⟨db, 1, none⟩ (.int .i64 ((u - x.now.length : Nat) : Int))).drew db 69 (q.cellsU d (u - x.now.length))) := Lib.hid (HC.out.set_ 1 _)
            have HX2 : Hid (Blk (wr.setCell ⟨db, 1, none⟩ (.int .i64 ((u - x.now.length : Nat) : Int))).drew w.heap.size 80 (chA c pc)) := Lib.hid (HX.out.far (p := ⟨db, 1, none⟩) (by show w.heap.size ≠ db; omega) _)
            have HY2 : Hid (Blk (wr.setCell ⟨db, 1, none⟩ (.int .i64 ((u - x.now.length : Nat) : Int))).drew (w.heap.size + 1) 9 #[.string (bs c.tt), .string (bs c.fr)]) := Lib.hid (HY.out.far (p := ⟨db, 1, none⟩) (by show w.heap.size + 1 ≠ db; omega) _)
            have HS2 : Hid (Safe (fun k => k < w.heap.size ∧ k ≠ db) w (wr.setCell ⟨db, 1, none⟩ (.int .i64 ((u - x.now.length : Nat) : Int))).drew) := Lib.hid ((HS.out.set_ (p := ⟨db, 1, none⟩) (fun h => h.2 rfl) _).drewN 1)
            clear hg hmn hB hx hb hla hfb e1 hsub HU
            generalize x.now.length = xl at *
            clear hk
            all_goals
              go_wp2_with fail
              go_region
              all_goals
                go_wp2_with fail
                go_roundg (gk - 1)
                case rel => exact ⟨2, u - xl, by go_num, by omega, HU2, HC2, HX2, HY2, HS2⟩
                case measure => omega
          · have hne : ¬ c.fr = c.tt := fun h => HNF.out hk i hg h
            have HU2 : Hid (u + (if 1 ≤ 2 then subC d c c.tt else 0) + (if 2 ≤ 2 then subC d c c.fr else 0) = usedM d) := Lib.hid (by
              have h1 := HU.out
              have hsub : subC d c c.fr = 0 := by unfold subC; rw [if_neg (by rintro (h | h); exact hk h; exact hne h)]
              simp at h1
              simp
              omega)
            have hk2 : (c.kind == 3) = false := by simpa using hk
            have hne2 : ((bs c.fr).toList == (bs c.tt).toList) = false := str_ne fun h => hne (bs_inj h)
            clear hg hmn hB hx hb hla hfb HU hk hne
            go_wp2_with fail
            go_roundg (gk - 1)
            case rel => exact ⟨2, u, by go_num, by omega, HU2, HC, HX, HY, HS⟩
            case measure => omega
      · obtain rfl : j = 2 := by omega
        have hun : usedM (enterM d c) = u := by have h1 := HU.out; have h2 := HUE.out; simp at h1; omega
        have HUN := Lib.hid hun
        have HO5 := Lib.hid (ownsMap_same HO.out (HS.out.block q.mn HMN.out))
        have KD : Hid (∀ W : World, W.heap = wr.heap → Calls Tryz.prog 84 #[.agg (chA c pc), .map (some q.mn)] W (ChgPost W q.mn q.nn (didE d.now c) q.bl)) := Lib.hid fun W hW =>
          chdo_walk W q.mn q.nn q.Dn d.now q.bl (ownsMap_same HO5.out (by rw [hW])) HE.out HW.out.sn (fun e he => by rw [HP.out.rest.len]; exact HW.out.iln e he) (by omega) c pc HOC.out (fun k => (H1.out k).2.2) H0.out H2.out HLfr.out HLtt.out
        have x0 : wr.cell? ⟨w.heap.size, 0, none⟩ = some (.int .i64 c.kind) := HX.out.cell 0
        have x1 : wr.cell? ⟨w.heap.size, 1, none⟩ = some (.string (bs c.fr)) := HX.out.cell 1
        have x2 : wr.cell? ⟨w.heap.size, 2, none⟩ = some (.string (bs c.tt)) := HX.out.cell 2
        have x3 : wr.cell? ⟨w.heap.size, 3, none⟩ = some pc := HX.out.cell 3
        have x0d : wr.drew.cell? ⟨w.heap.size, 0, none⟩ = some (.int .i64 c.kind) := x0
        have x1d : wr.drew.cell? ⟨w.heap.size, 1, none⟩ = some (.string (bs c.fr)) := x1
        have x2d : wr.drew.cell? ⟨w.heap.size, 2, none⟩ = some (.string (bs c.tt)) := x2
        have x3d : wr.drew.cell? ⟨w.heap.size, 3, none⟩ = some pc := x3
        have c4 : wr.cell? ⟨db, 4, none⟩ = some (.map (some q.mn)) := HC.out.cell 4
        have c4d : wr.drew.cell? ⟨db, 4, none⟩ = some (.map (some q.mn)) := c4
        unfold chA at KD
        clear hun HU
        go_upto_region 8 with fail
        go_region_law (refine step_calls rfl #[.tmp 56, .tmp 60] #[80, 65] (by rfl) Tryz.func84 (by kernel_rfl) (by kernel_rfl) #[.agg #[.int .i64 c.kind, .string (bs c.fr), .string (bs c.tt), pc], .map (some q.mn)] (by simp [Act.eval, Act.put]) (KD.out wr.drew rfl) ?_; rintro e1 w5 ⟨D5, n5, hO5, hn5, hE5, hk5, hs5, ho5, ht5, hp5, rfl⟩; refine ⟨_, rfl, ?_⟩; have HO6 := Lib.hid hO5; have HN5 := Lib.hid hn5; have HE5 := Lib.hid hE5; have HK5 := Lib.hid hk5; have HS5 := Lib.hid hs5; have HF5 := Lib.hid (show w5.os = wr.os ∧ w5.tape = wr.tape ∧ w5.output = wr.output from ⟨ho5, ht5, hp5⟩); clear hO5 hn5 hE5 hk5 hs5 ho5 ht5 hp5)
        all_goals
          go_upto_region 9 with fail
          have hs5 : wr.heap.size ≤ w5.heap.size := HS5.out
          have hws := HS.out.size
          have hsx := HX.out.lt
          have hgc : ∀ k, q.gc = some k → k < w.heap.size ∧ k ≠ db ∧ k ≠ q.mn := fun k e => ⟨HP.out.rest.chs.lt e, fun e2 => by have h1 := HP.out.rest.mc k e; rw [e2, HP.out.mark] at h1; simp at h1, fun e2 => by have h1 := HP.out.rest.mc k e; rw [e2, HP.out.rest.mkn] at h1; simp at h1⟩
          have HGC := Lib.hid hgc
          have hold : ∀ k, k < w.heap.size → k ≠ db → k ≠ q.mn → w5.heap[k]? = w.heap[k]? := fun k h1 h2 h3 => (HK5.out k (show k < wr.heap.size by omega) h3).trans (HS.out.block k ⟨h1, h2⟩)
          have HOLD := Lib.hid hold
          have HX5 := Lib.hid (HX.out.at_ (HK5.out _ hsx (fun e => by have := HMN.out.1; omega)))
          have HC5 := Lib.hid (HC.out.at_ (HK5.out _ HC.out.lt (fun e => HMN.out.2 e.symm)))
          have HW5 := Lib.hid (HP.out.rest.chs.same (by omega) fun k e => hold k (hgc k e).1 (hgc k e).2.1 (hgc k e).2.2)
          have HGO : Hid (w5.os = w.os ∧ w5.tape = w.tape ∧ w5.output = w.output ∧ w.heap.size ≤ w5.heap.size) := Lib.hid ⟨HF5.out.1.trans HS.out.os, HF5.out.2.1.trans HS.out.tape, HF5.out.2.2.trans HS.out.output, by omega⟩
          obtain ⟨Aw, nw, cw, ew, hxw, hnw, hmw⟩ := HW5.out.sl
          have c6 : w5.cell? ⟨db, 6, none⟩ = some (.slice Aw nw cw) := by rw [← ew]; exact HC5.out.cell 6
          have fc6 := HC5.out.frozen 6
          have x0 : w5.cell? ⟨w.heap.size, 0, none⟩ = some (.int .i64 c.kind) := HX5.out.cell 0
          have x1 : w5.cell? ⟨w.heap.size, 1, none⟩ = some (.string (bs c.fr)) := HX5.out.cell 1
          have x2 : w5.cell? ⟨w.heap.size, 2, none⟩ = some (.string (bs c.tt)) := HX5.out.cell 2
          have x3 : w5.cell? ⟨w.heap.size, 3, none⟩ = some pc := HX5.out.cell 3
          have HLW : Hid ((d.waits.map (chC q.bl)).flatten.length ≤ 40000) := Lib.hid (by rw [flat_len (chs_all _ _), List.length_map]; have := HW.out.wk; omega)
          have HPC := Lib.hid (pc_one HOC.out H1.out H0.out)
          rw [ew] at HW5
          have HEW := Lib.hid ew
          have kd6 : (w5.alloc (.cells #[.int .i64 c.kind, .string (bs c.fr), .string (bs c.tt), pc] 80)).drew.cell? ⟨db, 6, none⟩ = some (.slice Aw nw cw) := by rw [← ew]; exact (HC5.out.alloc _).cell 6
          have HA6 : Hid (OwnX 4 (w5.alloc (.cells #[.int .i64 c.kind, .string (bs c.fr), .string (bs c.tt), pc] 80)).drew q.gc (.slice Aw nw cw) (d.waits.map (chC q.bl)).flatten) := Lib.hid (show OwnX 4 (w5.alloc (.cells #[.int .i64 c.kind, .string (bs c.fr), .string (bs c.tt), pc] 80)) q.gc _ _ from HW5.out.below ((Below.refl w5.heap.size w5).alloc (Nat.le_refl _) (.cells #[.int .i64 c.kind, .string (bs c.fr), .string (bs c.tt), pc] 80)) fun k hk => HW5.out.lt hk)
          clear hs5 hws hsx hgc hold ew hxw hnw hmw x0d x1d x2d x3d c4 c4d KD
          go_region_law (refine step_appX (P := Tryz.prog) _ rfl uxC (.tmp 66) (.tmp 68) rfl (by rfl) HA6.out (some ⟨w5.heap.size, 0, none⟩) 1 1 (by rfl) [.int .i64 c.kind, .string (bs c.fr), .string (bs c.tt), pc] rfl (fun h => by cases h) (news_of w5 80 [.int .i64 c.kind, .string (bs c.fr), .string (bs c.tt), pc]) HPC.out (by have := HLW.out; omega) ?_; intro v7 g7 w7 hX7 hG7 ho7; obtain ⟨A7, n7, c7, rfl, -⟩ := hX7.sl; have HX7 := Lib.hid hX7; have HG7 := Lib.hid hG7; have HO7 := Lib.hid ho7; have hB7 := (show Blk (w5.alloc (.cells #[.int .i64 c.kind, .string (bs c.fr), .string (bs c.tt), pc] 80)).drew db _ _ from HC5.out.alloc _).grown hG7 (fun e => (HGC.out db e.symm).2.1 rfl); have k7 : w7.cell? ⟨db, 6, none⟩ = some q.vc := hB7.cell 6; have fk7 := hB7.frozen 6; have HB7 := Lib.hid hB7; clear hX7 hG7 ho7 hB7)
          all_goals
            go_wp2
            refine bodyPost_ret (res0 rfl _ _ _) rfl ?_
            have hd := ent_end HP.out HOLD.out HGO.out HO6.out HN5.out hn9 HE5.out HC5.out HUN.out HEW.out HX7.out (pc_same H1.out H0.out) HG7.out HO7.out
            exact ⟨_, ⟨_, hd.1⟩, hd.2, rfl⟩
end Go.Proofs.YtbpooaicmjkemaaGreatDoor
