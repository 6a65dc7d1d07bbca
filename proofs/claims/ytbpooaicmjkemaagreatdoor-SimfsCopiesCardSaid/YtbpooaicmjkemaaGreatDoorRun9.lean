/-
  Several texts in one (merge.py): SfLast, SfMk. Conditions: each part names its own.
-/
import Derived.Test.YtbpooaicmjkemaaGreatDoorSfCrt
import Derived.Laws.MakeOwn
/-! The walk of the program's last: some entry changes last. Conditions: the lengths. -/
namespace Go.Proofs.YtbpooaicmjkemaaGreatDoor
open Go.RowKit Go.Maps
set_option linter.unusedVariables false
/-- bools that lie in memory -/
def RBo (w : World) (A : Option Addr) (l : List Bool) : Prop := l = [] ∨ ∃ b off, A = some ⟨b, off, none⟩ ∧ ∀ i x, l[i]? = some x → w.cell? ⟨b, off + i, none⟩ = some (.bool x)
theorem own_nocell {P : Program} {k : TypeId} {R : Value → Option (DataW Unit × List MemPlace)} {w : World} {b n : Nat} {D : DataW Unit} (h : w.ownsMap P k R b n D) (i : Nat) : w.cell? ⟨b, i, none⟩ = none := by
  obtain ⟨es, clock, hb, -⟩ := h
  unfold World.cell?
  simp [hb]
/-- a change as it lies in the row of those that wait -/
theorem ch_at {w : World} {g : Option Nat} {A : Option Addr} {n c : Nat} {bl : List Nat} {cs : List Ch} (h : OwnX 4 w g (.slice A n c) (cs.map (chC bl)).flatten) : n = cs.length ∧ n ≤ c ∧ c ≤ maxLen ∧ ∀ (j : Nat) (x : Ch), cs[j]? = some x → ∃ b off, g = some b ∧ A = some ⟨b, off, none⟩ ∧ b < w.heap.size ∧
    w.cell? ⟨b, off + j * 4, none⟩ = some (.int .i64 x.kind) ∧ w.cell? ⟨b, off + j * 4 + 1, none⟩ = some (.string (bs x.fr)) ∧ w.cell? ⟨b, off + j * 4 + 2, none⟩ = some (.string (bs x.tt)) ∧ w.cell? ⟨b, off + j * 4 + 3, none⟩ = some (chP bl x) := by
  obtain ⟨e1, e2, e3⟩ := h.count (by decide) (chs_all bl cs)
  rw [List.length_map] at e1
  refine ⟨e1, e2, e3, fun j x hx => ?_⟩
  have hr : (cs.map (chC bl))[j]? = some (chC bl x) := by rw [List.getElem?_map, hx]; rfl
  obtain ⟨-, -, -, -, b, off, rfl, rfl, hlt, hc⟩ := h.elem (by decide) (chs_all bl cs) hr
  exact ⟨b, off, rfl, rfl, hlt, (hc 0 (by decide)).1, (hc 1 (by decide)).1, (hc 2 (by decide)).1, (hc 3 (by decide)).1⟩
/-! ### what is chosen of the first so many -/
def lastL (d : Dk) (br : List Bool) (j : Nat) : Es := didAll d.lasts (selC ((d.waits.zip br).take j))
def lastR (d : Dk) (br : List Bool) (j : Nat) : List Ch := rstC ((d.waits.zip br).take j)
theorem selC_append (a b : List (Ch × Bool)) : selC (a ++ b) = selC a ++ selC b := by
  unfold selC
  simp [List.filter_append]
theorem rstC_append (a b : List (Ch × Bool)) : rstC (a ++ b) = rstC a ++ rstC b := by
  unfold rstC
  simp [List.filter_append]
section
variable {d : Dk} {K : Nat} {br : List Bool} {j : Nat} {c : Ch} {b : Bool}
theorem last_take (hc : d.waits[j]? = some c) (hb : br[j]? = some b) : (d.waits.zip br).take (j + 1) = (d.waits.zip br).take j ++ [(c, b)] := by
  have hx : (d.waits.zip br)[j]? = some (c, b) := by rw [List.getElem?_zip_eq_some]; exact ⟨hc, hb⟩
  obtain ⟨h1, h2⟩ := List.getElem?_eq_some_iff.1 hx
  rw [List.take_succ_eq_append_getElem h1, h2]
theorem last_yes (hc : d.waits[j]? = some c) (hb : br[j]? = some true) : lastL d br (j + 1) = didE (lastL d br j) c ∧ lastR d br (j + 1) = lastR d br j := by
  unfold lastL lastR
  rw [last_take hc hb, selC_append, rstC_append, didAll_append]
  exact ⟨rfl, List.append_nil _⟩
theorem last_no (hc : d.waits[j]? = some c) (hb : br[j]? = some false) : lastL d br (j + 1) = lastL d br j ∧ lastR d br (j + 1) = lastR d br j ++ [c] := by
  unfold lastL lastR
  rw [last_take hc hb, selC_append, rstC_append, didAll_append]
  exact ⟨rfl, rfl⟩
theorem last_val (hw : Wf d K) (hlen : br.length = d.waits.length) (hcl : ClosedC (d.waits.zip br)) (hc : d.waits[j]? = some c) (hb : br[j]? = some true) : c.kind = 2 → getE (lastL d br j) c.fr ≠ none := by
  have hm : (d.waits.zip br).map (·.1) = d.waits := by rw [List.map_fst_zip]; omega
  have h1 := (closed_split (x := d.waits.zip br) hw.sl hw.l0 (fun x hx => hw.oc _ (by have := List.mem_map_of_mem (f := (·.1)) hx; rwa [hm] at this)) hcl (by rw [hm]; exact hw.va)).1
  have h2 : d.waits.zip br = (d.waits.zip br).take (j + 1) ++ (d.waits.zip br).drop (j + 1) := (List.take_append_drop _ _).symm
  rw [h2, selC_append, last_take hc hb, selC_append, List.append_assoc, List.append_assoc, List.append_assoc] at h1
  have h3 := (ValidC.append.1 h1).2
  exact h3.1
theorem last_full (hlen : br.length = d.waits.length) (hj : d.waits.length ≤ j) : ({ d with lasts := lastL d br j, waits := lastR d br j } : Dk) = lastM d br := by
  unfold lastL lastR lastM
  rw [List.take_of_length_le (by rw [List.length_zip]; omega)]
theorem last_sort (hw : Wf d K) : sortE (lastL d br j) := sort_didAll _ hw.sl
theorem sel_mem {x : List (Ch × Bool)} {c : Ch} (h : c ∈ selC x) : c ∈ x.map (·.1) := by
  obtain ⟨z, hz, rfl⟩ := List.mem_map.1 h
  exact List.mem_map_of_mem (List.mem_filter.1 hz).1
theorem last_il (hw : Wf d K) : ∀ e ∈ lastL d br j, e.2 < d.nodes.length := mem_didAll hw.il fun c hc => hw.iw c (by
  have h1 := sel_mem hc
  obtain ⟨x, hx, rfl⟩ := List.mem_map.1 h1
  exact (List.of_mem_zip (List.mem_of_mem_take hx)).1)
theorem lastR_le : (lastR d br j).length ≤ d.waits.length := by
  unfold lastR rstC
  rw [List.length_map]
  refine Nat.le_trans (List.length_filter_le _ _) ?_
  rw [List.length_take, List.length_zip]
  omega
end
def LastPost (z : Nat) (w : World) (own : Nat → Nat × Nat) (db : Nat) (d' : Dk) (e : Ending) (w' : World) : Prop := EntPost z w own db d' e w'
theorem last_end {z db : Nat} {w w8 : World} {own : Nat → Nat × Nat} {d : Dk} {q : DParts} (h : DSt z w own db d q) (hs : Safe (fun k => k < w.heap.size ∧ k ≠ q.ml) w w8) {n' : Nat} {D' : DataW Unit} {L' : Es} {R' : List Ch} (hO : w8.ownsMap Tryz.prog 9 ptrElem q.ml n' D') (hn : n' ≤ 1000000)
    (hE : MapE D' L' q.bl) {g4 : Option Nat} {v4 : Value} (hX : OwnX 4 w8 g4 v4 (R'.map (chC q.bl)).flatten) (hg4 : ∀ k, g4 = some k → w.heap.size ≤ k) :
    EntPost z w own db { d with lasts := L', waits := R' } (.returned (.tuple #[])) (w8.setCell ⟨db, 6, none⟩ v4) := by
  have r := h.rest
  have hdm := h.mark
  have hdw := h.blk.lt
  have hsz := hs.size
  have hsW : (w8.setCell ⟨db, 6, none⟩ v4).heap.size = w8.heap.size := by simp
  have hml : q.ml ≠ db := fun e => by have := r.mkl; rw [e, hdm] at this; simp at this
  have st : ∀ k, k < w.heap.size → k ≠ q.ml → k ≠ db → (w8.setCell ⟨db, 6, none⟩ v4).heap[k]? = w.heap[k]? := fun k h1 h2 h3 => (Below.heap_setCell w8 ⟨db, 6, none⟩ v4 k h3).trans (hs.block k ⟨h1, h2⟩)
  have st0 : ∀ k, k < w.heap.size → own k ≠ (10 * z + 1, 0) → own k ≠ (10 * z + 1, 3) → (w8.setCell ⟨db, 6, none⟩ v4).heap[k]? = w.heap[k]? := fun k h1 h2 h3 => st k h1 (fun e => h3 (by rw [e]; exact r.mkl)) (fun e => h2 (by rw [e]; exact hdm))
  have hg : Goes (fun t => t ≠ (10 * z + 1, 0) ∧ t ≠ (10 * z + 1, 3)) w (w8.setCell ⟨db, 6, none⟩ v4) own (newM w own fun k => if g4 = some k then (10 * z + 1, 4) else (0, 0)) :=
    ⟨by rw [hsW]; omega, fun k h1 ⟨h2, h3⟩ => ⟨st0 k h1 h2 h3, newM_old h1⟩⟩
  have hfz : (fun t : Nat × Nat => t ≠ (10 * z + 1, 0) ∧ t ≠ (10 * z + 1, 3)) frz := by unfold frz; exact ⟨by simp, by simp⟩
  have m1 : ∀ k, q.gf = some k → own k ≠ (10 * z + 1, 0) ∧ own k ≠ (10 * z + 1, 3) := fun k e => by rw [r.mf k e]; exact ⟨by simp, by simp⟩
  have m2 : own q.mn ≠ (10 * z + 1, 0) ∧ own q.mn ≠ (10 * z + 1, 3) := by rw [r.mkn]; exact ⟨by simp, by simp⟩
  refine ⟨_, ⟨{ q with nl := n', Dl := D', vc := v4, gc := g4 }, ⟨?_, (newM_old hdw).trans hdm, ⟨r.dirs.goes hg hfz, r.files.same hg.size fun g e => (hg.block g (r.files.lt e) (m1 g e)).1, fun k e => (hg.block k (r.files.lt e) (m1 k e)).2.trans (r.mf k e), r.len, (newM_old r.on.lt).trans r.mkn, ownsMap_same r.on (hg.block _ r.on.lt m2).1, r.en, (newM_old r.ol.lt).trans r.mkl, ownsMap_same hO (Below.heap_setCell w8 ⟨db, 6, none⟩ v4 _ hml), hE, ?_, fun k e => ?_, fun i b x hb hx => (r.fs i b x hb hx).goes hg hfz fun t ht => ⟨(by rintro rfl; have := ht.1.1; simp at this), (by rintro rfl; have := ht.1.1; simp at this)⟩, r.bn, hn⟩⟩⟩, ?_, rfl⟩
  · have h1 := (h.blk.safe hs ⟨hdw, fun e => hml e.symm⟩).set_ 6 v4
    unfold DParts.cells at h1 ⊢
    exact h1
  · refine OwnX.same hX (by rw [hsW]; exact Nat.le_refl _) fun k e => Below.heap_setCell w8 ⟨db, 6, none⟩ v4 k ?_
    have := hg4 k e
    show k ≠ db; omega
  · rw [newM_new (hg4 k e)]; exact if_pos e
  · exact ⟨hs.os, hs.tape, hs.output, by rw [hsW]; omega, fun k h1 h2 => st0 k h1 (fun e => h2 (by rw [e]; exact ⟨by simp, by simp⟩)) (fun e => h2 (by rw [e]; exact ⟨by simp, by simp⟩)), fun k h1 _ => newM_old h1⟩
theorem chP_ptr (bl : List Nat) (c : Ch) : ∃ P, chP bl c = .pointer P := by
  unfold chP
  split <;> exact ⟨_, rfl⟩
theorem Wf.wlen {d : Dk} {K : Nat} (hw : Wf d K) {c : Ch} (hc : c ∈ d.waits) : c.fr.length ≤ 65 ∧ c.tt.length ≤ 65 := by
  obtain ⟨h1, h2⟩ := hw.mw c hc
  constructor
  · by_cases h : c.fr = []
    · rw [h]; simp
    · exact hw.size (h1 h)
  · by_cases h : c.tt = []
    · rw [h]; simp
    · exact hw.size (h2 h)
set_option maxRecDepth 100000 in
set_option maxHeartbeats 4000000 in
theorem last_walk (z : Nat) (w : World) (own : Nat → Nat × Nat) (db : Nat) (d : Dk) (q : DParts) (h : DSt z w own db d q) {K : Nat} (hw : Wf d K) (hK : K ≤ 10000) (hnl : q.nl ≤ 100000) (br : List Bool) (Ab : Option Addr) (nb cb : Nat) (hnb : br.length = nb) (hlen : br.length = d.waits.length)
    (hcl : ClosedC (d.waits.zip br)) (hr : RBo w Ab br) :
    Calls Tryz.prog 43 #[ptrV db, .slice Ab nb cb] w (EntPost z w own db (lastM d br)) := by
  have HP := Lib.hid h
  have HW := Lib.hid hw
  have HLE := Lib.hid hlen
  have HCL := Lib.hid hcl
  obtain ⟨A, n, c, ev, -⟩ := h.rest.chs.sl
  have hX := h.rest.chs
  rw [ev] at hX
  obtain ⟨hn, hnc, hm, hat⟩ := ch_at hX
  have hgm : ∀ k, q.gc = some k → k ≠ q.ml := fun k e e2 => by have h1 := h.rest.mc k e; rw [e2, h.rest.mkl] at h1; simp at h1
  have hat2 : ∀ (j : Nat) (x : Ch), d.waits[j]? = some x → ∃ b off, A = some ⟨b, off, none⟩ ∧ (b < w.heap.size ∧ b ≠ q.ml) ∧
    w.cell? ⟨b, off + j * 4, none⟩ = some (.int .i64 x.kind) ∧ w.cell? ⟨b, off + j * 4 + 1, none⟩ = some (.string (bs x.fr)) ∧ w.cell? ⟨b, off + j * 4 + 2, none⟩ = some (.string (bs x.tt)) ∧ w.cell? ⟨b, off + j * 4 + 3, none⟩ = some (chP q.bl x) := fun j x hx => by
    obtain ⟨b, off, e1, e2, e3, e4⟩ := hat j x hx
    exact ⟨b, off, e2, ⟨e3, hgm b e1⟩, e4⟩
  have HAT := Lib.hid hat2
  have HBR : Hid (∀ j x, br[j]? = some x → ∃ b off, Ab = some ⟨b, off, none⟩ ∧ (b < w.heap.size ∧ b ≠ q.ml) ∧ w.cell? ⟨b, off + j, none⟩ = some (.bool x)) := Lib.hid fun j x hx => by
    rcases hr with rfl | ⟨b, off, rfl, hc⟩
    · cases hx
    · have h1 := hc j x hx
      exact ⟨b, off, rfl, ⟨World.block_lt_of_cell? _ _ h1, fun e => by rw [e, own_nocell h.rest.ol] at h1; cases h1⟩, h1⟩
  have k6 : w.cell? ⟨db, 6, none⟩ = some (.slice A n c) := by rw [← ev]; exact h.blk.cell 6
  have HN := Lib.hid hn
  have HNB : Hid (nb = n) := Lib.hid (by omega)
  have hn1 : n ≤ 10000 := by have := hw.wk; omega
  have hdb := h.blk.lt
  have hmlb : q.ml ≠ db := fun e => by have := h.rest.mkl; rw [e, h.mark] at this; simp at this
  have HMD := Lib.hid hmlb
  have HNL := Lib.hid hnl
  have HKK := Lib.hid hK
  have hF : Hid (lastM d br = { d with lasts := lastL d br n, waits := lastR d br n }) := Lib.hid (last_full hlen (by omega)).symm
  obtain rfl : nb = n := HNB.out
  unfold ptrV
  clear h hw hnb hlen hcl hr ev hX hn hm hat hgm hat2 hmlb HNB hK hnl
  go_enter Tryz.func43, Tryz.ntmps43
  go_wp2_with fail
  go_loopg [4, 5, 6, 12] nb (fun k s4 s5 s6 s12 wr => ∃ (j : Nat) (g4 : Option Nat) (D4 : DataW Unit) (n4 : Nat), s12 = .int .i64 (j : Int) ∧ j + k = nb ∧ Hid (OwnX 4 wr g4 s4 ((lastR d br j).map (chC q.bl)).flatten) ∧ Hid (∀ k, g4 = some k → w.heap.size ≤ k) ∧ Hid (wr.ownsMap Tryz.prog 9 ptrElem q.ml n4 D4) ∧ Hid (n4 ≤ q.nl + j) ∧ Hid (MapE D4 (lastL d br j) q.bl) ∧ Hid (Safe (fun k => k < w.heap.size ∧ k ≠ q.ml) w wr))
  case atStart => exact ⟨0, none, q.Dl, q.nl, rfl, by omega, Lib.hid (OwnX.nil _ _), Lib.hid (fun k e => by cases e), Lib.hid HP.out.rest.ol, Lib.hid (Nat.le_refl _), Lib.hid HP.out.rest.el, Lib.hid (Safe.refl _ _)⟩
  case round =>
    obtain ⟨j, g4, D4, n4, rfl, hj, HX, HG, HO, HN4, HE, HS⟩ := hrel
    by_cases hlt : j < nb
    · have hlt1 : (j : Int) < (nb : Int) := by omega
      obtain ⟨x, hx⟩ : ∃ x, d.waits[j]? = some x := ⟨_, List.getElem?_eq_getElem (by rw [← HN.out]; exact hlt)⟩
      obtain ⟨P, hP⟩ := chP_ptr q.bl x
      have HPP := Lib.hid hP
      obtain ⟨bv, hbv⟩ : ∃ bv, br[j]? = some bv := ⟨_, List.getElem?_eq_getElem (by rw [HLE.out, ← HN.out]; exact hlt)⟩
      obtain ⟨bb, off, rfl, hbl, c0, c1, c2, c3⟩ := HAT.out j x hx
      obtain ⟨b2, off2, rfl, hb2, d0⟩ := HBR.out j bv hbv
      have q0 : wr.cell? ⟨bb, off + j * 4, none⟩ = some (.int .i64 x.kind) := (World.cell?_of_block (HS.out.block bb hbl)).trans c0
      have q1 : wr.cell? ⟨bb, off + j * 4 + 1, none⟩ = some (.string (bs x.fr)) := (World.cell?_of_block (HS.out.block bb hbl)).trans c1
      have q2 : wr.cell? ⟨bb, off + j * 4 + 2, none⟩ = some (.string (bs x.tt)) := (World.cell?_of_block (HS.out.block bb hbl)).trans c2
      have q3 : wr.cell? ⟨bb, off + j * 4 + 3, none⟩ = some (.pointer P) := by rw [← hP]; exact (World.cell?_of_block (HS.out.block bb hbl)).trans c3
      clear c0 c1 c2 c3 hP
      have HOC := Lib.hid (HW.out.oc x (List.mem_of_getElem? hx))
      have HWL := Lib.hid (HW.out.wlen (List.mem_of_getElem? hx))
      have hW := HS.out.size
      have q5 : (wr.alloc (.cells #[.int .i64 x.kind, .string (bs x.fr), .string (bs x.tt), .pointer P] 80)).cell? ⟨db, 5, none⟩ = some (.map (some q.ml)) := (((HP.out.blk.safe HS.out ⟨hdb, fun e => HMD.out e.symm⟩).alloc _).cell 5)
      have r0 : (wr.alloc (.cells #[.int .i64 x.kind, .string (bs x.fr), .string (bs x.tt), .pointer P] 80)).cell? ⟨b2, off2 + j, none⟩ = some (.bool bv) := (World.cell?_of_block ((Below.heap_alloc wr _ b2 (by have := hb2.1; omega)).trans (HS.out.block b2 hb2))).trans d0
      have HBX := Lib.hid (Blk.new wr 80 #[.int .i64 x.kind, .string (bs x.fr), .string (bs x.tt), .pointer P])
      have x0 : (wr.alloc (.cells #[.int .i64 x.kind, .string (bs x.fr), .string (bs x.tt), .pointer P] 80)).cell? ⟨wr.heap.size, 0, none⟩ = some (.int .i64 x.kind) := HBX.out.cell 0
      have x1 : (wr.alloc (.cells #[.int .i64 x.kind, .string (bs x.fr), .string (bs x.tt), .pointer P] 80)).cell? ⟨wr.heap.size, 1, none⟩ = some (.string (bs x.fr)) := HBX.out.cell 1
      have x2 : (wr.alloc (.cells #[.int .i64 x.kind, .string (bs x.fr), .string (bs x.tt), .pointer P] 80)).cell? ⟨wr.heap.size, 2, none⟩ = some (.string (bs x.tt)) := HBX.out.cell 2
      have x3 : (wr.alloc (.cells #[.int .i64 x.kind, .string (bs x.fr), .string (bs x.tt), .pointer P] 80)).cell? ⟨wr.heap.size, 3, none⟩ = some (.pointer P) := HBX.out.cell 3
      have HS1 := Lib.hid (HS.out.below ((Below.refl wr.heap.size wr).alloc (Nat.le_refl _) (.cells #[.int .i64 x.kind, .string (bs x.fr), .string (bs x.tt), .pointer P] 80)) fun k hk => by have := hk.1; omega)
      have HO1 := Lib.hid (HO.out.alloc (.cells #[.int .i64 x.kind, .string (bs x.fr), .string (bs x.tt), .pointer P] 80))
      have HX1 := Lib.hid (HX.out.below ((Below.refl wr.heap.size wr).alloc (Nat.le_refl _) (.cells #[.int .i64 x.kind, .string (bs x.fr), .string (bs x.tt), .pointer P] 80)) fun k hk => HX.out.lt hk)
      clear hW d0
      cases bv with
      | true =>
        have HY := Lib.hid (last_yes hx hbv)
        have HV := Lib.hid (last_val HW.out HLE.out HCL.out hx hbv)
        have KD : Hid (∀ W : World, W.heap = (wr.alloc (.cells #[.int .i64 x.kind, .string (bs x.fr), .string (bs x.tt), .pointer P] 80)).heap → Calls Tryz.prog 84 #[.agg #[.int .i64 x.kind, .string (bs x.fr), .string (bs x.tt), .pointer P], .map (some q.ml)] W (ChgPost W q.ml n4 (lastL d br (j + 1)) q.bl)) := Lib.hid fun W hWe => by
          rw [HY.out.1]
          refine chdo_walk W q.ml n4 D4 _ q.bl (ownsMap_same HO1.out (by rw [hWe])) HE.out (last_sort HW.out) (fun e he => by rw [HP.out.rest.len]; exact last_il HW.out e he) (by have := HN4.out; have := HNL.out; omega) x (.pointer P) HOC.out (fun k => ?_) (fun k => ?_) HV.out (by have := HWL.out.1; unfold maxLen; omega) (by have := HWL.out.2; unfold maxLen; omega)
          · have h1 := HW.out.iw x (List.mem_of_getElem? hx) k
            rw [← HP.out.rest.len] at h1
            refine ⟨_, List.getElem?_eq_getElem h1, ?_⟩
            rw [← HPP.out]
            unfold chP
            rw [if_pos k, List.getElem?_eq_getElem h1]; rfl
          · rw [← HPP.out]
            unfold chP
            rw [if_neg k]
        have x0d : (wr.alloc (.cells #[.int .i64 x.kind, .string (bs x.fr), .string (bs x.tt), .pointer P] 80)).drew.cell? ⟨wr.heap.size, 0, none⟩ = some (.int .i64 x.kind) := x0
        have x1d : (wr.alloc (.cells #[.int .i64 x.kind, .string (bs x.fr), .string (bs x.tt), .pointer P] 80)).drew.cell? ⟨wr.heap.size, 1, none⟩ = some (.string (bs x.fr)) := x1
        have x2d : (wr.alloc (.cells #[.int .i64 x.kind, .string (bs x.fr), .string (bs x.tt), .pointer P] 80)).drew.cell? ⟨wr.heap.size, 2, none⟩ = some (.string (bs x.tt)) := x2
        have x3d : (wr.alloc (.cells #[.int .i64 x.kind, .string (bs x.fr), .string (bs x.tt), .pointer P] 80)).drew.cell? ⟨wr.heap.size, 3, none⟩ = some (.pointer P) := x3
        have q5d : (wr.alloc (.cells #[.int .i64 x.kind, .string (bs x.fr), .string (bs x.tt), .pointer P] 80)).drew.cell? ⟨db, 5, none⟩ = some (.map (some q.ml)) := q5
        clear hx hbv
        go_upto_region 5 with fail
        go_region_law (refine step_calls rfl #[.tmp 21, .tmp 25] #[80, 65] (by rfl) Tryz.func84 (by kernel_rfl) (by kernel_rfl) #[.agg #[.int .i64 x.kind, .string (bs x.fr), .string (bs x.tt), .pointer P], .map (some q.ml)] (by simp [Act.eval, Act.put]) (KD.out _ rfl) ?_; rintro e1 w5 ⟨D5, n5, hO5, hn5, hE5, hk5, hs5, ho5, ht5, hp5, rfl⟩; refine ⟨_, rfl, ?_⟩; have HO6 := Lib.hid hO5; have HN5 := Lib.hid hn5; have HE5 := Lib.hid hE5; have HK5 := Lib.hid hk5; have HS5 := Lib.hid hs5; have HF5 := Lib.hid (show w5.os = wr.os ∧ w5.tape = wr.tape ∧ w5.output = wr.output from ⟨ho5, ht5, hp5⟩); clear hO5 hn5 hE5 hk5 hs5 ho5 ht5 hp5)
        all_goals
          go_wp2_with fail
          go_roundg (gk - 1)
          case rel =>
            have hs5 : wr.heap.size + 1 ≤ w5.heap.size := by have := HS5.out; simpa using this
            have hW := HS.out.size
            have hml := HP.out.rest.ol.lt
            exact ⟨j + 1, g4, D5, n5, by go_num, by omega, Lib.hid (by rw [HY.out.2]; exact HX1.out.same (by simp; omega) fun k hk => HK5.out k (by have := HX.out.lt hk; simp; omega) (by have := HG.out k hk; omega)), HG, HO6, Lib.hid (by have := HN5.out; have := HN4.out; omega), HE5,
              Lib.hid ⟨HF5.out.1.trans HS.out.os, HF5.out.2.1.trans HS.out.tape, HF5.out.2.2.trans HS.out.output, by omega, fun k hk => (HK5.out k (by have := hk.1; simp; omega) hk.2).trans (HS1.out.block k hk)⟩⟩
          case measure => omega
      | false =>
        have HY := Lib.hid (last_no hx hbv)
        have HLR : Hid (((lastR d br j).map (chC q.bl)).flatten.length ≤ 40000) := Lib.hid (by rw [flat_len (chs_all _ _), List.length_map]; have := lastR_le (d := d) (br := br) (j := j); have := HN.out; omega)
        have hs1 : (wr.alloc (.cells #[.int .i64 x.kind, .string (bs x.fr), .string (bs x.tt), .pointer P] 80)).heap.size = wr.heap.size + 1 := by simp
        have HS2 := Lib.hid (HS1.out.below ((Below.refl _ _).alloc (Nat.le_refl _) (.cells #[.int .i64 x.kind, .string (bs x.fr), .string (bs x.tt), .pointer P] 80)) fun k hk => by have := hk.1; have := HS.out.size; simp; omega)
        have HO2 := Lib.hid (HO1.out.alloc (.cells #[.int .i64 x.kind, .string (bs x.fr), .string (bs x.tt), .pointer P] 80))
        have HX2 := Lib.hid (HX1.out.below ((Below.refl _ _).alloc (Nat.le_refl _) (.cells #[.int .i64 x.kind, .string (bs x.fr), .string (bs x.tt), .pointer P] 80)) fun k hk => HX1.out.lt hk)
        have HNW := Lib.hid (news_of (wr.alloc (.cells #[.int .i64 x.kind, .string (bs x.fr), .string (bs x.tt), .pointer P] 80)) 80 [.int .i64 x.kind, .string (bs x.fr), .string (bs x.tt), .pointer P])
        rw [hs1] at HNW
        clear hs1 hx hbv
        go_upto_region 6 with fail
        go_wp2_with (at_builtin; refine wpList_appX _ uxC (.tmp 27) (.tmp 29) rfl rfl rfl HX2.out (some ⟨wr.heap.size + 1, 0, none⟩) 1 1 rfl [.int .i64 x.kind, .string (bs x.fr), .string (bs x.tt), .pointer P] rfl (fun h => by cases h) HNW.out (fun u hu => by simp only [List.mem_cons, List.not_mem_nil, or_false] at hu; rcases hu with rfl | rfl | rfl | rfl <;> rfl) (by have := HLR.out; omega) ?_; intro v7 g7 w7 hX7 hG7 ho7; obtain ⟨A7, n7, c7, rfl, -⟩ := hX7.sl; have HX7 := Lib.hid hX7; have HG7 := Lib.hid hG7; have HO7 := Lib.hid ho7; clear hX7 hG7 ho7)
        go_roundg (gk - 1)
        case rel =>
          have hW := HS.out.size
          have hml := HP.out.rest.ol.lt
          have hg47 : ∀ k, g7 = some k → w.heap.size ≤ k := fun k e => by
            rcases HO7.out with h7 | h7
            · exact HG.out k (h7.symm.trans e)
            · rw [h7] at e
              injection e with e
              simp at e
              omega
          have hkeep : ∀ k, k < w.heap.size → w7.heap[k]? = (wr.alloc (.cells #[.int .i64 x.kind, .string (bs x.fr), .string (bs x.tt), .pointer P] 80)).heap[k]? := fun k hk =>
            (HG7.out.block k (by simp; omega) (fun e => by have := HG.out k e.symm; omega)).trans (Below.heap_alloc _ _ k (by simp; omega))
          exact ⟨j + 1, g7, D4, n4, by go_num, by omega, Lib.hid (by rw [HY.out.2, List.map_append, List.flatten_append]; simpa [chC, HPP.out] using HX7.out), Lib.hid hg47, Lib.hid (ownsMap_same HO1.out (hkeep _ hml)), Lib.hid (by have := HN4.out; omega), by rw [HY.out.1]; exact HE,
              Lib.hid ⟨HG7.out.os.trans HS2.out.os, HG7.out.tape.trans HS2.out.tape, HG7.out.output.trans HS2.out.output, Nat.le_trans HS2.out.size HG7.out.size, fun k hk => (hkeep k hk.1).trans (HS1.out.block k hk)⟩⟩
        case measure => omega
    · have hlt1 : ¬ (j : Int) < (nb : Int) := by omega
      obtain rfl : j = nb := by omega
      have hB := HP.out.blk.safe HS.out ⟨hdb, fun e => HMD.out e.symm⟩
      have k6r : wr.cell? ⟨db, 6, none⟩ = some q.vc := hB.cell 6
      have f6r := hB.frozen 6
      obtain ⟨A4, n4', c4, rfl, -⟩ := HX.out.sl
      have HN5 : Hid (n4 ≤ 1000000) := Lib.hid (by have := HN4.out; have := HNL.out; omega)
      clear hB
      go_wp2_with fail
      refine bodyPost_ret (res0 rfl _ _ _) rfl ?_
      rw [hF.out]
      exact last_end HP.out HS.out HO.out HN5.out HE.out HX.out HG.out
end Go.Proofs.YtbpooaicmjkemaaGreatDoor

/-! Rows of bools that are made; what a directory's sync brings, change by change. No condition. -/
namespace Go.Proofs.YtbpooaicmjkemaaGreatDoor
open Go.RowKit Go.Maps
set_option linter.unusedVariables false
def boA (L : List Bool) : Array Value := (L.map Value.bool).toArray
def BoB (w : World) (g : Nat) (L : List Bool) : Prop := Blk w g 4 (boA L)
theorem BoB.cell {w : World} {g : Nat} {L : List Bool} (h : BoB w g L) {j : Nat} {x : Bool} (hx : L[j]? = some x) : w.cell? ⟨g, j, none⟩ = some (.bool x) := by
  have := Blk.cell h j
  rw [this]
  unfold boA
  simp [hx]
theorem BoB.free {w : World} {g : Nat} {L : List Bool} (h : BoB w g L) (j : Nat) : w.frozen? ⟨g, j, none⟩ = false := Blk.frozen h j
theorem BoB.set_ {w : World} {g : Nat} {L : List Bool} (h : BoB w g L) (j : Nat) (x : Bool) : BoB (w.setCell ⟨g, j, none⟩ (.bool x)) g (L.set j x) := by
  have := Blk.set_ h j (.bool x)
  have e : (boA L).setIfInBounds j (.bool x) = boA (L.set j x) := by
    unfold boA
    rw [List.setIfInBounds_toArray, List.map_set]
  unfold BoB
  rw [← e]
  exact this
theorem BoB.row {w : World} {g : Nat} {L : List Bool} (h : BoB w g L) : RBo w (some ⟨g, 0, none⟩) L := .inr ⟨g, 0, rfl, fun i x hx => by rw [Nat.zero_add]; exact h.cell hx⟩
theorem made_bo (n : Nat) : madeCells #[.bool false] n = boA (List.replicate n false) := by
  unfold madeCells boA
  apply Array.ext
  · simp
  · intro i h1 h2
    simp [Nat.mod_one]
theorem mk_bo (w : World) (n : Nat) (hn : n ≤ 1000000) : (Instr.makeSlice 23 (.int .i64 (n : Int)) (.int .i64 (n : Int))).run Tryz.prog w = .ok (.slice (some ⟨w.heap.size, 0, none⟩) n n) (w.alloc (.cells (boA (List.replicate n false)) 4)) := by
  obtain ⟨i, h1, h2, h3, h4⟩ := info_parts (show (Tryz.prog.info? 4).map (fun i => (i.zero, i.size, i.bytes)) = some (some (.bool false), 1, 1) by kernel_rfl)
  have := run_make (P := Tryz.prog) w 23 4 i _ Tryz.underlying23 h1 h2 .i64 .i64 (n : Int) (n : Int) (by omega) (by omega) (by rw [h4]; omega) (by omega)
  rw [this, h3, Int.toNat_natCast, Nat.mul_one]
  show Result.ok _ (w.alloc (.cells (madeCells #[.bool false] n) _)) = _
  rw [made_bo]
/-! ### what a sync brings -/
def bvM (c : Ch) (dir : Tx) (r : List Ch) (k : Nat) : Bool := withinC c dir || ((r.zip (broughtM dir r)).take k).any fun x => x.2 && shareC c x.1
theorem bvM_zero (c : Ch) (dir : Tx) (r : List Ch) : bvM c dir r 0 = withinC c dir := by unfold bvM; simp
theorem bvM_succ {c : Ch} {dir : Tx} {r : List Ch} {k : Nat} {x : Ch} {b : Bool} (hx : r[k]? = some x) (hb : (broughtM dir r)[k]? = some b) : bvM c dir r (k + 1) = (bvM c dir r k || (b && shareC c x)) := by
  have hz : (r.zip (broughtM dir r))[k]? = some (x, b) := by rw [List.getElem?_zip_eq_some]; exact ⟨hx, hb⟩
  obtain ⟨h1, h2⟩ := List.getElem?_eq_some_iff.1 hz
  unfold bvM
  rw [List.take_succ_eq_append_getElem h1, h2, List.any_append]
  simp [Bool.or_assoc]
theorem bvM_full {c : Ch} {dir : Tx} {r : List Ch} {k : Nat} (hk : r.length ≤ k) : broughtM dir (c :: r) = bvM c dir r k :: broughtM dir r := by
  unfold bvM
  rw [List.take_of_length_le (by rw [List.length_zip]; omega)]
  rfl
end Go.Proofs.YtbpooaicmjkemaaGreatDoor
