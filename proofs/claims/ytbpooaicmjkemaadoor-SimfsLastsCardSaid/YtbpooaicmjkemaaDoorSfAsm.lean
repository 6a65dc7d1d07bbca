/-
  Putting a disk together again, of which a file has changed. No condition.
-/
import Derived.Test.YtbpooaicmjkemaaDoorSfDo
import Derived.Test.YtbpooaicmjkemaaDoorLibAll
namespace Go.Proofs.YtbpooaicmjkemaaDoor
open Go.RowKit Go.Maps
set_option linter.unusedVariables false
/-- what a deed leaves -/
def OpPost (z : Nat) (w : World) (own : Nat → Nat × Nat) (db : Nat) (r : Dk × Int) (e : Ending) (w' : World) : Prop :=
  ∃ own', Disk z w' own' db r.1 ∧ e = .returned (.int .i64 r.2) ∧ Turn (isD z) w w' own own'
def newM (w : World) (own f : Nat → Nat × Nat) : Nat → Nat × Nat := fun k => if k < w.heap.size then own k else f k
theorem newM_old {w : World} {own f : Nat → Nat × Nat} {k : Nat} (h : k < w.heap.size) : newM w own f k = own k := if_pos h
theorem newM_new {w : World} {own f : Nat → Nat × Nat} {k : Nat} (h : w.heap.size ≤ k) : newM w own f k = f k := if_neg (by omega)
theorem OwnQ.fz {w : World} {own : Nat → Nat × Nat} {base : Nat} {g : Option Nat} {v : Value} {l : Tx} (h : OwnQ w base g v l) (ho : ∀ k, g = some k → own k = frz) : FzV w own v l := by
  obtain ⟨A, c, rfl, h1, h2, h3⟩ := h
  refine ⟨A, c, rfl, h1, h2, ?_⟩
  rcases h3 with ⟨h3, -⟩ | ⟨g', off, rfl, rfl, -, hl, hc, -⟩
  · exact .inl (List.eq_nil_of_length_eq_zero (by omega))
  · exact .inr ⟨g', off, rfl, ho g' rfl, hl, hc⟩
section
variable {z db i b : Nat} {w w' : World} {own own' : Nat → Nat × Nat} {d d' : Dk} {q : DParts}
/-- but for the disk's own block and file i's -/
def butFile (z i : Nat) (t : Nat × Nat) : Prop := t ≠ (10 * z + 1, 0) ∧ ¬ isFile z i t
theorem butFile_frz : butFile z i frz := ⟨by unfold frz; simp, fun h => by have := h.1.1; unfold frz at this; simp at this⟩
theorem DSt.file (h : DSt z w own db d q) (hg : Goes (butFile z i) w w' own own') {x' : Nd} (hB : Blk w' db 56 (q.cells d')) (hm : own' db = own db) (hbl : q.bl[i]? = some b) (hF : FSt z w' own' i b x') (e : SameD { d with nodes := d.nodes.set i x' } d') : DSt z w' own' db d' q := by
  refine ⟨hB, hm.trans h.mark, ?_⟩
  have r := h.rest
  have nf : ∀ t : Nat × Nat, (t.1 = 10 * z + 1 ∧ t.2 ≠ 0) → butFile z i t := fun t ht => ⟨fun e => ht.2 (by rw [e]), fun hf => by have := hf.1.1; omega⟩
  have m1 : ∀ k, q.gf = some k → butFile z i (own k) := fun k e => nf _ (by rw [r.mf k e]; simp)
  have m2 : butFile z i (own q.mn) := nf _ (by rw [r.mkn]; simp)
  have m3 : butFile z i (own q.ml) := nf _ (by rw [r.mkl]; simp)
  have m4 : ∀ k, q.gc = some k → butFile z i (own k) := fun k e => nf _ (by rw [r.mc k e]; simp)
  refine DRest.sameD (d := { d with nodes := d.nodes.set i x' }) ⟨r.dirs.goes hg butFile_frz, r.files.same hg.size fun g e => (hg.block g (r.files.lt e) (m1 g e)).1, fun k e => (hg.block k (r.files.lt e) (m1 k e)).2.trans (r.mf k e), ?_,
    (hg.block _ r.on.lt m2).2.trans r.mkn, ownsMap_same r.on (hg.block _ r.on.lt m2).1, r.en, (hg.block _ r.ol.lt m3).2.trans r.mkl, ownsMap_same r.ol (hg.block _ r.ol.lt m3).1, r.el, r.chs.same hg.size fun g e => (hg.block g (r.chs.lt e) (m4 g e)).1,
    fun k e => (hg.block k (r.chs.lt e) (m4 k e)).2.trans (r.mc k e), fun j b' x hb hx => ?_, r.bn, r.bnl⟩ e
  · show q.bl.length = (d.nodes.set i x').length
    rw [List.length_set]; exact r.len
  · have hx : (d.nodes.set i x')[j]? = some x := hx
    by_cases hj : i = j
    · subst hj
      rw [List.getElem?_set_self (by rw [← r.len]; exact (List.getElem?_eq_some_iff.1 hbl).1)] at hx
      obtain rfl := Option.some.inj hx
      rw [hbl] at hb
      obtain rfl := Option.some.inj hb
      exact hF
    · rw [List.getElem?_set_ne hj] at hx
      refine (r.fs j b' x hb hx).goes hg butFile_frz fun t ht => ⟨fun e => ?_, fun hf => hj (hf.2.symm.trans ht.2)⟩
      have := ht.1.1
      rw [e] at this
      simp at this
end
/-! ### how many bytes all files have -/
theorem used_none {nodes : List Nd} {i : Nat} {x : Nd} : ∀ {L : Es}, (∀ e ∈ L, e.2 ≠ i) → usedL (nodes.set i x) L = usedL nodes L
  | [], _ => rfl
  | e :: r, h => by
    have ih := used_none (nodes := nodes) (i := i) (x := x) (L := r) fun y hy => h y (List.mem_cons_of_mem _ hy)
    unfold usedL at ih ⊢
    simp only [List.map_cons, List.sum_cons]
    rw [ih, List.getD_eq_getElem?_getD, List.getElem?_set_ne (fun he => h e List.mem_cons_self he.symm), ← List.getD_eq_getElem?_getD]
/-- a file that has a path, otherwise: its bytes count -/
theorem used_set {nodes : List Nd} {i : Nat} {x : Nd} : ∀ {L : Es}, sortE L → InjE L → (p : Tx) → (p, i) ∈ L → i < nodes.length → usedL (nodes.set i x) L + (nodes.getD i nd0).now.length = usedL nodes L + x.now.length
  | [], _, _, p, h, _ => by cases h
  | e :: r, hs, hj, p, h, hi => by
    obtain ⟨h1, h2⟩ := List.pairwise_cons.1 hs
    by_cases he : e.2 = i
    · have hn : ∀ y ∈ r, y.2 ≠ i := fun y hy hyi => by
        have := hj e.1 y.1 i (by rw [← he]; exact List.mem_cons_self) (by rw [← hyi]; exact List.mem_cons_of_mem _ hy)
        have h3 := h1 y hy
        rw [this] at h3
        exact key_ir _ h3
      have := used_none (nodes := nodes) (x := x) hn
      unfold usedL at this ⊢
      simp only [List.map_cons, List.sum_cons]
      rw [this, he]
      rw [List.getD_eq_getElem?_getD (l := nodes.set i x), List.getElem?_set_self hi]
      simp only [Option.getD_some]
      omega
    · have hm : (p, i) ∈ r := by
        rcases List.mem_cons.1 h with h | h
        · exact absurd (by rw [← h]) he
        · exact h
      have ih := used_set (x := x) h2 (fun a b n ha hb => hj a b n (List.mem_cons_of_mem _ ha) (List.mem_cons_of_mem _ hb)) p hm hi
      unfold usedL at ih ⊢
      simp only [List.map_cons, List.sum_cons]
      rw [List.getD_eq_getElem?_getD (l := nodes.set i x), List.getElem?_set_ne (fun h => he h.symm), ← List.getD_eq_getElem?_getD]
      omega
theorem used_wrote {d : Dk} {K : Nat} (h : Wf d K) {p : Tx} {i : Nat} (hp : getE d.now p = some i) {x : Wr} (hf : FitW (nodeM d i).now x) : usedM (wroteM d i x) = usedM d + (if x.at_ < 0 then x.b.length else 0) := by
  have hm := getE_some hp
  have e1 := laid_len hf
  have e2 : (nodeM d i).now.length = (d.nodes.getD i nd0).now.length := rfl
  have key : ∀ y : Nd, y.now = laid (nodeM d i).now x → usedL (d.nodes.set i y) d.now = usedL d.nodes d.now + (if x.at_ < 0 then x.b.length else 0) := fun y hy => by
    have := used_set (nodes := d.nodes) (x := y) h.sn h.ijn p hm (h.iln _ hm)
    rw [hy] at this
    omega
  exact key _ rfl
/-! ### the world's frame -/
theorem Blk.at_ {w w' : World} {g : Nat} {t : TypeId} {cs : Array Value} (h : Blk w g t cs) (e : w'.heap[g]? = w.heap[g]?) : Blk w' g t cs := e.trans h
theorem Safe.drewN' {S : Nat → Prop} {w w' : World} (h : Safe S w w') (n : Nat) : Safe S w (w'.drewN n) := h.drewN n
theorem Safe.only {S : Nat → Prop} {w w' w'' : World} {g : Nat} (h : Safe S w w') (ho : Only g w' w'') (hS : ∀ k, S k → k < w'.heap.size ∧ k ≠ g) : Safe S w w'' :=
  h.grown ho fun k hk => ⟨(hS k hk).1, fun e => (hS k hk).2 (by injection e with e; exact e.symm)⟩
theorem Safe.turn {z : Nat} {S : Nat → Prop} {w w' : World} {own f : Nat → Nat × Nat} (h : Safe S w w') (hS : ∀ k, k < w.heap.size → ¬ isD z (own k) → S k) : Turn (isD z) w w' own (newM w own f) :=
  ⟨h.os, h.tape, h.output, h.size, fun k hk hn => h.block k (hS k hk hn), fun k hk _ => newM_old hk⟩
theorem Safe.goes {keep : Nat × Nat → Prop} {S : Nat → Prop} {w w' : World} {own f : Nat → Nat × Nat} (h : Safe S w w') (hS : ∀ k, k < w.heap.size → keep (own k) → S k) : Goes keep w w' own (newM w own f) :=
  ⟨h.size, fun k hk hn => ⟨h.block k (hS k hk hn), newM_old hk⟩⟩
/-- a disk of which file i has changed -/
theorem file_fin {z db i b : Nat} {w w' : World} {own f : Nat → Nat × Nat} {d d' : Dk} {q : DParts} (h : DSt z w own db d q) (hb : q.bl[i]? = some b) (hx : i < d.nodes.length) {x' : Nd} (hs : Safe (fun k => k < w.heap.size ∧ butFile z i (own k)) w w')
    {vn vl vw : Value} {gn gl gw : Option Nat} {vs : List Value} (hB : Blk w' b 72 #[vn, vl, vw]) (hN : OwnQ w' 0 gn vn x'.now) (hL : OwnQ w' 0 gl vl x'.lasts) (hW : OwnX 2 w' gw vw (wrRow vs x'.waits).flatten) (hV : WrsV w' (newM w own f) vs x'.waits)
    (c1 : ∀ k, gn = some k → newM w own f k = (10 * z + 3, i)) (c2 : ∀ k, gl = some k → newM w own f k = (10 * z + 4, i)) (c3 : ∀ k, gw = some k → newM w own f k = (10 * z + 5, i))
    (hC : Blk w' db 56 (q.cells d')) (e : SameD { d with nodes := d.nodes.set i x' } d') : DSt z w' (newM w own f) db d' q ∧ Turn (isD z) w w' own (newM w own f) := by
  have hF := h.rest.fs i b _ hb (List.getElem?_eq_getElem hx)
  obtain ⟨v1, g1, v2, g2, v3, g3, vs2, hB0, -⟩ := hF.ex
  have hbl := hB0.lt
  refine ⟨h.file (hs.goes fun k h1 h2 => ⟨h1, h2⟩) hC (newM_old h.blk.lt) hb ⟨(newM_old hbl).trans hF.mark, vn, gn, vl, gl, vw, gw, vs, hB, hN, hL, hW, hV, c1, c2, c3⟩ e, hs.turn fun k h1 h2 => ⟨h1, fun e => h2 (by rw [e]; exact ⟨by simp, by simp⟩), fun hf => h2 (isFile_isD hf)⟩⟩
theorem cells_u8 {z : Nat} {w : World} {own : Nat → Nat × Nat} {q : DParts} {d : Dk} (h : DRest z w own d q) (i : Nat) (x : Int) : (q.cells d)[i]? ≠ some (.int .u8 x) := by
  obtain ⟨A1, c1, e1, -⟩ := h.dirs
  obtain ⟨A2, n2, c2, e2, -⟩ := h.files.sl
  obtain ⟨A3, n3, c3, e3, -⟩ := h.chs.sl
  unfold DParts.cells
  rw [e1, e2, e3]
  match i with
  | 0 | 1 | 2 | 3 | 4 | 5 | 6 | 7 | 8 | 9 | 10 | 11 => simp
  | n + 12 => simp
/-- bytes do not lie in the disk's own block -/
theorem RB.only_db {z : Nat} {w w' : World} {own : Nat → Nat × Nat} {B db : Nat} {A : Option Addr} {l : Tx} {q : DParts} {d : Dk} (h : RB w B A l) (hd : DSt z w own db d q) (ho : Only db w w') : RB w' w'.heap.size A l := by
  rcases h with h | ⟨b, off, rfl, hb, hc⟩
  · exact .inl h
  · rcases Nat.eq_zero_or_pos l.length with h0 | h0
    · exact .inl (List.eq_nil_of_length_eq_zero h0)
    · have hlt := World.block_lt_of_cell? _ _ (hc 0 h0)
      have hne : b ≠ db := by
        rintro rfl
        have := hc 0 h0
        rw [hd.blk.cell] at this
        exact cells_u8 hd.rest _ _ this
      have he := ho.block b hlt (fun e => hne (by injection e))
      exact .inr ⟨b, off, rfl, Nat.lt_of_lt_of_le hlt ho.size, fun i hi => (World.cell?_of_block (w := w) he).trans (hc i hi)⟩
theorem OpPost.sw {z db : Nat} {w wb w' : World} {own : Nat → Nat × Nat} {q : DParts} {r : Dk × Int} {e : Ending} (hm : own db = (10 * z + 1, 0)) (hb : Below w.heap.size w wb) (h : SwPost z wb own db q r e w') : OpPost z w own db r e w' :=
  ⟨own, ⟨q, h.1⟩, h.2.2, ⟨h.2.1.os.trans hb.os, h.2.1.tape.trans hb.tape, h.2.1.output.trans hb.output, Nat.le_trans hb.size h.2.1.size, fun k hk hn => (h.2.1.block k (Nat.lt_of_lt_of_le hk hb.size) (fun e => hn (by
    injection e with e
    rw [e, hm]
    exact ⟨by simp, by simp⟩))).trans (hb.block k hk), fun k hk _ => rfl⟩⟩
end Go.Proofs.YtbpooaicmjkemaaDoor
