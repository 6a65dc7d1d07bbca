/-
  What a crash leaves, change by change and file by file; a disk of which a file changes while its count of bytes waits. No condition.
-/
import Derived.Test.YtbpooaicmjkemaaGreatDoorSfKeep
import Derived.Test.YtbpooaicmjkemaaGreatDoorShelf3
import Derived.Test.YtbpooaicmjkemaaGreatDoorRun10
namespace Go.Proofs.YtbpooaicmjkemaaGreatDoor
open Go.RowKit Go.Maps
set_option linter.unusedVariables false
/-! ### which changes survive -/
def svM (cs : List Ch) (S : List Bool) (c : Ch) (k0 : Bool) (j : Nat) : Bool := k0 && ((cs.zip S).take j).all fun x => x.2 || !shareC x.1 c
theorem svM_zero (cs : List Ch) (S : List Bool) (c : Ch) (k0 : Bool) : svM cs S c k0 0 = k0 := by unfold svM; simp
theorem svM_succ {cs : List Ch} {S : List Bool} {c : Ch} {k0 : Bool} {j : Nat} {x : Ch} {b : Bool} (hx : cs[j]? = some x) (hb : S[j]? = some b) : svM cs S c k0 (j + 1) = (svM cs S c k0 j && (b || !shareC x c)) := by
  have hz : (cs.zip S)[j]? = some (x, b) := by rw [List.getElem?_zip_eq_some]; exact ⟨hx, hb⟩
  obtain ⟨h1, h2⟩ := List.getElem?_eq_some_iff.1 hz
  unfold svM
  rw [List.take_succ_eq_append_getElem h1, h2, List.all_append]
  simp [Bool.and_assoc]
theorem survGo_at : ∀ (a : List (Ch × Bool)) (cs : List Ch) (ks : List Bool) (i : Nat) (c : Ch), cs[i]? = some c → (survGo a cs ks)[i]? = some (ks.getD i false && (a ++ (cs.zip (survGo a cs ks)).take i).all fun x => x.2 || !shareC x.1 c)
  | a, [], ks, i, c, h => by simp at h
  | a, y :: r, ks, 0, c, h => by
    obtain rfl : y = c := by simpa using h
    unfold survGo
    simp only [List.getElem?_cons_zero, List.take_zero, List.append_nil]
    cases ks <;> rfl
  | a, y :: r, ks, i + 1, c, h => by
    have h : r[i]? = some c := by simpa using h
    have ih := survGo_at (a ++ [(y, ks.headD false && a.all fun x => x.2 || !shareC x.1 y)]) r ks.tail i c h
    have e : survGo a (y :: r) ks = (ks.headD false && a.all fun x => x.2 || !shareC x.1 y) :: survGo (a ++ [(y, ks.headD false && a.all fun x => x.2 || !shareC x.1 y)]) r ks.tail := rfl
    rw [e, List.getElem?_cons_succ, ih, List.zip_cons_cons, List.take_succ_cons]
    have e2 : ks.tail.getD i false = ks.getD (i + 1) false := by cases ks <;> simp
    rw [e2, List.append_assoc]
    rfl
theorem surv_at {cs : List Ch} {ks : List Bool} {i : Nat} {c : Ch} (h : cs[i]? = some c) : (survM cs ks)[i]? = some (svM cs (survM cs ks) c (ks.getD i false) i) := by
  have := survGo_at [] cs ks i c h
  rw [List.nil_append] at this
  exact this
/-! ### what is kept, file by file -/
def wtN (xs : List Nd) : Nat := (xs.filter fun x => decide (waitN x ≠ 0)).length
def kpN (xs : List Nd) (ks : List Int) (i : Nat) (x : Nd) : Int := if waitN x = 0 then 0 else ks.getD (wtN (xs.take i)) 0
theorem kept_at : ∀ {xs : List Nd} {ks : List Int} {i : Nat} {x : Nd}, xs[i]? = some x → (keptM xs ks)[i]? = some (keepN x (kpN xs ks i x))
  | [], _, i, x, h => by simp at h
  | y :: r, ks, 0, x, h => by
    obtain rfl : y = x := by simpa using h
    unfold keptM kpN
    split
    · rfl
    · simp only [List.getElem?_cons_zero, List.take_zero]
      congr 2
      cases ks <;> rfl
  | y :: r, ks, i + 1, x, h => by
    have h : r[i]? = some x := by simpa using h
    unfold keptM
    split
    · rename_i hy
      rw [List.getElem?_cons_succ, kept_at h]
      unfold kpN
      have : wtN ((y :: r).take (i + 1)) = wtN (r.take i) := by unfold wtN; rw [List.take_succ_cons, List.filter_cons, if_neg (by simpa using hy)]
      rw [this]
    · rename_i hy
      rw [List.getElem?_cons_succ, kept_at h]
      unfold kpN
      have : wtN ((y :: r).take (i + 1)) = wtN (r.take i) + 1 := by unfold wtN; rw [List.take_succ_cons, List.filter_cons, if_pos (by simpa using hy), List.length_cons]
      rw [this]
      congr 2
      cases ks <;> simp
theorem wtN_succ {xs : List Nd} {i : Nat} {x : Nd} (h : xs[i]? = some x) : wtN (xs.take (i + 1)) = wtN (xs.take i) + (if waitN x = 0 then 0 else 1) := by
  obtain ⟨h1, h2⟩ := List.getElem?_eq_some_iff.1 h
  unfold wtN
  rw [List.take_succ_eq_append_getElem h1, h2, List.filter_append, List.length_append]
  congr 1
  by_cases hw : waitN x = 0
  · rw [if_pos hw]; simp [hw]
  · rw [if_neg hw]; simp [hw]
theorem wtN_le (xs : List Nd) (i : Nat) : wtN (xs.take i) ≤ i := by
  unfold wtN
  refine Nat.le_trans (List.length_filter_le _ _) ?_
  rw [List.length_take]; omega
def ndK (xs : List Nd) (ks : List Int) (i : Nat) : List Nd := (keptM xs ks).take i ++ xs.drop i
theorem ndK_zero (xs : List Nd) (ks : List Int) : ndK xs ks 0 = xs := rfl
theorem ndK_full (xs : List Nd) (ks : List Int) : ndK xs ks xs.length = keptM xs ks := by
  unfold ndK
  rw [List.drop_length, List.append_nil, List.take_of_length_le (by rw [keptM_len]; exact Nat.le_refl _)]
theorem ndK_len (xs : List Nd) (ks : List Int) (i : Nat) (hi : i ≤ xs.length) : (ndK xs ks i).length = xs.length := by
  unfold ndK
  rw [List.length_append, List.length_take, List.length_drop, keptM_len]
  omega
theorem ndK_at {xs : List Nd} {ks : List Int} {i : Nat} {x : Nd} (h : xs[i]? = some x) : (ndK xs ks i)[i]? = some x := by
  have hi := (List.getElem?_eq_some_iff.1 h).1
  unfold ndK
  have hl : ((keptM xs ks).take i).length = i := by rw [List.length_take, keptM_len]; omega
  rw [List.getElem?_append_right (by omega), hl, Nat.sub_self, List.getElem?_drop, Nat.add_zero]
  exact h
theorem ndK_succ {xs : List Nd} {ks : List Int} {i : Nat} {x : Nd} (h : xs[i]? = some x) : ndK xs ks (i + 1) = (ndK xs ks i).set i (keepN x (kpN xs ks i x)) := by
  have hi := (List.getElem?_eq_some_iff.1 h).1
  obtain ⟨h1, h2⟩ := List.getElem?_eq_some_iff.1 (kept_at (ks := ks) h)
  have hl : ((keptM xs ks).take i).length = i := by rw [List.length_take, keptM_len]; omega
  unfold ndK
  rw [List.set_append_right _ _ (by omega), hl, Nat.sub_self, List.drop_eq_getElem_cons hi, List.set_cons_zero, List.take_succ_eq_append_getElem h1, h2, List.append_assoc]
  rfl
/-! ### a disk whose count of bytes waits -/
theorem cells_U (q : DParts) (d : Dk) : q.cells d = q.cellsU d (usedM d) := rfl
def notFile (z i : Nat) (t : Nat × Nat) : Prop := ¬ isFile z i t
theorem DRest.file {z i b : Nat} {w w' : World} {own own' : Nat → Nat × Nat} {d : Dk} {q : DParts} (r : DRest z w own d q) (hg : Goes (notFile z i) w w' own own') {x' : Nd} (hbl : q.bl[i]? = some b) (hF : FSt z w' own' i b x') : DRest z w' own' { d with nodes := d.nodes.set i x' } q := by
  have nf : ∀ t : Nat × Nat, t.1 = 10 * z + 1 → notFile z i t := fun t ht hf => by have := hf.1.1; omega
  have m1 : ∀ k, q.gf = some k → notFile z i (own k) := fun k e => nf _ (by rw [r.mf k e])
  have m2 : notFile z i (own q.mn) := nf _ (by rw [r.mkn])
  have m3 : notFile z i (own q.ml) := nf _ (by rw [r.mkl])
  have m4 : ∀ k, q.gc = some k → notFile z i (own k) := fun k e => nf _ (by rw [r.mc k e])
  have mz : notFile z i frz := fun h => by have := h.1.1; unfold frz at this; simp at this
  refine ⟨r.dirs.goes hg mz, r.files.same hg.size fun g e => (hg.block g (r.files.lt e) (m1 g e)).1, fun k e => (hg.block k (r.files.lt e) (m1 k e)).2.trans (r.mf k e), ?_,
    (hg.block _ r.on.lt m2).2.trans r.mkn, ownsMap_same r.on (hg.block _ r.on.lt m2).1, r.en, (hg.block _ r.ol.lt m3).2.trans r.mkl, ownsMap_same r.ol (hg.block _ r.ol.lt m3).1, r.el, r.chs.same hg.size fun g e => (hg.block g (r.chs.lt e) (m4 g e)).1,
    fun k e => (hg.block k (r.chs.lt e) (m4 k e)).2.trans (r.mc k e), fun j b' x hb hx => ?_, r.bn, r.bnl⟩
  · show q.bl.length = (d.nodes.set i x').length
    rw [List.length_set]; exact r.len
  · have hx : (d.nodes.set i x')[j]? = some x := hx
    by_cases hj : i = j
    · subst hj
      rw [List.getElem?_set_self (by rw [← r.len]; exact (List.getElem?_eq_some_iff.1 hbl).1)] at hx
      obtain rfl := Option.some.inj hx
      rw [hbl] at hb
      obtain rfl := Option.some.inj hb
      exact hF
    · rw [List.getElem?_set_ne hj] at hx
      exact (r.fs j b' x hb hx).goes hg mz fun t ht hf => hj (hf.2.symm.trans ht.2)
/-- how far a crash's keeping has come -/
structure CrI (z : Nat) (w1 : World) (own1 : Nat → Nat × Nat) (db : Nat) (d1 : Dk) (q : DParts) (kw : List Int) (u : Nat) (i : Nat) (wr : World) (ownr : Nat → Nat × Nat) : Prop where
  rest : DRest z wr ownr { d1 with nodes := ndK d1.nodes kw i } q
  blk : Blk wr db 69 (q.cellsU d1 u)
  mark : ownr db = (10 * z + 1, 0)
  turn : Turn (isD z) w1 wr own1 ownr
theorem CrI.step {z db i b : Nat} {w1 wr w2 : World} {own1 ownr : Nat → Nat × Nat} {d1 : Dk} {q : DParts} {kw : List Int} {u : Nat} {x : Nd} {e : Ending} (h : CrI z w1 own1 db d1 q kw u i wr ownr) (hx : d1.nodes[i]? = some x) (hb : q.bl[i]? = some b) {wb : World} (hbw : Below wr.heap.size wr wb)
    (hp : KeepPost z i wb ownr b (keepN x (kpN d1.nodes kw i x)) e w2) : ∃ own2, CrI z w1 own1 db d1 q kw u (i + 1) w2 own2 := by
  obtain ⟨own2, hF, hT, -⟩ := hp
  have hg : Goes (notFile z i) wr w2 ownr own2 := ⟨Nat.le_trans hbw.size hT.size, fun k hk hn => ⟨(hT.block k (Nat.lt_of_lt_of_le hk hbw.size) hn).trans (hbw.block k hk), hT.mark k (Nat.lt_of_lt_of_le hk hbw.size) hn⟩⟩
  have hdb := h.blk.lt
  have hm : notFile z i (ownr db) := by rw [h.mark]; exact fun hf => by have := hf.1.1; simp at this
  refine ⟨own2, ?_, h.blk.at_ (hg.block db hdb hm).1, (hg.block db hdb hm).2.trans h.mark, h.turn.trans ⟨hT.os.trans hbw.os, hT.tape.trans hbw.tape, hT.output.trans hbw.output, hg.size, fun k hk hn => (hg.block k hk fun hf => hn (isFile_isD hf)).1, fun k hk hn => (hg.block k hk fun hf => hn (isFile_isD hf)).2⟩⟩
  rw [ndK_succ hx]
  exact h.rest.file hg hb hF
theorem CrI.fst {z db i b : Nat} {w1 wr : World} {own1 ownr : Nat → Nat × Nat} {d1 : Dk} {q : DParts} {kw : List Int} {u : Nat} {x : Nd} (h : CrI z w1 own1 db d1 q kw u i wr ownr) (hx : d1.nodes[i]? = some x) (hb : q.bl[i]? = some b) : FSt z wr ownr i b x := h.rest.fs i b x hb (ndK_at hx)
/-! ### a copy of a map -/
theorem mclone_walk {w : World} {b n : Nat} {D : DataW Unit} (h : w.ownsMap Tryz.prog 9 ptrElem b n D) :
    Calls Tryz.prog 46 #[.map (some b)] w fun e w' => (Below w.heap.size w w' ∧ w'.ownsMap Tryz.prog 9 ptrElem w.heap.size n D) ∧ e = .returned (.map (some w.heap.size)) :=
  (AnyW.maps_Clone_owns Tryz.mcloneV _ ptrElem b n D w h).mono fun e w' ⟨h1, h2, _, h4⟩ => ⟨⟨h4, h2⟩, h1⟩
/-- a row of bools, or of numbers, that is none of the disk's -/
def RCo (z : Nat) (w : World) (own : Nat → Nat × Nat) (A : Option Addr) (vs : List Value) : Prop := ∀ i v, vs[i]? = some v → ∃ b off, A = some ⟨b, off, none⟩ ∧ b < w.heap.size ∧ ¬ isD z (own b) ∧ w.cell? ⟨b, off + i, none⟩ = some v
end Go.Proofs.YtbpooaicmjkemaaGreatDoor
