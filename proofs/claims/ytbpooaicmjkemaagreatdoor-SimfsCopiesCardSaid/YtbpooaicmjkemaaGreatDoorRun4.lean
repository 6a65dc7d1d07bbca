/-
  Several texts in one (merge.py): SfDo, SfAsm. Conditions: each part names its own.
-/
import Derived.Test.YtbpooaicmjkemaaGreatDoorRun3
import Derived.Test.YtbpooaicmjkemaaGreatDoorLibAll
import Derived.Shelf.Spec.SlicesInsert
import Derived.WalkSpells
/-! The walks of bytes.Clone, slices.Clip at bytes, a write's do. Conditions: the lengths. -/
namespace Go.Proofs.YtbpooaicmjkemaaGreatDoor
open Go.RowKit Go.Maps
set_option linter.unusedVariables false
theorem u8Z : U8 Tryz.prog 35 5 := by
  obtain ⟨i, h1, h2, h3, h4⟩ := info_parts (show (Tryz.prog.info? 5).map (fun i => (i.zero, i.size, i.bytes)) = some (some (.int .u8 0), 1, 1) by kernel_rfl)
  exact ⟨Tryz.underlying35, Tryz.underlying5, i, h1, h2, h3, h4⟩
/-- a copy in a new block, or nil -/
def CopyPost (w : World) (l : Tx) (e : Ending) (w' : World) : Prop :=
  Below w.heap.size w w' ∧ ∃ g v, e = .returned v ∧ OwnQ w' w.heap.size g v l
theorem OwnQ.belowG {w w' : World} {base : Nat} {own : Option Nat} {v : Value} {l : Tx} (h : OwnQ w base own v l) (hg : w.grownBy w' own) (hb : base ≤ w.heap.size) : Below base w w' :=
  ⟨hg.os, hg.tape, hg.output, hg.size, fun k hk => hg.block k (by omega) (fun e => by have := (h.base_ e.symm).1; omega)⟩
theorem OwnQ.fresh {w w' : World} {own own2 : Option Nat} {base : Nat} {v : Value} {l : Tx} (h : OwnQ w' base own2 v l) (h2 : ∀ g, own2 = some g → w.heap.size ≤ g) : OwnQ w' w.heap.size own2 v l := by
  obtain ⟨A, c, rfl, h3, h4, h5⟩ := h
  refine ⟨A, c, rfl, h3, h4, ?_⟩
  rcases h5 with h5 | ⟨g, off, rfl, rfl, hb, hl, hc⟩
  · exact .inl h5
  · exact .inr ⟨g, off, rfl, rfl, h2 g rfl, hl, hc⟩
theorem clone_walk (w : World) (A : Option Addr) (l : Tx) (n c : Nat) (hn : n = l.length) (hr : RB w w.heap.size A l) (hA : A = none → n = 0) (hl : n ≤ 140737488355328) :
    Calls Tryz.prog 37 #[.slice A n c] w (CopyPost w l) := by
  rcases A with _ | ad
  · obtain rfl : n = 0 := hA rfl
    obtain rfl : l = [] := List.eq_nil_of_length_eq_zero hn.symm
    have he := fun w => Lib.run_eql_slice_nil (P := Tryz.prog) w 35 5 none 0 c 0 0 Tryz.underlying35
    clear hn hA hl hr
    go_enter Tryz.func37, Tryz.ntmps37
    go_wp2
    go_ret
    exact ⟨Below.refl _ _, none, _, rfl, OwnQ.nil _ _ none⟩
  · have HR := Lib.hid hr
    have HN := Lib.hid hn
    have he := fun w => Lib.run_eql_slice_nil (P := Tryz.prog) w 35 5 (some ad) n c 0 0 Tryz.underlying35
    have hba := (Below.refl w.heap.size w).alloc (Nat.le_refl _) (.cells #[] 5)
    have HBa := Lib.hid hba
    clear hr hn hA hba
    go_enter Tryz.func37, Tryz.ntmps37
    go_wp2_with (at_builtin; refine wpList_appQ _ u8Z (.tmp 5) (.tmp 6) rfl rfl w.heap.size rfl (OwnQ.nil _ _ (some ⟨w.heap.size, 0, none⟩)) _ _ rfl HN.out (HR.out.below HBa.out) (by have := HN.out; simp; omega) HBa.out.size ?_; intro v2 own2 w2 hO2 hg2 ho2; rw [List.nil_append] at hO2; have HO2 := Lib.hid hO2; have HB2 := Lib.hid (HBa.out.trans ((OwnQ.nil (w.alloc (.cells #[] 5)) w.heap.size (some ⟨w.heap.size, 0, none⟩)).belowG hg2 (by simp))); obtain ⟨A2, c2, rfl, -⟩ := hO2; clear hg2 ho2)
    go_ret
    exact ⟨HB2.out, own2, _, rfl, HO2.out⟩
theorem clip_walk (w : World) (A : Option Addr) (n c : Nat) (hc : n ≤ c) (hm : c ≤ maxLen) :
    Calls Tryz.prog 76 #[.slice A n c] w fun e w' => e = .returned (.slice A n n) ∧ w' = w := by
  unfold maxLen at hm
  have h1 : (n : Int) ≤ (c : Int) := by omega
  go_enter Tryz.func76, Tryz.ntmps76
  go_wp2
  go_ret
  exact ⟨rfl, rfl⟩
theorem bt_splice (l k : Tx) (at_ i : Nat) (h : at_ + k.length ≤ l.length) : bt (l.take at_ ++ k ++ l.drop (at_ + k.length)) i = if at_ ≤ i ∧ i < at_ + k.length then bt k (i - at_) else bt l i := by
  unfold bt
  have hl : (l.take at_).length = at_ := by rw [List.length_take]; omega
  simp only [List.getD_eq_getElem?_getD]
  by_cases h1 : i < at_
  · rw [if_neg (by omega), List.append_assoc, List.getElem?_append_left (by omega), List.getElem?_take_of_lt h1]
  · by_cases h2 : i < at_ + k.length
    · rw [if_pos ⟨by omega, h2⟩, List.append_assoc, List.getElem?_append_right (by omega), hl, List.getElem?_append_left (by omega)]
    · have e : (l.take at_ ++ k).length = at_ + k.length := by rw [List.length_append, hl]
      rw [if_neg (by omega), List.getElem?_append_right (by omega), e, List.getElem?_drop, show at_ + k.length + (i - (at_ + k.length)) = i by omega]
/-- bytes in the place of others -/
theorem OwnQ.splice {w : World} {base g off n c : Nat} {own : Option Nat} {l k : Tx} (h : OwnQ w base own (.slice (some ⟨g, off, none⟩) n c) l) (at_ : Nat) (hk : at_ + k.length ≤ l.length) (h0 : 0 < k.length) :
    OwnQ (w.setCells g (off + at_) (Lib.byteCells k)) base own (.slice (some ⟨g, off, none⟩) n c) (l.take at_ ++ k ++ l.drop (at_ + k.length)) ∧ own = some g := by
  obtain ⟨A, c', e, h1, h2, h3⟩ := h
  injection e with e1 e2 e3
  subst e1 e2 e3
  have hlen : (l.take at_ ++ k ++ l.drop (at_ + k.length)).length = l.length := by
    simp only [List.length_append, List.length_take, List.length_drop]; omega
  rcases h3 with ⟨h3, -⟩ | ⟨g', off', rfl, e, hb, hlt, hc, hf⟩
  · omega
  · injection e with e
    injection e with e1 e2
    subst e1 e2
    have hi : ∀ j, j < (Lib.byteCells k).length → (w.cell? ⟨g, off + at_ + j, none⟩).isSome = true := fun j hj => by
      rw [byteCells_len] at hj
      rw [Nat.add_assoc]
      exact (hf (at_ + j) (by omega)).1
    refine ⟨⟨_, c, by rw [hlen], by rw [hlen]; exact h1, h2, .inr ⟨g, off, rfl, rfl, hb, Nat.lt_of_lt_of_le hlt (keptBlk_setCells g _ _ w).size, fun i hi2 => ?_, fun i hi2 => ⟨?_, ?_⟩⟩⟩, rfl⟩
    · rw [hlen] at hi2
      rw [sets_at g _ _ w hi, bt_splice l k at_ i hk, byteCells_len]
      by_cases hin : at_ ≤ i ∧ i < at_ + k.length
      · rw [if_pos ⟨by omega, by omega⟩, if_pos hin, show off + i - (off + at_) = i - at_ by omega]
        rw [bt_getElem (by omega)]
        have : i - at_ < k.length := by omega
        simp [Lib.byteCells, this]
      · rw [if_neg (by omega), if_neg hin, hc i hi2]
    · exact isSome_sets g _ _ w hi _ (hf i hi2).1
    · rw [World.frozen?_setCells]; exact (hf i hi2).2
/-- what a write leaves of bytes: its own block, or a new one; nothing else -/
def DoPost (w : World) (g : Option Nat) (l : Tx) (e : Ending) (w' : World) : Prop :=
  ∃ g' v, e = .returned v ∧ OwnQ w' 0 g' v l ∧ (g' = g ∨ ∃ k, g' = some k ∧ w.heap.size ≤ k) ∧ w.grownBy w' g
theorem infoB : (Tryz.prog.info? 5).map (·.size) = some 1 := by kernel_rfl
theorem run_copyB (W : World) {g : Option Nat} {ga oa n c bb bo nb cb a B : Nat} {l b : Tx} (hO : OwnQ W 0 g (.slice (some ⟨ga, oa, none⟩) n c) l) (hr : RB W B (some ⟨bb, bo, none⟩) b) (hn : nb = b.length) (h : a + nb ≤ l.length) (h0 : 0 < nb) (ty dl dc : Nat) (hd : dl = l.length - a) :
    (Builtin.copy_ #[35, 35] ty #[.slice (some ⟨ga, oa + a, none⟩) dl dc, .slice (some ⟨bb, bo, none⟩) nb cb]).run Tryz.prog W = .ok (goInt (nb : Int)) (W.setCells ga (oa + a) (Lib.byteCells b)) := by
  obtain ⟨h1, hfr⟩ : l.length ≤ c ∧ ∀ i, i < c → (W.cell? ⟨ga, oa + i, none⟩).isSome = true ∧ W.frozen? ⟨ga, oa + i, none⟩ = false := by
    obtain ⟨A', c', e, h1, h2, h3⟩ := hO
    injection e with e1 e2 e3
    subst e1 e3
    rcases h3 with ⟨h3, -⟩ | ⟨g2, o2, -, e, -, hlt, hcl, hfr⟩
    · omega
    injection e with e
    injection e with e1 e2
    subst e1 e2
    exact ⟨h1, hfr⟩
  have hmin : nb = Nat.min nb dl := by simp only [Nat.min_def]; split <;> omega
  have hsrc : ∀ j u, (Lib.byteCells b)[j]? = some u → W.cell? ((⟨bb, bo, none⟩ : Addr).add j) = some u := fun j u hu => by
    obtain ⟨hj, rfl⟩ := byteCells_at hu
    rcases hr with h4 | ⟨b4, o4, e4, -, h4⟩
    · rw [h4] at hj; cases hj
    · cases e4
      rw [Addr.add_lit]
      exact h4 j hj
  have hc1 : ∀ j, j < (Lib.byteCells b).length → (W.cell? ⟨ga, oa + a + j, none⟩).isSome = true ∧ W.frozen? ⟨ga, oa + a + j, none⟩ = false := fun j hj => by
    rw [byteCells_len] at hj
    rw [Nat.add_assoc]
    exact hfr (a + j) (by omega)
  have hl : (Lib.byteCells b).length = nb * 1 := by rw [byteCells_len, hn, Nat.mul_one]
  refine run_copyX (P := Tryz.prog) W 35 35 ty 5 1 ga (oa + a) dl dc ⟨bb, bo, none⟩ nb cb nb (Lib.byteCells b) Tryz.underlying35 infoB hmin hl hsrc (fun j hj => (hc1 j hj).1) (fun j hj => (hc1 j hj).2) (byteCells_one b)
theorem laid_neg {l : Tx} {x : Wr} (h : x.at_ < 0) : laid l x = l ++ x.b := by unfold laid; rw [if_pos h]
theorem laid_pos {l : Tx} {x : Wr} (h : ¬ x.at_ < 0) : laid l x = l.take x.at_.toNat ++ x.b ++ l.drop (x.at_.toNat + x.b.length) := by unfold laid; rw [if_neg h]
theorem grown_alloc {w w2 : World} {g : Option Nat} (o : Obj) (h : (w.alloc o).grownBy w2 g) : w.grownBy w2 g :=
  ⟨h.os, h.tape, h.output, by have := h.size; simp at this; omega, fun k hk hne => (h.block k (by simp; omega) hne).trans (Below.heap_alloc w o k hk)⟩
theorem grown_drew {w w2 : World} {g : Option Nat} (h : w.grownBy w2 g) (n : Nat) : w.grownBy (w2.drewN n) g := ⟨h.os, h.tape, h.output, h.size, h.block⟩
set_option maxHeartbeats 1000000 in
theorem do_walk (w : World) (g : Option Nat) (v : Value) (l : Tx) (hO : OwnQ w 0 g v l) (x : Wr) (Ab : Option Addr) (nb cb : Nat) (hn : nb = x.b.length) (hr : RB w w.heap.size Ab x.b) (hc : nb ≤ cb) (hm : cb ≤ maxLen) (hf : x.b = [] ∨ FitW l x) (hl : l.length + x.b.length ≤ 140737488355328) :
    Calls Tryz.prog 85 #[.agg #[.int .i64 x.at_, .slice Ab nb cb], v] w (DoPost w g (laid l x)) := by
  obtain ⟨at_, b⟩ := x
  simp only [] at hn hr hl
  have HBox := Lib.hid (Blk.new w 85 #[.int .i64 at_, .slice Ab nb cb])
  have y0 : (w.alloc (.cells #[.int .i64 at_, .slice Ab nb cb] 85)).cell? ⟨w.heap.size, 0, none⟩ = some (.int .i64 at_) := HBox.out.cell 0
  have y1 : (w.alloc (.cells #[.int .i64 at_, .slice Ab nb cb] 85)).cell? ⟨w.heap.size, 1, none⟩ = some (.slice Ab nb cb) := HBox.out.cell 1
  have HA := Lib.hid (hO.alloc (.cells #[.int .i64 at_, .slice Ab nb cb] 85))
  have HR := Lib.hid (hr.below ((Below.refl w.heap.size w).alloc (Nat.le_refl _) (.cells #[.int .i64 at_, .slice Ab nb cb] 85)))
  have HN := Lib.hid hn
  have HO := Lib.hid hO
  have HL := Lib.hid hl
  have hO2 := hO
  obtain ⟨A, c, rfl, hc1, hc2, -⟩ := hO2
  by_cases h0 : at_ < 0
  · have E := Lib.hid (laid_neg (l := l) (x := ⟨at_, b⟩) h0)
    clear hO hn hr hf hl
    generalize hnl : l.length = nl at *
    have HNL := Lib.hid hnl
    clear hnl
    go_enter Tryz.func85, Tryz.ntmps85
    go_wp2_with (at_builtin; refine wpList_appQ _ u8Z (.tmp 9) (.tmp 11) rfl rfl 0 rfl HA.out _ _ rfl HN.out HR.out (by have := HL.out; have := HNL.out; omega) (Nat.zero_le _) ?_; intro v2 own2 w2 hO2 hg2 ho2; have HO2 := Lib.hid hO2; have HG2 := Lib.hid hg2; have Ho2 := Lib.hid ho2; obtain ⟨A2, c2, rfl, -⟩ := hO2; clear hg2 ho2)
    go_ret
    unfold DoPost
    rw [E.out]
    have hO2 := HO2.out
    rw [List.length_append] at hO2
    refine ⟨own2, _, rfl, hO2, ?_, grown_alloc _ HG2.out⟩
    rcases Ho2.out with h | h
    · exact .inl h
    · exact .inr ⟨_, h, by simp⟩
  · have h0' : decide (at_ < 0) = false := decide_eq_false h0
    by_cases hb : b = []
    · have E := Lib.hid (laid_none l ⟨at_, b⟩ hb)
      obtain rfl : nb = 0 := by rw [hn, hb]; rfl
      subst hb
      clear hO hn hr hf hl
      generalize hnl : l.length = nl at *
      have HNL := Lib.hid hnl
      clear hnl
      go_enter Tryz.func85, Tryz.ntmps85
      go_wp2
      go_ret
      unfold DoPost
      rw [E.out]
      refine ⟨g, _, rfl, HA.out, .inl rfl, World.grownBy_alloc w _ _⟩
    · have hb0 : 0 < nb := by rw [hn]; exact List.length_pos_iff.2 hb
      have hf2 : 0 ≤ at_ ∧ at_.toNat + b.length ≤ l.length := by
        rcases hf with hf | hf | hf
        · exact absurd hf hb
        · simp only [] at hf; omega
        · exact hf
      obtain ⟨a, rfl⟩ : ∃ a : Nat, at_ = (a : Int) := ⟨at_.toNat, by omega⟩
      have hal : a + nb ≤ l.length := by rw [hn]; have := hf2.2; omega
      have E : Hid (laid l ⟨(a : Int), b⟩ = l.take a ++ b ++ l.drop (a + b.length)) := Lib.hid (laid_pos h0)
      obtain ⟨bb, bo, rfl, hbl, hbc⟩ := hr.at_ (j := 0) (by omega)
      obtain ⟨ga, oa, rfl⟩ : ∃ ga oa, A = some ⟨ga, oa, none⟩ := by
        obtain ⟨A', c', e, -, -, h3⟩ := hO
        injection e with e1 e2 e3
        subst e1 e3
        rcases h3 with ⟨h3, -⟩ | ⟨ga, oa, -, e, -⟩
        · omega
        · exact ⟨ga, oa, e⟩
      have hsp := fun W (h : OwnQ W 0 g (.slice (some ⟨ga, oa, none⟩) l.length c) l) => h.splice a (by rw [← hn]; exact hal) (by omega)
      have HCP : Hid (∀ ty dl dc, dl = l.length - a → (Builtin.copy_ #[35, 35] ty #[.slice (some ⟨ga, oa + a, none⟩) dl dc, .slice (some ⟨bb, bo, none⟩) nb cb]).run Tryz.prog (w.alloc (.cells #[.int .i64 (a : Int), .slice (some ⟨bb, bo, none⟩) nb cb] 85)).drew = .ok (goInt (nb : Int)) ((w.alloc (.cells #[.int .i64 (a : Int), .slice (some ⟨bb, bo, none⟩) nb cb] 85)).drew.setCells ga (oa + a) (Lib.byteCells b))) :=
        Lib.hid (run_copyB (w.alloc (.cells #[.int .i64 (a : Int), .slice (some ⟨bb, bo, none⟩) nb cb] 85)).drew HA.out HR.out hn hal hb0)
      have HSP := Lib.hid (hsp ((w.alloc (.cells #[.int .i64 (a : Int), .slice (some ⟨bb, bo, none⟩) nb cb] 85)).drew) HA.out)
      have mixed : Tryz.prog.follows Departure.mixedOrders = true := by kernel_rfl
      have a1 : (a : Int) ≤ (l.length : Int) := by omega
      have a2 : (a : Int) ≤ (c : Int) := by omega
      have a3 : ¬ c = a := by omega
      have a4 : 0 < (nb : Int) := by omega
      have a5 : (l.length : Int) ≤ (c : Int) := by omega
      have a6 : (c : Int) ≤ 9223372036854775807 := by unfold maxLen at hc2; omega
      clear hsp hO hn hr hf hl hf2 hal hb0 hb hbl hbc h0 hc hm hc1 hc2
      generalize hnl : l.length = nl at *
      clear hnl
      go_enter Tryz.func85, Tryz.ntmps85
      go_wp2
      go_region_law_o (refine step_copy_runI rfl _ _ 35 35 rfl (.slice (some ⟨ga, oa + a, none⟩) (nl - a) (c - a)) (.slice (some ⟨bb, bo, none⟩) nb cb) (by simp [Act.eval, Act.put]) (by simp [Act.eval, Act.put]) (HCP.out _ _ _ rfl) ?_)
      all_goals
        go_wp2
        go_ret
        unfold DoPost
        rw [E.out]
        refine ⟨g, _, rfl, HSP.out.1, .inl rfl, ?_⟩
        have hk := keptBlk_setCells ga (Lib.byteCells b) (oa + a) (w.alloc (.cells #[.int .i64 (a : Int), .slice (some ⟨bb, bo, none⟩) nb cb] 85)).drew
        rw [← HSP.out.2] at hk
        exact grown_alloc (.cells #[.int .i64 (a : Int), .slice (some ⟨bb, bo, none⟩) nb cb] 85) ⟨hk.os, hk.tape, hk.output, hk.size, hk.block⟩
end Go.Proofs.YtbpooaicmjkemaaGreatDoor

/-! Putting a disk together again, of which a file has changed. No condition. -/
namespace Go.Proofs.YtbpooaicmjkemaaGreatDoor
open Go.RowKit Go.Maps
set_option linter.unusedVariables false
/-- what a deed leaves -/
def OpPost (z : Nat) (w : World) (own : Nat → Nat × Nat) (db : Nat) (r : Dk × Int) (e : Ending) (w' : World) : Prop :=
  ∃ own', Disk z w' own' db r.1 ∧ e = .returned (.int .i64 r.2) ∧ Turn (isD z) w w' own own'
def newM (w : World) (own f : Nat → Nat × Nat) : Nat → Nat × Nat := fun k => if k < w.heap.size then own k else f k
theorem newM_old {w : World} {own f : Nat → Nat × Nat} {k : Nat} (h : k < w.heap.size) : newM w own f k = own k := if_pos h
theorem newM_new {w : World} {own f : Nat → Nat × Nat} {k : Nat} (h : w.heap.size ≤ k) : newM w own f k = f k := if_neg (by omega)
theorem OwnQ.fz {w : World} {own : Nat → Nat × Nat} {base : Nat} {g : Option Nat} {v : Value} {l : Tx} (h : OwnQ w base g v l) (ho : ∀ k, g = some k → own k = frz) : FzV w own v l := by
  obtain ⟨A, c, rfl, h1, h2, h3⟩ := h
  refine ⟨A, c, rfl, h1, h2, ?_⟩
  rcases h3 with ⟨h3, -⟩ | ⟨g', off, rfl, rfl, -, hl, hc, -⟩
  · exact .inl (List.eq_nil_of_length_eq_zero (by omega))
  · exact .inr ⟨g', off, rfl, ho g' rfl, hl, hc⟩
section
variable {z db i b : Nat} {w w' : World} {own own' : Nat → Nat × Nat} {d d' : Dk} {q : DParts}
/-- but for the disk's own block and file i's -/
def butFile (z i : Nat) (t : Nat × Nat) : Prop := t ≠ (10 * z + 1, 0) ∧ ¬ isFile z i t
theorem butFile_frz : butFile z i frz := ⟨by unfold frz; simp, fun h => by have := h.1.1; unfold frz at this; simp at this⟩
theorem DSt.file (h : DSt z w own db d q) (hg : Goes (butFile z i) w w' own own') {x' : Nd} (hB : Blk w' db 69 (q.cells d')) (hm : own' db = own db) (hbl : q.bl[i]? = some b) (hF : FSt z w' own' i b x') (e : SameD { d with nodes := d.nodes.set i x' } d') : DSt z w' own' db d' q := by
  refine ⟨hB, hm.trans h.mark, ?_⟩
  have r := h.rest
  have nf : ∀ t : Nat × Nat, (t.1 = 10 * z + 1 ∧ t.2 ≠ 0) → butFile z i t := fun t ht => ⟨fun e => ht.2 (by rw [e]), fun hf => by have := hf.1.1; omega⟩
  have m1 : ∀ k, q.gf = some k → butFile z i (own k) := fun k e => nf _ (by rw [r.mf k e]; simp)
  have m2 : butFile z i (own q.mn) := nf _ (by rw [r.mkn]; simp)
  have m3 : butFile z i (own q.ml) := nf _ (by rw [r.mkl]; simp)
  have m4 : ∀ k, q.gc = some k → butFile z i (own k) := fun k e => nf _ (by rw [r.mc k e]; simp)
  refine DRest.sameD (d := { d with nodes := d.nodes.set i x' }) ⟨r.dirs.goes hg butFile_frz, r.files.same hg.size fun g e => (hg.block g (r.files.lt e) (m1 g e)).1, fun k e => (hg.block k (r.files.lt e) (m1 k e)).2.trans (r.mf k e), ?_,
    (hg.block _ r.on.lt m2).2.trans r.mkn, ownsMap_same r.on (hg.block _ r.on.lt m2).1, r.en, (hg.block _ r.ol.lt m3).2.trans r.mkl, ownsMap_same r.ol (hg.block _ r.ol.lt m3).1, r.el, r.chs.same hg.size fun g e => (hg.block g (r.chs.lt e) (m4 g e)).1,
    fun k e => (hg.block k (r.chs.lt e) (m4 k e)).2.trans (r.mc k e), fun j b' x hb hx => ?_, r.bn, r.bnl⟩ e
  · show q.bl.length = (d.nodes.set i x').length
    rw [List.length_set]; exact r.len
  · have hx : (d.nodes.set i x')[j]? = some x := hx
    by_cases hj : i = j
    · subst hj
      rw [List.getElem?_set_self (by rw [← r.len]; exact (List.getElem?_eq_some_iff.1 hbl).1)] at hx
      obtain rfl := Option.some.inj hx
      rw [hbl] at hb
      obtain rfl := Option.some.inj hb
      exact hF
    · rw [List.getElem?_set_ne hj] at hx
      refine (r.fs j b' x hb hx).goes hg butFile_frz fun t ht => ⟨fun e => ?_, fun hf => hj (hf.2.symm.trans ht.2)⟩
      have := ht.1.1
      rw [e] at this
      simp at this
end
/-! ### how many bytes all files have -/
theorem used_none {nodes : List Nd} {i : Nat} {x : Nd} : ∀ {L : Es}, (∀ e ∈ L, e.2 ≠ i) → usedL (nodes.set i x) L = usedL nodes L
  | [], _ => rfl
  | e :: r, h => by
    have ih := used_none (nodes := nodes) (i := i) (x := x) (L := r) fun y hy => h y (List.mem_cons_of_mem _ hy)
    unfold usedL at ih ⊢
    simp only [List.map_cons, List.sum_cons]
    rw [ih, List.getD_eq_getElem?_getD, List.getElem?_set_ne (fun he => h e List.mem_cons_self he.symm), ← List.getD_eq_getElem?_getD]
/-- a file that has a path, otherwise: its bytes count -/
theorem used_set {nodes : List Nd} {i : Nat} {x : Nd} : ∀ {L : Es}, sortE L → InjE L → (p : Tx) → (p, i) ∈ L → i < nodes.length → usedL (nodes.set i x) L + (nodes.getD i nd0).now.length = usedL nodes L + x.now.length
  | [], _, _, p, h, _ => by cases h
  | e :: r, hs, hj, p, h, hi => by
    obtain ⟨h1, h2⟩ := List.pairwise_cons.1 hs
    by_cases he : e.2 = i
    · have hn : ∀ y ∈ r, y.2 ≠ i := fun y hy hyi => by
        have := hj e.1 y.1 i (by rw [← he]; exact List.mem_cons_self) (by rw [← hyi]; exact List.mem_cons_of_mem _ hy)
        have h3 := h1 y hy
        rw [this] at h3
        exact key_ir _ h3
      have := used_none (nodes := nodes) (x := x) hn
      unfold usedL at this ⊢
      simp only [List.map_cons, List.sum_cons]
      rw [this, he]
      rw [List.getD_eq_getElem?_getD (l := nodes.set i x), List.getElem?_set_self hi]
      simp only [Option.getD_some]
      omega
    · have hm : (p, i) ∈ r := by
        rcases List.mem_cons.1 h with h | h
        · exact absurd (by rw [← h]) he
        · exact h
      have ih := used_set (x := x) h2 (fun a b n ha hb => hj a b n (List.mem_cons_of_mem _ ha) (List.mem_cons_of_mem _ hb)) p hm hi
      unfold usedL at ih ⊢
      simp only [List.map_cons, List.sum_cons]
      rw [List.getD_eq_getElem?_getD (l := nodes.set i x), List.getElem?_set_ne (fun h => he h.symm), ← List.getD_eq_getElem?_getD]
      omega
theorem used_wrote {d : Dk} {K : Nat} (h : Wf d K) {p : Tx} {i : Nat} (hp : getE d.now p = some i) {x : Wr} (hf : FitW (nodeM d i).now x) : usedM (wroteM d i x) = usedM d + (if x.at_ < 0 then x.b.length else 0) := by
  have hm := getE_some hp
  have e1 := laid_len hf
  have e2 : (nodeM d i).now.length = (d.nodes.getD i nd0).now.length := rfl
  have key : ∀ y : Nd, y.now = laid (nodeM d i).now x → usedL (d.nodes.set i y) d.now = usedL d.nodes d.now + (if x.at_ < 0 then x.b.length else 0) := fun y hy => by
    have := used_set (nodes := d.nodes) (x := y) h.sn h.ijn p hm (h.iln _ hm)
    rw [hy] at this
    omega
  exact key _ rfl
/-! ### the world's frame -/
theorem Blk.at_ {w w' : World} {g : Nat} {t : TypeId} {cs : Array Value} (h : Blk w g t cs) (e : w'.heap[g]? = w.heap[g]?) : Blk w' g t cs := e.trans h
theorem Safe.drewN' {S : Nat → Prop} {w w' : World} (h : Safe S w w') (n : Nat) : Safe S w (w'.drewN n) := h.drewN n
theorem Safe.only {S : Nat → Prop} {w w' w'' : World} {g : Nat} (h : Safe S w w') (ho : Only g w' w'') (hS : ∀ k, S k → k < w'.heap.size ∧ k ≠ g) : Safe S w w'' :=
  h.grown ho fun k hk => ⟨(hS k hk).1, fun e => (hS k hk).2 (by injection e with e; exact e.symm)⟩
theorem Safe.turn {z : Nat} {S : Nat → Prop} {w w' : World} {own f : Nat → Nat × Nat} (h : Safe S w w') (hS : ∀ k, k < w.heap.size → ¬ isD z (own k) → S k) : Turn (isD z) w w' own (newM w own f) :=
  ⟨h.os, h.tape, h.output, h.size, fun k hk hn => h.block k (hS k hk hn), fun k hk _ => newM_old hk⟩
theorem Safe.goes {keep : Nat × Nat → Prop} {S : Nat → Prop} {w w' : World} {own f : Nat → Nat × Nat} (h : Safe S w w') (hS : ∀ k, k < w.heap.size → keep (own k) → S k) : Goes keep w w' own (newM w own f) :=
  ⟨h.size, fun k hk hn => ⟨h.block k (hS k hk hn), newM_old hk⟩⟩
/-- a disk of which file i has changed -/
theorem file_fin {z db i b : Nat} {w w' : World} {own f : Nat → Nat × Nat} {d d' : Dk} {q : DParts} (h : DSt z w own db d q) (hb : q.bl[i]? = some b) (hx : i < d.nodes.length) {x' : Nd} (hs : Safe (fun k => k < w.heap.size ∧ butFile z i (own k)) w w')
    {vn vl vw : Value} {gn gl gw : Option Nat} {vs : List Value} (hB : Blk w' b 75 #[vn, vl, vw]) (hN : OwnQ w' 0 gn vn x'.now) (hL : OwnQ w' 0 gl vl x'.lasts) (hW : OwnX 2 w' gw vw (wrRow vs x'.waits).flatten) (hV : WrsV w' (newM w own f) vs x'.waits)
    (c1 : ∀ k, gn = some k → newM w own f k = (10 * z + 3, i)) (c2 : ∀ k, gl = some k → newM w own f k = (10 * z + 4, i)) (c3 : ∀ k, gw = some k → newM w own f k = (10 * z + 5, i))
    (hC : Blk w' db 69 (q.cells d')) (e : SameD { d with nodes := d.nodes.set i x' } d') : DSt z w' (newM w own f) db d' q ∧ Turn (isD z) w w' own (newM w own f) := by
  have hF := h.rest.fs i b _ hb (List.getElem?_eq_getElem hx)
  obtain ⟨v1, g1, v2, g2, v3, g3, vs2, hB0, -⟩ := hF.ex
  have hbl := hB0.lt
  refine ⟨h.file (hs.goes fun k h1 h2 => ⟨h1, h2⟩) hC (newM_old h.blk.lt) hb ⟨(newM_old hbl).trans hF.mark, vn, gn, vl, gl, vw, gw, vs, hB, hN, hL, hW, hV, c1, c2, c3⟩ e, hs.turn fun k h1 h2 => ⟨h1, fun e => h2 (by rw [e]; exact ⟨by simp, by simp⟩), fun hf => h2 (isFile_isD hf)⟩⟩
theorem cells_u8 {z : Nat} {w : World} {own : Nat → Nat × Nat} {q : DParts} {d : Dk} (h : DRest z w own d q) (i : Nat) (x : Int) : (q.cells d)[i]? ≠ some (.int .u8 x) := by
  obtain ⟨A1, c1, e1, -⟩ := h.dirs
  obtain ⟨A2, n2, c2, e2, -⟩ := h.files.sl
  obtain ⟨A3, n3, c3, e3, -⟩ := h.chs.sl
  unfold DParts.cells
  rw [e1, e2, e3]
  match i with
  | 0 | 1 | 2 | 3 | 4 | 5 | 6 | 7 | 8 | 9 | 10 | 11 => simp
  | n + 12 => simp
/-- bytes do not lie in the disk's own block -/
theorem RB.only_db {z : Nat} {w w' : World} {own : Nat → Nat × Nat} {B db : Nat} {A : Option Addr} {l : Tx} {q : DParts} {d : Dk} (h : RB w B A l) (hd : DSt z w own db d q) (ho : Only db w w') : RB w' w'.heap.size A l := by
  rcases h with h | ⟨b, off, rfl, hb, hc⟩
  · exact .inl h
  · rcases Nat.eq_zero_or_pos l.length with h0 | h0
    · exact .inl (List.eq_nil_of_length_eq_zero h0)
    · have hlt := World.block_lt_of_cell? _ _ (hc 0 h0)
      have hne : b ≠ db := by
        rintro rfl
        have := hc 0 h0
        rw [hd.blk.cell] at this
        exact cells_u8 hd.rest _ _ this
      have he := ho.block b hlt (fun e => hne (by injection e))
      exact .inr ⟨b, off, rfl, Nat.lt_of_lt_of_le hlt ho.size, fun i hi => (World.cell?_of_block (w := w) he).trans (hc i hi)⟩
theorem OpPost.sw {z db : Nat} {w wb w' : World} {own : Nat → Nat × Nat} {q : DParts} {r : Dk × Int} {e : Ending} (hm : own db = (10 * z + 1, 0)) (hb : Below w.heap.size w wb) (h : SwPost z wb own db q r e w') : OpPost z w own db r e w' :=
  ⟨own, ⟨q, h.1⟩, h.2.2, ⟨h.2.1.os.trans hb.os, h.2.1.tape.trans hb.tape, h.2.1.output.trans hb.output, Nat.le_trans hb.size h.2.1.size, fun k hk hn => (h.2.1.block k (Nat.lt_of_lt_of_le hk hb.size) (fun e => hn (by
    injection e with e
    rw [e, hm]
    exact ⟨by simp, by simp⟩))).trans (hb.block k hk), fun k hk _ => rfl⟩⟩
end Go.Proofs.YtbpooaicmjkemaaGreatDoor
