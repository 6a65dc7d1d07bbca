/-
  The walks of bytes.Clone, slices.Clip at bytes, a write's do. Conditions: the lengths.
-/
import Derived.Test.YtbpooaicmjkemaaDoorSfGet
import Derived.Test.YtbpooaicmjkemaaDoorLibAll
import Derived.Shelf.Spec.SlicesInsert
import Derived.WalkSpells
namespace Go.Proofs.YtbpooaicmjkemaaDoor
open Go.RowKit Go.Maps
set_option linter.unusedVariables false
theorem u8Z : U8 Tryd.prog 33 5 := by
  obtain ⟨i, h1, h2, h3, h4⟩ := info_parts (show (Tryd.prog.info? 5).map (fun i => (i.zero, i.size, i.bytes)) = some (some (.int .u8 0), 1, 1) by kernel_rfl)
  exact ⟨Tryd.underlying33, Tryd.underlying5, i, h1, h2, h3, h4⟩
/-- a copy in a new block, or nil -/
def CopyPost (w : World) (l : Tx) (e : Ending) (w' : World) : Prop :=
  Below w.heap.size w w' ∧ ∃ g v, e = .returned v ∧ OwnQ w' w.heap.size g v l
theorem OwnQ.belowG {w w' : World} {base : Nat} {own : Option Nat} {v : Value} {l : Tx} (h : OwnQ w base own v l) (hg : w.grownBy w' own) (hb : base ≤ w.heap.size) : Below base w w' :=
  ⟨hg.os, hg.tape, hg.output, hg.size, fun k hk => hg.block k (by omega) (fun e => by have := (h.base_ e.symm).1; omega)⟩
theorem OwnQ.fresh {w w' : World} {own own2 : Option Nat} {base : Nat} {v : Value} {l : Tx} (h : OwnQ w' base own2 v l) (h2 : ∀ g, own2 = some g → w.heap.size ≤ g) : OwnQ w' w.heap.size own2 v l := by
  obtain ⟨A, c, rfl, h3, h4, h5⟩ := h
  refine ⟨A, c, rfl, h3, h4, ?_⟩
  rcases h5 with h5 | ⟨g, off, rfl, rfl, hb, hl, hc⟩
  · exact .inl h5
  · exact .inr ⟨g, off, rfl, rfl, h2 g rfl, hl, hc⟩
theorem clone_walk (w : World) (A : Option Addr) (l : Tx) (n c : Nat) (hn : n = l.length) (hr : RB w w.heap.size A l) (hA : A = none → n = 0) (hl : n ≤ 140737488355328) :
    Calls Tryd.prog 31 #[.slice A n c] w (CopyPost w l) := by
  rcases A with _ | ad
  · obtain rfl : n = 0 := hA rfl
    obtain rfl : l = [] := List.eq_nil_of_length_eq_zero hn.symm
    have he := fun w => Lib.run_eql_slice_nil (P := Tryd.prog) w 33 5 none 0 c 0 0 Tryd.underlying33
    clear hn hA hl hr
    go_enter Tryd.func31, Tryd.ntmps31
    go_wp2
    go_ret
    exact ⟨Below.refl _ _, none, _, rfl, OwnQ.nil _ _ none⟩
  · have HR := Lib.hid hr
    have HN := Lib.hid hn
    have he := fun w => Lib.run_eql_slice_nil (P := Tryd.prog) w 33 5 (some ad) n c 0 0 Tryd.underlying33
    have hba := (Below.refl w.heap.size w).alloc (Nat.le_refl _) (.cells #[] 5)
    have HBa := Lib.hid hba
    clear hr hn hA hba
    go_enter Tryd.func31, Tryd.ntmps31
    go_wp2_with (at_builtin; refine wpList_appQ _ u8Z (.tmp 5) (.tmp 6) rfl rfl w.heap.size rfl (OwnQ.nil _ _ (some ⟨w.heap.size, 0, none⟩)) _ _ rfl HN.out (HR.out.below HBa.out) (by have := HN.out; simp; omega) HBa.out.size ?_; intro v2 own2 w2 hO2 hg2 ho2; rw [List.nil_append] at hO2; have HO2 := Lib.hid hO2; have HB2 := Lib.hid (HBa.out.trans ((OwnQ.nil (w.alloc (.cells #[] 5)) w.heap.size (some ⟨w.heap.size, 0, none⟩)).belowG hg2 (by simp))); obtain ⟨A2, c2, rfl, -⟩ := hO2; clear hg2 ho2)
    go_ret
    exact ⟨HB2.out, own2, _, rfl, HO2.out⟩
theorem clip_walk (w : World) (A : Option Addr) (n c : Nat) (hc : n ≤ c) (hm : c ≤ maxLen) :
    Calls Tryd.prog 41 #[.slice A n c] w fun e w' => e = .returned (.slice A n n) ∧ w' = w := by
  unfold maxLen at hm
  have h1 : (n : Int) ≤ (c : Int) := by omega
  go_enter Tryd.func41, Tryd.ntmps41
  go_wp2
  go_ret
  exact ⟨rfl, rfl⟩
theorem bt_splice (l k : Tx) (at_ i : Nat) (h : at_ + k.length ≤ l.length) : bt (l.take at_ ++ k ++ l.drop (at_ + k.length)) i = if at_ ≤ i ∧ i < at_ + k.length then bt k (i - at_) else bt l i := by
  unfold bt
  have hl : (l.take at_).length = at_ := by rw [List.length_take]; omega
  simp only [List.getD_eq_getElem?_getD]
  by_cases h1 : i < at_
  · rw [if_neg (by omega), List.append_assoc, List.getElem?_append_left (by omega), List.getElem?_take_of_lt h1]
  · by_cases h2 : i < at_ + k.length
    · rw [if_pos ⟨by omega, h2⟩, List.append_assoc, List.getElem?_append_right (by omega), hl, List.getElem?_append_left (by omega)]
    · have e : (l.take at_ ++ k).length = at_ + k.length := by rw [List.length_append, hl]
      rw [if_neg (by omega), List.getElem?_append_right (by omega), e, List.getElem?_drop, show at_ + k.length + (i - (at_ + k.length)) = i by omega]
/-- bytes in the place of others -/
theorem OwnQ.splice {w : World} {base g off n c : Nat} {own : Option Nat} {l k : Tx} (h : OwnQ w base own (.slice (some ⟨g, off, none⟩) n c) l) (at_ : Nat) (hk : at_ + k.length ≤ l.length) (h0 : 0 < k.length) :
    OwnQ (w.setCells g (off + at_) (Lib.byteCells k)) base own (.slice (some ⟨g, off, none⟩) n c) (l.take at_ ++ k ++ l.drop (at_ + k.length)) ∧ own = some g := by
  obtain ⟨A, c', e, h1, h2, h3⟩ := h
  injection e with e1 e2 e3
  subst e1 e2 e3
  have hlen : (l.take at_ ++ k ++ l.drop (at_ + k.length)).length = l.length := by
    simp only [List.length_append, List.length_take, List.length_drop]; omega
  rcases h3 with ⟨h3, -⟩ | ⟨g', off', rfl, e, hb, hlt, hc, hf⟩
  · omega
  · injection e with e
    injection e with e1 e2
    subst e1 e2
    have hi : ∀ j, j < (Lib.byteCells k).length → (w.cell? ⟨g, off + at_ + j, none⟩).isSome = true := fun j hj => by
      rw [byteCells_len] at hj
      rw [Nat.add_assoc]
      exact (hf (at_ + j) (by omega)).1
    refine ⟨⟨_, c, by rw [hlen], by rw [hlen]; exact h1, h2, .inr ⟨g, off, rfl, rfl, hb, Nat.lt_of_lt_of_le hlt (keptBlk_setCells g _ _ w).size, fun i hi2 => ?_, fun i hi2 => ⟨?_, ?_⟩⟩⟩, rfl⟩
    · rw [hlen] at hi2
      rw [sets_at g _ _ w hi, bt_splice l k at_ i hk, byteCells_len]
      by_cases hin : at_ ≤ i ∧ i < at_ + k.length
      · rw [if_pos ⟨by omega, by omega⟩, if_pos hin, show off + i - (off + at_) = i - at_ by omega]
        rw [bt_getElem (by omega)]
        have : i - at_ < k.length := by omega
        simp [Lib.byteCells, this]
      · rw [if_neg (by omega), if_neg hin, hc i hi2]
    · exact isSome_sets g _ _ w hi _ (hf i hi2).1
    · rw [World.frozen?_setCells]; exact (hf i hi2).2
/-- what a write leaves of bytes: its own block, or a new one; nothing else -/
def DoPost (w : World) (g : Option Nat) (l : Tx) (e : Ending) (w' : World) : Prop :=
  ∃ g' v, e = .returned v ∧ OwnQ w' 0 g' v l ∧ (g' = g ∨ ∃ k, g' = some k ∧ w.heap.size ≤ k) ∧ w.grownBy w' g
theorem infoB : (Tryd.prog.info? 5).map (·.size) = some 1 := by kernel_rfl
theorem run_copyB (W : World) {g : Option Nat} {ga oa n c bb bo nb cb a B : Nat} {l b : Tx} (hO : OwnQ W 0 g (.slice (some ⟨ga, oa, none⟩) n c) l) (hr : RB W B (some ⟨bb, bo, none⟩) b) (hn : nb = b.length) (h : a + nb ≤ l.length) (h0 : 0 < nb) (ty dl dc : Nat) (hd : dl = l.length - a) :
    (Builtin.copy_ #[33, 33] ty #[.slice (some ⟨ga, oa + a, none⟩) dl dc, .slice (some ⟨bb, bo, none⟩) nb cb]).run Tryd.prog W = .ok (goInt (nb : Int)) (W.setCells ga (oa + a) (Lib.byteCells b)) := by
  obtain ⟨h1, hfr⟩ : l.length ≤ c ∧ ∀ i, i < c → (W.cell? ⟨ga, oa + i, none⟩).isSome = true ∧ W.frozen? ⟨ga, oa + i, none⟩ = false := by
    obtain ⟨A', c', e, h1, h2, h3⟩ := hO
    injection e with e1 e2 e3
    subst e1 e3
    rcases h3 with ⟨h3, -⟩ | ⟨g2, o2, -, e, -, hlt, hcl, hfr⟩
    · omega
    injection e with e
    injection e with e1 e2
    subst e1 e2
    exact ⟨h1, hfr⟩
  have hmin : nb = Nat.min nb dl := by simp only [Nat.min_def]; split <;> omega
  have hsrc : ∀ j u, (Lib.byteCells b)[j]? = some u → W.cell? ((⟨bb, bo, none⟩ : Addr).add j) = some u := fun j u hu => by
    obtain ⟨hj, rfl⟩ := byteCells_at hu
    rcases hr with h4 | ⟨b4, o4, e4, -, h4⟩
    · rw [h4] at hj; cases hj
    · cases e4
      rw [Addr.add_lit]
      exact h4 j hj
  have hc1 : ∀ j, j < (Lib.byteCells b).length → (W.cell? ⟨ga, oa + a + j, none⟩).isSome = true ∧ W.frozen? ⟨ga, oa + a + j, none⟩ = false := fun j hj => by
    rw [byteCells_len] at hj
    rw [Nat.add_assoc]
    exact hfr (a + j) (by omega)
  have hl : (Lib.byteCells b).length = nb * 1 := by rw [byteCells_len, hn, Nat.mul_one]
  refine run_copyX (P := Tryd.prog) W 33 33 ty 5 1 ga (oa + a) dl dc ⟨bb, bo, none⟩ nb cb nb (Lib.byteCells b) Tryd.underlying33 infoB hmin hl hsrc (fun j hj => (hc1 j hj).1) (fun j hj => (hc1 j hj).2) (byteCells_one b)
theorem laid_neg {l : Tx} {x : Wr} (h : x.at_ < 0) : laid l x = l ++ x.b := by unfold laid; rw [if_pos h]
theorem laid_pos {l : Tx} {x : Wr} (h : ¬ x.at_ < 0) : laid l x = l.take x.at_.toNat ++ x.b ++ l.drop (x.at_.toNat + x.b.length) := by unfold laid; rw [if_neg h]
theorem grown_alloc {w w2 : World} {g : Option Nat} (o : Obj) (h : (w.alloc o).grownBy w2 g) : w.grownBy w2 g :=
  ⟨h.os, h.tape, h.output, by have := h.size; simp at this; omega, fun k hk hne => (h.block k (by simp; omega) hne).trans (Below.heap_alloc w o k hk)⟩
theorem grown_drew {w w2 : World} {g : Option Nat} (h : w.grownBy w2 g) (n : Nat) : w.grownBy (w2.drewN n) g := ⟨h.os, h.tape, h.output, h.size, h.block⟩
set_option maxHeartbeats 1000000 in
theorem do_walk (w : World) (g : Option Nat) (v : Value) (l : Tx) (hO : OwnQ w 0 g v l) (x : Wr) (Ab : Option Addr) (nb cb : Nat) (hn : nb = x.b.length) (hr : RB w w.heap.size Ab x.b) (hc : nb ≤ cb) (hm : cb ≤ maxLen) (hf : x.b = [] ∨ FitW l x) (hl : l.length + x.b.length ≤ 140737488355328) :
    Calls Tryd.prog 50 #[.agg #[.int .i64 x.at_, .slice Ab nb cb], v] w (DoPost w g (laid l x)) := by
  obtain ⟨at_, b⟩ := x
  simp only [] at hn hr hl
  have HBox := Lib.hid (Blk.new w 75 #[.int .i64 at_, .slice Ab nb cb])
  have y0 : (w.alloc (.cells #[.int .i64 at_, .slice Ab nb cb] 75)).cell? ⟨w.heap.size, 0, none⟩ = some (.int .i64 at_) := HBox.out.cell 0
  have y1 : (w.alloc (.cells #[.int .i64 at_, .slice Ab nb cb] 75)).cell? ⟨w.heap.size, 1, none⟩ = some (.slice Ab nb cb) := HBox.out.cell 1
  have HA := Lib.hid (hO.alloc (.cells #[.int .i64 at_, .slice Ab nb cb] 75))
  have HR := Lib.hid (hr.below ((Below.refl w.heap.size w).alloc (Nat.le_refl _) (.cells #[.int .i64 at_, .slice Ab nb cb] 75)))
  have HN := Lib.hid hn
  have HO := Lib.hid hO
  have HL := Lib.hid hl
  have hO2 := hO
  obtain ⟨A, c, rfl, hc1, hc2, -⟩ := hO2
  by_cases h0 : at_ < 0
  · have E := Lib.hid (laid_neg (l := l) (x := ⟨at_, b⟩) h0)
    clear hO hn hr hf hl
    generalize hnl : l.length = nl at *
    have HNL := Lib.hid hnl
    clear hnl
    go_enter Tryd.func50, Tryd.ntmps50
    go_wp2_with (at_builtin; refine wpList_appQ _ u8Z (.tmp 9) (.tmp 11) rfl rfl 0 rfl HA.out _ _ rfl HN.out HR.out (by have := HL.out; have := HNL.out; omega) (Nat.zero_le _) ?_; intro v2 own2 w2 hO2 hg2 ho2; have HO2 := Lib.hid hO2; have HG2 := Lib.hid hg2; have Ho2 := Lib.hid ho2; obtain ⟨A2, c2, rfl, -⟩ := hO2; clear hg2 ho2)
    go_ret
    unfold DoPost
    rw [E.out]
    have hO2 := HO2.out
    rw [List.length_append] at hO2
    refine ⟨own2, _, rfl, hO2, ?_, grown_alloc _ HG2.out⟩
    rcases Ho2.out with h | h
    · exact .inl h
    · exact .inr ⟨_, h, by simp⟩
  · have h0' : decide (at_ < 0) = false := decide_eq_false h0
    by_cases hb : b = []
    · have E := Lib.hid (laid_none l ⟨at_, b⟩ hb)
      obtain rfl : nb = 0 := by rw [hn, hb]; rfl
      subst hb
      clear hO hn hr hf hl
      generalize hnl : l.length = nl at *
      have HNL := Lib.hid hnl
      clear hnl
      go_enter Tryd.func50, Tryd.ntmps50
      go_wp2
      go_ret
      unfold DoPost
      rw [E.out]
      refine ⟨g, _, rfl, HA.out, .inl rfl, World.grownBy_alloc w _ _⟩
    · have hb0 : 0 < nb := by rw [hn]; exact List.length_pos_iff.2 hb
      have hf2 : 0 ≤ at_ ∧ at_.toNat + b.length ≤ l.length := by
        rcases hf with hf | hf | hf
        · exact absurd hf hb
        · simp only [] at hf; omega
        · exact hf
      obtain ⟨a, rfl⟩ : ∃ a : Nat, at_ = (a : Int) := ⟨at_.toNat, by omega⟩
      have hal : a + nb ≤ l.length := by rw [hn]; have := hf2.2; omega
      have E : Hid (laid l ⟨(a : Int), b⟩ = l.take a ++ b ++ l.drop (a + b.length)) := Lib.hid (laid_pos h0)
      obtain ⟨bb, bo, rfl, hbl, hbc⟩ := hr.at_ (j := 0) (by omega)
      obtain ⟨ga, oa, rfl⟩ : ∃ ga oa, A = some ⟨ga, oa, none⟩ := by
        obtain ⟨A', c', e, -, -, h3⟩ := hO
        injection e with e1 e2 e3
        subst e1 e3
        rcases h3 with ⟨h3, -⟩ | ⟨ga, oa, -, e, -⟩
        · omega
        · exact ⟨ga, oa, e⟩
      have hsp := fun W (h : OwnQ W 0 g (.slice (some ⟨ga, oa, none⟩) l.length c) l) => h.splice a (by rw [← hn]; exact hal) (by omega)
      have HCP : Hid (∀ ty dl dc, dl = l.length - a → (Builtin.copy_ #[33, 33] ty #[.slice (some ⟨ga, oa + a, none⟩) dl dc, .slice (some ⟨bb, bo, none⟩) nb cb]).run Tryd.prog (w.alloc (.cells #[.int .i64 (a : Int), .slice (some ⟨bb, bo, none⟩) nb cb] 75)).drew = .ok (goInt (nb : Int)) ((w.alloc (.cells #[.int .i64 (a : Int), .slice (some ⟨bb, bo, none⟩) nb cb] 75)).drew.setCells ga (oa + a) (Lib.byteCells b))) :=
        Lib.hid (run_copyB (w.alloc (.cells #[.int .i64 (a : Int), .slice (some ⟨bb, bo, none⟩) nb cb] 75)).drew HA.out HR.out hn hal hb0)
      have HSP := Lib.hid (hsp ((w.alloc (.cells #[.int .i64 (a : Int), .slice (some ⟨bb, bo, none⟩) nb cb] 75)).drew) HA.out)
      have mixed : Tryd.prog.follows Departure.mixedOrders = true := by kernel_rfl
      have a1 : (a : Int) ≤ (l.length : Int) := by omega
      have a2 : (a : Int) ≤ (c : Int) := by omega
      have a3 : ¬ c = a := by omega
      have a4 : 0 < (nb : Int) := by omega
      have a5 : (l.length : Int) ≤ (c : Int) := by omega
      have a6 : (c : Int) ≤ 9223372036854775807 := by unfold maxLen at hc2; omega
      clear hsp hO hn hr hf hl hf2 hal hb0 hb hbl hbc h0 hc hm hc1 hc2
      generalize hnl : l.length = nl at *
      clear hnl
      go_enter Tryd.func50, Tryd.ntmps50
      go_wp2
      go_region_law_o (refine step_copy_runI rfl _ _ 33 33 rfl (.slice (some ⟨ga, oa + a, none⟩) (nl - a) (c - a)) (.slice (some ⟨bb, bo, none⟩) nb cb) (by simp [Act.eval, Act.put]) (by simp [Act.eval, Act.put]) (HCP.out _ _ _ rfl) ?_)
      all_goals
        go_wp2
        go_ret
        unfold DoPost
        rw [E.out]
        refine ⟨g, _, rfl, HSP.out.1, .inl rfl, ?_⟩
        have hk := keptBlk_setCells ga (Lib.byteCells b) (oa + a) (w.alloc (.cells #[.int .i64 (a : Int), .slice (some ⟨bb, bo, none⟩) nb cb] 75)).drew
        rw [← HSP.out.2] at hk
        exact grown_alloc (.cells #[.int .i64 (a : Int), .slice (some ⟨bb, bo, none⟩) nb cb] 75) ⟨hk.os, hk.tape, hk.output, hk.size, hk.block⟩
end Go.Proofs.YtbpooaicmjkemaaDoor
