/-
  Several texts in one: ScClo, ScRes, ScCliB. Conditions: each part names its own.
-/
import Derived.Test.YtjnjnccfojfghaaGreatDoorMg5
import Derived.Test.YtjnjnccfojfghaaGreatDoorMg4
import Derived.Lib.LazyBuf
import Derived.Lib.SliceRun
import Derived.WalkSpells
import Derived.Test.YtjnjnccfojfghaaGreatDoorMg14
import Derived.Test.YtjnjnccfojfghaaGreatDoorMg10
import Derived.Test.YtjnjnccfojfghaaGreatDoorMg16
import Derived.Test.YtjnjnccfojfghaaGreatDoorMg12
import Derived.Test.YtjnjnccfojfghaaGreatDoorMg8
set_option linter.unusedSimpArgs false
/-! The walk of slices.Clone on bytes; a slice of bytes from a place on. Conditions: the sizes. -/
namespace Go.Proofs.YtjnjnccfojfghaaGreatDoor
open Go.RowKit
set_option linter.unusedVariables false
theorem belowR {B : Nat} {w w1 w2 : World} {own : Option Nat} (hb : Below B w w1) (hg : w1.grownBy w2 own) (ho : ∀ k, own = some k → B ≤ k) (hB : B ≤ w1.heap.size) : Below B w w2 :=
  ⟨hg.os.trans hb.os, hg.tape.trans hb.tape, hg.output.trans hb.output, Nat.le_trans hb.size hg.size, fun k hk => (hg.block k (by omega) (fun e => by have := ho k e.symm; omega)).trans (hb.block k hk)⟩
theorem slB_from (A : Option Addr) (n c m : Nat) (hn : m ≤ n) (hc : n ≤ c) (W : World) :
    (Instr.slice 25 (.slice A n c) (some (.int .i64 (m : Int))) none none).run Tryz.prog W = .ok (.slice (if c = m then A else A.map fun a => a.add m) (n - m) (c - m)) W := by
  have h1 : (m : Int) ≤ (n : Int) := by omega
  have h2 : (m : Int) ≤ (c : Int) := by omega
  obtain ⟨i, hi, hz, hs, hb⟩ := u8L.hi
  by_cases hcm : c = m
  · cases A <;> simp [Instr.slice, run_underlying Tryz.underlying25, Instr.sliceBounds, run_sliceBound, h1, h2, hcm, sizeOf, typeInfo, hi, hs]
  · cases A <;> simp [Instr.slice, run_underlying Tryz.underlying25, Instr.sliceBounds, run_sliceBound, h1, h2, hcm, sizeOf, typeInfo, hi, hs]
/-- a copy in new memory, or none -/
def CloPost (w : World) (l : Tx) (e : Ending) (w' : World) : Prop :=
  Below w.heap.size w w' ∧ ∃ v own, e = .returned v ∧ OwnQ w' 0 own v l ∧ ∀ k, own = some k → w.heap.size ≤ k
set_option maxHeartbeats 1000000 in
theorem cloneB_walk (w : World) (A : Option Addr) (l : Tx) (n c : Nat) (hn : n = l.length) (hr : RB w w.heap.size A l) (hA : A = none → n = 0) (hl : n ≤ 140737488355328) :
    Calls Tryz.prog 34 #[.slice A n c] w (CloPost w l) := by
  rcases A with _ | ad
  · obtain rfl : n = 0 := hA rfl
    obtain rfl : l = [] := List.eq_nil_of_length_eq_zero hn.symm
    have he := fun w => Lib.run_eql_slice_nil (P := Tryz.prog) w 25 5 none 0 c 0 0 Tryz.underlying25
    clear hn hA hl hr
    go_enter Tryz.func34, Tryz.ntmps34
    go_wp2
    go_ret
    exact ⟨Below.refl _ _, _, none, rfl, OwnQ.nil _ _ none, fun k hk => by cases hk⟩
  · have HR := Lib.hid hr
    have HN := Lib.hid hn
    have he := fun w => Lib.run_eql_slice_nil (P := Tryz.prog) w 25 5 (some ad) n c 0 0 Tryz.underlying25
    have hba := (Below.refl w.heap.size w).alloc (Nat.le_refl _) (.cells #[] 5)
    have HBa := Lib.hid hba
    clear hr hn hA hba
    go_enter Tryz.func34, Tryz.ntmps34
    go_wp2_with (at_builtin; refine wpList_appQ _ u8L (.tmp 5) (.tmp 6) rfl rfl w.heap.size rfl (OwnQ.nil _ _ (some ⟨w.heap.size, 0, none⟩)) _ _ rfl HN.out (HR.out.below HBa.out) (by have := HN.out; simp; omega) HBa.out.size ?_; intro v2 own2 w2 hO2 hg2 ho2; rw [List.nil_append] at hO2; obtain ⟨A2, cc2, rfl, -⟩ := hO2.out; have HO2 := Lib.hid hO2; have HB2 := Lib.hid (belowR HBa.out hg2 (fun k e => by cases e) HBa.out.size); have Ho2 := Lib.hid ho2; clear hO2 hg2 ho2)
    go_ret
    refine ⟨HB2.out, _, own2, rfl, HO2.out.mono_ (Nat.zero_le _), fun k hk => ?_⟩
    rcases Ho2.out with h | h
    · rw [h] at hk; cases hk
    · rw [h] at hk; cases hk; exact HBa.out.size
end Go.Proofs.YtjnjnccfojfghaaGreatDoor

/-! The walks of smtpc's Results and of waybillref20.SameResults. Conditions: the lengths. -/
namespace Go.Proofs.YtjnjnccfojfghaaGreatDoor
open Go.RowKit
set_option linter.unusedVariables false
theorem uxR : UX Tryz.prog 46 59 3 := by
  obtain ⟨i, h1, h2, h3, h4⟩ := info_parts (show (Tryz.prog.info? 59).map (fun i => (i.zero, i.size, i.bytes)) = some (some (.agg #[.int .i64 0, .int .i64 0, .string ⟨#[]⟩]), 3, 32) by kernel_rfl)
  exact ⟨Tryz.underlying46, ⟨i, _, h1, h2, rfl, h3, by omega⟩, by omega⟩
theorem newsR (w : World) (E : TypeId) (vs : List Value) : ∀ ad, (some (⟨w.heap.size, 0, none⟩ : Addr)) = some ad → ∀ j u, vs[j]? = some u → (w.alloc (.cells vs.toArray E)).cell? (ad.add j) = some u := by
  intro ad e j u hu
  cases e
  rw [Addr.add_lit, Nat.zero_add, (Blk.new w E vs.toArray).cell j]
  simpa using hu
/-- a result as a client tells it -/
structure Rslt where
  st : Nat
  code : Int
  text : Tx
deriving DecidableEq
def Rslt.cells (r : Rslt) : List Value := [.int .i64 (r.st : Int), .int .i64 r.code, .string (bs r.text)]
def toldP (p : Pers) : Rslt := ⟨if p.st = 0 then 1 else p.st, p.code, p.text⟩
def resV (L : List Rslt) : List Value := (L.map Rslt.cells).flatten
theorem resV_len : ∀ L : List Rslt, (resV L).length = L.length * 3
  | [] => rfl
  | r :: L => by
    have := resV_len L
    unfold resV at this ⊢
    rw [List.map_cons, List.flatten_cons, List.length_append, this, List.length_cons]
    show 3 + _ = _
    omega
theorem resV_app (L : List Rslt) (r : Rslt) : resV (L ++ [r]) = resV L ++ r.cells := by
  unfold resV
  simp
theorem resV_at {L : List Rslt} {i : Nat} {r : Rslt} (h : L[i]? = some r) {k : Nat} {v : Value} (hv : r.cells[k]? = some v) : (resV L)[i * 3 + k]? = some v := by
  induction L generalizing i with
  | nil => simp at h
  | cons x L ih =>
    have hk : k < 3 := (List.getElem?_eq_some_iff.1 hv).1
    unfold resV
    rw [List.map_cons, List.flatten_cons]
    cases i with
    | zero =>
      obtain rfl : x = r := by simpa using h
      rw [List.getElem?_append_left (by show 0 * 3 + k < 3; omega), Nat.zero_mul, Nat.zero_add]
      exact hv
    | succ i =>
      have hx : x.cells.length = 3 := rfl
      rw [List.getElem?_append_right (by rw [hx]; omega), hx, show (i + 1) * 3 + k - 3 = i * 3 + k by omega]
      exact ih (by simpa using h)
theorem one_res (r : Rslt) : ∀ u ∈ r.cells, u.oneCell' = true := by
  intro u hu
  simp only [Rslt.cells, List.mem_cons, List.not_mem_nil, or_false] at hu
  rcases hu with rfl | rfl | rfl <;> rfl
def ResPost (w : World) (L : List Rslt) (e : Ending) (w' : World) : Prop :=
  Below w.heap.size w w' ∧ ∃ g v, e = .returned v ∧ OwnX 3 w' g v (resV L) ∧ ∀ k, g = some k → w.heap.size ≤ k
set_option maxRecDepth 4000 in
set_option maxHeartbeats 4000000 in
theorem results_walk {w : World} {cb pb : Nat} {bb : Option Nat} {c : ClM} {q : CPts} (h : CliP w cb pb bb c q) (hn : c.ppl.length ≤ 1000) :
    Calls Tryz.prog 17 #[.pointer (some ⟨cb, 0, none⟩)] w (ResPost w (c.ppl.map toldP)) := by
  have HP := Lib.hid h.ppl
  have PO : Hid (∀ w' g v, Below w.heap.size w w' → OwnX 3 w' g v (resV (c.ppl.map toldP)) → (∀ k, g = some k → w.heap.size ≤ k) → ResPost w (c.ppl.map toldP) (.returned v) w') := Lib.hid fun w' g v h1 h2 h3 => ⟨h1, g, v, rfl, h2, h3⟩
  have k2 : w.cell? ⟨cb, 2, none⟩ = some (.slice (some ⟨pb, 0, none⟩) c.ppl.length q.cpp) := h.blk.cell 2
  generalize ResPost w (c.ppl.map toldP) = Post at *
  obtain ⟨L, hL⟩ : ∃ L, c.ppl = L := ⟨_, rfl⟩
  rw [hL] at HP PO k2 hn
  clear hL h
  go_enter Tryz.func17, Tryz.ntmps17
  go_wp2_with fail
  go_loopg [3, 5, 11] L.length (fun k s3 s5 i wr => ∃ (j : Nat) (g : Option Nat), i = .int .i64 (j : Int) ∧ j + k = L.length ∧ Hid (OwnX 3 wr g s3 (resV ((L.take j).map toldP))) ∧ Hid (∀ k, g = some k → w.heap.size ≤ k) ∧ Hid (Below w.heap.size w wr))
  case atStart => exact ⟨0, none, rfl, by omega, Lib.hid (OwnX.nil _ none), Lib.hid (fun k e => by cases e), Lib.hid (Below.refl _ _)⟩
  case round =>
    obtain ⟨j, g, rfl, hj, HO, HG, HB⟩ := hrel
    have HPJ := Lib.hid (HP.out.same (HB.out.block pb HP.out.lt))
    obtain ⟨A3, n3, c3, rfl, hx3, -, -⟩ := HO.out.sl
    by_cases hlt : j < L.length
    · have hj1 : (j : Int) < (L.length : Int) := by omega
      obtain ⟨p, hp⟩ : ∃ p, L[j]? = some p := ⟨_, List.getElem?_eq_getElem hlt⟩
      obtain ⟨c0, c1, c2, c3', c4⟩ := HPJ.out.at_ hp
      have HT : Hid (L.take (j + 1) = L.take j ++ [p]) := Lib.hid (by rw [List.take_add_one, hp]; rfl)
      have HJ := Lib.hid hj
      have HLT := Lib.hid hlt
      have HN := Lib.hid hn
      have HX3 := Lib.hid hx3
      have hcase : (((p.st : Int) == 0) = true ∧ toldP p = ⟨1, p.code, p.text⟩) ∨ (((p.st : Int) == 0) = false ∧ toldP p = ⟨p.st, p.code, p.text⟩) := by
        by_cases h0 : p.st = 0
        · exact .inl ⟨by rw [h0]; rfl, by unfold toldP; rw [if_pos h0]⟩
        · exact .inr ⟨beq_eq_false_iff_ne.2 (by omega), by unfold toldP; rw [if_neg h0]⟩
      clear hp hj hlt hx3
      rcases hcase with ⟨h0, ht⟩ | ⟨h0, ht⟩
      · have HTP := Lib.hid ht
        clear ht
        go_upto_region 7 with fail
        obtain ⟨w4, hw4⟩ : ∃ w4, (wr.alloc (.cells #[.string (bs p.angle), .bool p.taken, .int .i64 1, .int .i64 p.code, .string (bs p.text)] 74)) = w4 := ⟨_, rfl⟩
        have HB4 : Hid (Below wr.heap.size wr w4) := Lib.hid (by rw [← hw4]; exact ((Below.refl _ _).alloc (Nat.le_refl _) _))
        have hbk : Blk w4 wr.heap.size 74 #[.string (bs p.angle), .bool p.taken, .int .i64 1, .int .i64 p.code, .string (bs p.text)] := by rw [← hw4]; exact Blk.new _ _ _
        rw [hw4]
        clear hw4
        have d2 : w4.cell? ⟨wr.heap.size, 2, none⟩ = some (.int .i64 1) := hbk.cell 2
        have d3 : w4.cell? ⟨wr.heap.size, 3, none⟩ = some (.int .i64 p.code) := hbk.cell 3
        have d4 : w4.cell? ⟨wr.heap.size, 4, none⟩ = some (.string (bs p.text)) := hbk.cell 4
        clear hbk
        have HO4 := Lib.hid (HO.out.below HB4.out (fun k e => HO.out.lt e))
        have HBA := Lib.hid ((HB.out.trans (HB4.out.mono HB.out.size)).alloc (Nat.le_trans HB.out.size HB4.out.size) (.cells #[.int .i64 1, .int .i64 p.code, .string (bs p.text)] 59))
        go_wp2_with (at_builtin; refine wpList_appX _ uxR (.tmp 21) (.tmp 24) rfl rfl rfl (HO4.out.same (by simp) (fun k hk => Below.heap_alloc _ _ k (HO4.out.lt hk))) (some ⟨w4.heap.size, 0, none⟩) 1 1 rfl [.int .i64 1, .int .i64 p.code, .string (bs p.text)] rfl (fun h => by cases h) (newsR w4 59 [.int .i64 1, .int .i64 p.code, .string (bs p.text)]) (one_res ⟨1, p.code, p.text⟩) (by rw [resV_len, List.length_map, List.length_take]; have := HN.out; omega) ?_; intro v5 g5 w5 hX5 hG5 ho5; have HX5 := Lib.hid hX5; have HB5 := Lib.hid (belowR HBA.out hG5 HG.out HBA.out.size); have HG5 : Hid (∀ k, g5 = some k → w.heap.size ≤ k) := Lib.hid (fun k hk => by rcases ho5 with h | h; (rw [h] at hk; exact HG.out k hk); (rw [h] at hk; cases hk; exact HBA.out.size)); clear hX5 hG5 ho5)
        go_roundg (gk - 1)
        case rel => exact ⟨j + 1, g5, by have := HLT.out; have := HN.out; go_num, by have := HJ.out; have := HLT.out; omega, Lib.hid (by rw [HT.out, List.map_append, List.map_cons, List.map_nil, resV_app, HTP.out]; exact HX5.out), HG5, HB5⟩
        case measure => have := HJ.out; have := HLT.out; omega
      · have HTP := Lib.hid ht
        clear ht
        go_upto_region 7 with fail
        obtain ⟨w4, hw4⟩ : ∃ w4, (wr.alloc (.cells #[.string (bs p.angle), .bool p.taken, .int .i64 (p.st : Int), .int .i64 p.code, .string (bs p.text)] 74)) = w4 := ⟨_, rfl⟩
        have HB4 : Hid (Below wr.heap.size wr w4) := Lib.hid (by rw [← hw4]; exact ((Below.refl _ _).alloc (Nat.le_refl _) _))
        have hbk : Blk w4 wr.heap.size 74 #[.string (bs p.angle), .bool p.taken, .int .i64 (p.st : Int), .int .i64 p.code, .string (bs p.text)] := by rw [← hw4]; exact Blk.new _ _ _
        rw [hw4]
        clear hw4
        have d2 : w4.cell? ⟨wr.heap.size, 2, none⟩ = some (.int .i64 (p.st : Int)) := hbk.cell 2
        have d3 : w4.cell? ⟨wr.heap.size, 3, none⟩ = some (.int .i64 p.code) := hbk.cell 3
        have d4 : w4.cell? ⟨wr.heap.size, 4, none⟩ = some (.string (bs p.text)) := hbk.cell 4
        clear hbk
        have HO4 := Lib.hid (HO.out.below HB4.out (fun k e => HO.out.lt e))
        have HBA := Lib.hid ((HB.out.trans (HB4.out.mono HB.out.size)).alloc (Nat.le_trans HB.out.size HB4.out.size) (.cells #[.int .i64 (p.st : Int), .int .i64 p.code, .string (bs p.text)] 59))
        go_wp2_with (at_builtin; refine wpList_appX _ uxR (.tmp 21) (.tmp 24) rfl rfl rfl (HO4.out.same (by simp) (fun k hk => Below.heap_alloc _ _ k (HO4.out.lt hk))) (some ⟨w4.heap.size, 0, none⟩) 1 1 rfl [.int .i64 (p.st : Int), .int .i64 p.code, .string (bs p.text)] rfl (fun h => by cases h) (newsR w4 59 [.int .i64 (p.st : Int), .int .i64 p.code, .string (bs p.text)]) (one_res ⟨p.st, p.code, p.text⟩) (by rw [resV_len, List.length_map, List.length_take]; have := HN.out; omega) ?_; intro v5 g5 w5 hX5 hG5 ho5; have HX5 := Lib.hid hX5; have HB5 := Lib.hid (belowR HBA.out hG5 HG.out HBA.out.size); have HG5 : Hid (∀ k, g5 = some k → w.heap.size ≤ k) := Lib.hid (fun k hk => by rcases ho5 with h | h; (rw [h] at hk; exact HG.out k hk); (rw [h] at hk; cases hk; exact HBA.out.size)); clear hX5 hG5 ho5)
        go_roundg (gk - 1)
        case rel => exact ⟨j + 1, g5, by have := HLT.out; have := HN.out; go_num, by have := HJ.out; have := HLT.out; omega, Lib.hid (by rw [HT.out, List.map_append, List.map_cons, List.map_nil, resV_app, HTP.out]; exact HX5.out), HG5, HB5⟩
        case measure => have := HJ.out; have := HLT.out; omega
    · have hj1 : ¬ (j : Int) < (L.length : Int) := by omega
      obtain rfl : j = L.length := by omega
      rw [List.take_length] at HO
      have H := Lib.hid (PO.out wr g _ HB.out HO.out HG.out)
      clear hlt hj
      go_wp2_with fail
      exact H.out
end Go.Proofs.YtjnjnccfojfghaaGreatDoor

/-! A client as the laws hold it: where it stands, how long it is, above which block it lies; Lost, Tick, Over, Well, Results on it. No condition but its own. -/
namespace Go.Proofs.YtjnjnccfojfghaaGreatDoor
open Go.RowKit
set_option linter.unusedVariables false
/-- put together again -/
theorem CliP.renew {w w' : World} {cb pb : Nat} {bb : Option Nat} {c : ClM} {q : CPts} (h : CliP w cb pb bb c q) (hz : w.heap.size ≤ w'.heap.size) (hp : w'.heap[pb]? = w.heap[pb]?) (hbb : ∀ k, bb = some k → w'.heap[k]? = w.heap[k]?) {c' : ClM} {q' : CPts}
    (e1 : c'.ppl = c.ppl) (e2 : c'.body = c.body) (f3 : q'.Ab = q.Ab)
    (hb : Blk w' cb 72 (cliC c'.name c'.frm (.slice (some ⟨pb, 0, none⟩) c'.ppl.length q'.cpp) (.slice q'.Ab c'.body.length q'.cbb) c'.stage c'.pos q'.lv q'.ov c'.idle c'.well))
    (hl : OwnQ w' 0 q'.lw q'.lv c'.left) (ho : OwnB w' 0 5 q'.ov c'.out) (lc : q'.lw ≠ some cb) (lp : q'.lw ≠ some pb) (oc : q'.ov.ownBlock ≠ some cb) (op : q'.ov.ownBlock ≠ some pb)
    (lo : ∀ k, q'.lw = some k → q'.ov.ownBlock ≠ some k) (lb : ∀ k, bb = some k → q'.lw ≠ some k) (ob : ∀ k, bb = some k → q'.ov.ownBlock ≠ some k) : CliP w' cb pb bb c' q' :=
  ⟨hb, by rw [e1]; exact h.ppl.same hp, by rw [e2, f3]; exact h.body.same hz (fun a ha _ => hbb _ (h.ab a ha)), by rw [f3]; exact h.ab, hl, ho, lc, lp, oc, op, lo, lb, ob, h.pc, h.bc, h.bp, fun k hk => Nat.lt_of_lt_of_le (h.bl k hk) hz⟩
/-- its own blocks -/
def Foot (cb pb : Nat) (bb : Option Nat) (q : CPts) (k : Nat) : Prop := k = cb ∨ k = pb ∨ bb = some k ∨ q.lw = some k ∨ q.ov.ownBlock = some k
theorem CliP.stay {w w' : World} {cb pb : Nat} {bb : Option Nat} {c : ClM} {q : CPts} (h : CliP w cb pb bb c q) (hz : w.heap.size ≤ w'.heap.size) (hs : ∀ k, Foot cb pb bb q k → w'.heap[k]? = w.heap[k]?) : CliP w' cb pb bb c q :=
  h.renew hz (hs pb (.inr (.inl rfl))) (fun k hk => hs k (.inr (.inr (.inl hk)))) rfl rfl rfl ((hs cb (.inl rfl)).trans h.blk) (h.left.same fun k hk => hs k (.inr (.inr (.inr (.inl hk))))) (h.out.same fun k hk => hs k (.inr (.inr (.inr (.inr hk))))) h.lc h.lp h.oc h.op h.lo h.lb h.ob
theorem CliP.foot {w : World} {cb pb : Nat} {bb : Option Nat} {c : ClM} {q : CPts} (h : CliP w cb pb bb c q) {k : Nat} (hk : Foot cb pb bb q k) : k < w.heap.size := by
  rcases hk with rfl | rfl | hk | hk | hk
  · exact h.blk.lt
  · exact h.ppl.lt
  · exact h.bl k hk
  · exact h.left.lt_ hk
  · exact h.out.lt_ hk
/-- cells of the client's block alone changed -/
theorem CliP.only_ {w w' : World} {cb pb : Nat} {bb : Option Nat} {c c' : ClM} {q : CPts} (h : CliP w cb pb bb c q) (ho : Only cb w w') (h1 : c'.ppl = c.ppl) (h2 : c'.body = c.body) (h3 : c'.left = c.left) (h4 : c'.out = c.out)
    (hb : Blk w' cb 72 (cliC c'.name c'.frm (.slice (some ⟨pb, 0, none⟩) c'.ppl.length q.cpp) (.slice q.Ab c'.body.length q.cbb) c'.stage c'.pos q.lv q.ov c'.idle c'.well)) : CliP w' cb pb bb c' q := by
  have hk : ∀ k, k < w.heap.size → k ≠ cb → w'.heap[k]? = w.heap[k]? := fun k h1 h2 => ho.block k h1 (fun e => h2 (by injection e))
  exact h.renew ho.size (hk pb h.ppl.lt h.pc) (fun k e => hk k (h.bl k e) (fun e2 => h.bc (by rw [e, e2]))) h1 h2 rfl hb (by rw [h3]; exact h.left.same fun k e => hk k (h.left.lt_ e) (fun e2 => h.lc (by rw [e, e2]))) (by rw [h4]; exact h.out.same fun k e => hk k (h.out.lt_ e) (fun e2 => h.oc (by rw [e, e2]))) h.lc h.lp h.oc h.op h.lo h.lb h.ob
structure CliB (B : Nat) (w : World) (cb pb : Nat) (bb : Option Nat) (c : ClM) (q : CPts) : Prop where
  cl : CliP w cb pb bb c q
  ok : COk c
  cB : B ≤ cb
  pB : B ≤ pb
  lB : ∀ k, q.lw = some k → B ≤ k
  oB : ∀ k, q.ov.ownBlock = some k → B ≤ k
  idl : c.idle ≤ 300
theorem CliB.same {B : Nat} {w w' : World} {cb pb : Nat} {bb : Option Nat} {c : ClM} {q : CPts} (h : CliB B w cb pb bb c q) (hb : Below w.heap.size w w') : CliB B w' cb pb bb c q := ⟨h.cl.same hb, h.ok, h.cB, h.pB, h.lB, h.oB, h.idl⟩
theorem CliB.stay {B : Nat} {w w' : World} {cb pb : Nat} {bb : Option Nat} {c : ClM} {q : CPts} (h : CliB B w cb pb bb c q) (hz : w.heap.size ≤ w'.heap.size) (hs : ∀ k, Foot cb pb bb q k → w'.heap[k]? = w.heap[k]?) : CliB B w' cb pb bb c q := ⟨h.cl.stay hz hs, h.ok, h.cB, h.pB, h.lB, h.oB, h.idl⟩
theorem CliB.lt {B : Nat} {w : World} {cb pb : Nat} {bb : Option Nat} {c : ClM} {q : CPts} (h : CliB B w cb pb bb c q) : B < w.heap.size := Nat.lt_of_le_of_lt h.cB h.cl.blk.lt
theorem COk.stop {c : ClM} (h : COk c) : COk { c with stage := 8 } := by
  refine ⟨⟨h.sz.nm, h.sz.fr, h.sz.an, h.sz.bd, h.sz.n50⟩, Nat.le_refl 8, fun h => absurd (show (8 : Nat) ≤ 4 from h) (by decide), ?_⟩
  have h2 : rk { c with stage := 8 } ≤ rk c := by
    show (8 - 8) + (c.ppl.length - c.pos) ≤ (8 - c.stage) + (c.ppl.length - c.pos)
    omega
  exact le_help h.ln h2
def lostC (c : ClM) : ClM := { c with stage := 8 }
theorem lost_law {B : Nat} {w : World} {cb pb : Nat} {bb : Option Nat} {c : ClM} {q : CPts} (h : CliB B w cb pb bb c q) :
    Calls Tryz.prog 24 #[.pointer (some ⟨cb, 0, none⟩)] w fun e w' => e = .returned (.tuple #[]) ∧ CliB B w' cb pb bb (lostC c) q ∧ Only cb w w' := by
  refine (lost_walk w cb c.name c.frm (.slice (some ⟨pb, 0, none⟩) c.ppl.length q.cpp) (.slice q.Ab c.body.length q.cbb) c.stage c.pos q.lv q.ov c.idle c.well h.cl.blk).mono ?_
  rintro e w' ⟨rfl, hb, ho⟩
  exact ⟨rfl, ⟨h.cl.only_ ho rfl rfl rfl rfl hb, h.ok.stop, h.cB, h.pB, h.lB, h.oB, h.idl⟩, ho⟩
def tickC (c : ClM) (n : Int) : ClM := { c with stage := tickS c.stage c.idle n, idle := tickI c.idle n }
theorem tick_law {B : Nat} {w : World} {cb pb : Nat} {bb : Option Nat} {c : ClM} {q : CPts} (h : CliB B w cb pb bb c q) (n : Int) :
    Calls Tryz.prog 26 #[.pointer (some ⟨cb, 0, none⟩), .int .i64 n] w fun e w' => e = .returned (.tuple #[]) ∧ CliB B w' cb pb bb (tickC c n) q ∧ Only cb w w' := by
  refine (tick_walk w cb c.name c.frm (.slice (some ⟨pb, 0, none⟩) c.ppl.length q.cpp) (.slice q.Ab c.body.length q.cbb) c.stage c.pos q.lv q.ov c.idle c.well h.cl.blk h.idl n).mono ?_
  rintro e w' ⟨rfl, hb, ho⟩
  refine ⟨rfl, ⟨h.cl.only_ ho rfl rfl rfl rfl hb, ?_, h.cB, h.pB, h.lB, h.oB, ?_⟩, ho⟩
  · have hst : (tickC c n).stage = c.stage ∨ (tickC c n).stage = 8 := by
      show tickS c.stage c.idle n = c.stage ∨ tickS c.stage c.idle n = 8
      unfold tickS
      split
      · exact .inl rfl
      · split
        · exact .inr rfl
        · exact .inl rfl
    rcases hst with hst | hst
    · refine ⟨⟨h.ok.sz.nm, h.ok.sz.fr, h.ok.sz.an, h.ok.sz.bd, h.ok.sz.n50⟩, by rw [hst]; exact h.ok.st, by rw [hst]; exact h.ok.pos, ?_⟩
      have h1 := h.ok.ln
      have h2 : rk (tickC c n) = rk c := by
        show (8 - (tickC c n).stage) + (c.ppl.length - c.pos) = _
        rw [hst]
        rfl
      rw [h2]
      exact h1
    · have k := h.ok.stop
      refine ⟨⟨k.sz.nm, k.sz.fr, k.sz.an, k.sz.bd, k.sz.n50⟩, by rw [hst]; exact Nat.le_refl 8, fun h => by rw [hst] at h; omega, ?_⟩
      have h2 : rk (tickC c n) = rk { c with stage := 8 } := by
        show (8 - (tickC c n).stage) + (c.ppl.length - c.pos) = _
        rw [hst]
        rfl
      rw [h2]
      exact k.ln
  · have hi := h.idl
    show tickI c.idle n ≤ 300
    unfold tickI
    split
    · exact hi
    · exact Nat.min_le_left _ _
theorem over_law {B : Nat} {w : World} {cb pb : Nat} {bb : Option Nat} {c : ClM} {q : CPts} (h : CliB B w cb pb bb c q) :
    Calls Tryz.prog 19 #[.pointer (some ⟨cb, 0, none⟩)] w fun e w' => w = w' ∧ e = .returned (.bool (decide (c.stage = 8))) :=
  (over_walk w cb c.name c.frm (.slice (some ⟨pb, 0, none⟩) c.ppl.length q.cpp) (.slice q.Ab c.body.length q.cbb) c.stage c.pos q.lv q.ov c.idle c.well h.cl.blk).mono fun e w' h => ⟨h.1.symm, h.2⟩
theorem well_law {B : Nat} {w : World} {cb pb : Nat} {bb : Option Nat} {c : ClM} {q : CPts} (h : CliB B w cb pb bb c q) :
    Calls Tryz.prog 22 #[.pointer (some ⟨cb, 0, none⟩)] w fun e w' => w = w' ∧ e = .returned (.bool c.well) :=
  (well_walk w cb c.name c.frm (.slice (some ⟨pb, 0, none⟩) c.ppl.length q.cpp) (.slice q.Ab c.body.length q.cbb) c.stage c.pos q.lv q.ov c.idle c.well h.cl.blk).mono fun e w' h => ⟨h.1.symm, h.2⟩
theorem results_law {B : Nat} {w : World} {cb pb : Nat} {bb : Option Nat} {c : ClM} {q : CPts} (h : CliB B w cb pb bb c q) :
    Calls Tryz.prog 17 #[.pointer (some ⟨cb, 0, none⟩)] w (ResPost w (c.ppl.map toldP)) :=
  results_walk h.cl (Nat.le_trans h.ok.sz.n50 (by decide))
end Go.Proofs.YtjnjnccfojfghaaGreatDoor
