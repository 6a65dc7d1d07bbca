/-
  Several texts in one: ScPpl, ScAll, ScCli, ScDo. Conditions: each part names its own.
-/
import Derived.Test.YtjnjnccfojfghaaGreatDoorMg12
set_option linter.unusedSimpArgs false
/-! A client's people in memory; what all makes of them. No condition. -/
namespace Go.Proofs.YtjnjnccfojfghaaGreatDoor
open Go.RowKit
set_option linter.unusedVariables false
structure Pers where
  angle : Tx
  taken : Bool
  st : Nat
  code : Int
  text : Tx
/-- person i's five cells -/
structure PC (C : Array Value) (i : Nat) (p : Pers) : Prop where
  c0 : C[i * 5]? = some (.string (bs p.angle))
  c1 : C[i * 5 + 1]? = some (.bool p.taken)
  c2 : C[i * 5 + 2]? = some (.int .i64 (p.st : Int))
  c3 : C[i * 5 + 3]? = some (.int .i64 p.code)
  c4 : C[i * 5 + 4]? = some (.string (bs p.text))
def PplB (w : World) (pb : Nat) (L : List Pers) : Prop := ∃ C, Blk w pb 74 C ∧ ∀ i p, L[i]? = some p → PC C i p
section
variable {w w' : World} {pb : Nat} {L : List Pers}
theorem PplB.at_ (h : PplB w pb L) {i : Nat} {p : Pers} (hp : L[i]? = some p) : w.cell? ⟨pb, i * 5, none⟩ = some (.string (bs p.angle)) ∧ w.cell? ⟨pb, i * 5 + 1, none⟩ = some (.bool p.taken) ∧ w.cell? ⟨pb, i * 5 + 2, none⟩ = some (.int .i64 (p.st : Int)) ∧ w.cell? ⟨pb, i * 5 + 3, none⟩ = some (.int .i64 p.code) ∧ w.cell? ⟨pb, i * 5 + 4, none⟩ = some (.string (bs p.text)) := by
  obtain ⟨C, hb, hc⟩ := h
  have k := hc i p hp
  exact ⟨(hb.cell _).trans k.c0, (hb.cell _).trans k.c1, (hb.cell _).trans k.c2, (hb.cell _).trans k.c3, (hb.cell _).trans k.c4⟩
theorem PplB.fz (h : PplB w pb L) (i : Nat) : w.frozen? ⟨pb, i, none⟩ = false := by
  obtain ⟨C, hb, hc⟩ := h
  exact hb.frozen i
theorem PplB.lt (h : PplB w pb L) : pb < w.heap.size := by
  obtain ⟨C, hb, hc⟩ := h
  exact hb.lt
theorem PplB.same (h : PplB w pb L) (hs : w'.heap[pb]? = w.heap[pb]?) : PplB w' pb L := by
  obtain ⟨C, hb, hc⟩ := h
  exact ⟨C, hs.trans hb, hc⟩
theorem PplB.set_ (h : PplB w pb L) {j : Nat} {p : Pers} (hp : L[j]? = some p) (a : Nat) (b : Int) (c : Tx) :
    PplB (((w.setCell ⟨pb, j * 5 + 2, none⟩ (.int .i64 (a : Int))).setCell ⟨pb, j * 5 + 3, none⟩ (.int .i64 b)).setCell ⟨pb, j * 5 + 4, none⟩ (.string (bs c))) pb (L.set j { p with st := a, code := b, text := c }) := by
  obtain ⟨C, hb, hc⟩ := h
  have k := hc j p hp
  have z4 : j * 5 + 4 < C.size := (Array.getElem?_eq_some_iff.1 k.c4).1
  refine ⟨_, ((hb.set_ _ _).set_ _ _).set_ _ _, fun i q hq => ?_⟩
  by_cases hij : i = j
  · subst hij
    have hl := (List.getElem?_eq_some_iff.1 hp).1
    rw [List.getElem?_set_self hl] at hq
    obtain rfl := Option.some.inj hq
    refine ⟨?_, ?_, ?_, ?_, ?_⟩
    · rw [Array.getElem?_setIfInBounds_ne (by omega), Array.getElem?_setIfInBounds_ne (by omega), Array.getElem?_setIfInBounds_ne (by omega)]; exact k.c0
    · rw [Array.getElem?_setIfInBounds_ne (by omega), Array.getElem?_setIfInBounds_ne (by omega), Array.getElem?_setIfInBounds_ne (by omega)]; exact k.c1
    · rw [Array.getElem?_setIfInBounds_ne (by omega), Array.getElem?_setIfInBounds_ne (by omega), Array.getElem?_setIfInBounds_self_of_lt (by omega)]
    · rw [Array.getElem?_setIfInBounds_ne (by omega), Array.getElem?_setIfInBounds_self_of_lt (by simp; omega)]
    · rw [Array.getElem?_setIfInBounds_self_of_lt (by simp; omega)]
  · rw [List.getElem?_set_ne (fun e => hij e.symm)] at hq
    have kq := hc i q hq
    refine ⟨?_, ?_, ?_, ?_, ?_⟩
    · rw [Array.getElem?_setIfInBounds_ne (by omega), Array.getElem?_setIfInBounds_ne (by omega), Array.getElem?_setIfInBounds_ne (by omega)]; exact kq.c0
    · rw [Array.getElem?_setIfInBounds_ne (by omega), Array.getElem?_setIfInBounds_ne (by omega), Array.getElem?_setIfInBounds_ne (by omega)]; exact kq.c1
    · rw [Array.getElem?_setIfInBounds_ne (by omega), Array.getElem?_setIfInBounds_ne (by omega), Array.getElem?_setIfInBounds_ne (by omega)]; exact kq.c2
    · rw [Array.getElem?_setIfInBounds_ne (by omega), Array.getElem?_setIfInBounds_ne (by omega), Array.getElem?_setIfInBounds_ne (by omega)]; exact kq.c3
    · rw [Array.getElem?_setIfInBounds_ne (by omega), Array.getElem?_setIfInBounds_ne (by omega), Array.getElem?_setIfInBounds_ne (by omega)]; exact kq.c4
end
/-- what all makes of one of them -/
def decP (taken : Bool) (st : Nat) (code : Int) (text : Tx) (p : Pers) : Pers := if p.st = 0 ∧ (p.taken = true ∨ taken = false) then { p with st := st, code := code, text := text } else p
def allM (taken : Bool) (st : Nat) (code : Int) (text : Tx) (L : List Pers) (j : Nat) : List Pers := (L.take j).map (decP taken st code text) ++ L.drop j
theorem allM_at (f : Bool) (st : Nat) (code : Int) (text : Tx) {L : List Pers} {j : Nat} {p : Pers} (hp : L[j]? = some p) : (allM f st code text L j)[j]? = some p := by
  have hl := (List.getElem?_eq_some_iff.1 hp).1
  have h1 : ((L.take j).map (decP f st code text)).length = j := by rw [List.length_map, List.length_take]; omega
  unfold allM
  rw [List.getElem?_append_right (by omega), h1, Nat.sub_self, List.getElem?_drop, Nat.add_zero]
  exact hp
theorem allM_set (f : Bool) (st : Nat) (code : Int) (text : Tx) {L : List Pers} {j : Nat} {p : Pers} (hp : L[j]? = some p) : (allM f st code text L j).set j (decP f st code text p) = allM f st code text L (j + 1) := by
  have hl := (List.getElem?_eq_some_iff.1 hp).1
  have h1 : ((L.take j).map (decP f st code text)).length = j := by rw [List.length_map, List.length_take]; omega
  have h2 : L.drop j = p :: L.drop (j + 1) := by
    rw [List.drop_eq_getElem_cons hl]
    congr 1
    exact (List.getElem?_eq_some_iff.1 hp).2
  unfold allM
  rw [List.set_append_right _ _ (by omega), h1, Nat.sub_self, h2, List.take_add_one, hp]
  simp
end Go.Proofs.YtjnjnccfojfghaaGreatDoor

/-! The walk of smtpc's all. Condition: the lengths. -/
namespace Go.Proofs.YtjnjnccfojfghaaGreatDoor
open Go.RowKit
set_option linter.unusedVariables false
def AllPost (w : World) (cb pb : Nat) (name frm : Tx) (pv bv : Value) (pos : Nat) (lv : Value) (idle : Nat) (well : Bool) (B : Nat) (ob : Option Nat) (l : Tx) (L : List Pers) (e : Ending) (w' : World) : Prop :=
  e = .returned (.tuple #[]) ∧ ∃ v', Blk w' cb 72 (cliC name frm pv bv 7 pos lv v' idle well) ∧ OwnB w' B 5 v' l ∧ PplB w' pb L ∧ NewOr w.heap.size ob v' ∧ Safe (fun k => Stay w.heap.size cb ob k ∧ k ≠ pb) w w'
set_option maxRecDepth 4000 in
set_option maxHeartbeats 4000000 in
theorem all_walk (w : World) (cb pb : Nat) (name frm : Tx) (cpp : Nat) (bv : Value) (stage pos : Nat) (lv ov : Value) (idle : Nat) (well : Bool) (L : List Pers) (n : Nat) (hn : n = L.length) (hb : Blk w cb 72 (cliC name frm (.slice (some ⟨pb, 0, none⟩) n cpp) bv stage pos lv ov idle well)) (B : Nat) (hB : B ≤ w.heap.size) (l : Tx) (ho : OwnB w B 5 ov l) (hne : ov.ownBlock ≠ some cb)
    (hp : PplB w pb L) (hpc : pb ≠ cb) (hop : ov.ownBlock ≠ some pb) (f : Bool) (st : Nat) (code : Int) (lb lo nl cl : Nat) (text : Tx) (h0 : 0 < nl) (ht : w.cell? ⟨lb, lo, none⟩ = some (.string (bs text))) (hlp : lb ≠ pb) (hln : L.length ≤ 1000) (hlen : l.length + name.length + frm.length ≤ 10000000000) :
    Calls Tryz.prog 100 #[.pointer (some ⟨cb, 0, none⟩), .bool f, .int .i64 (st : Int), .agg #[.int .i64 code, .slice (some ⟨lb, lo, none⟩) nl cl]] w (AllPost w cb pb name frm (.slice (some ⟨pb, 0, none⟩) n cpp) bv pos lv idle well B ov.ownBlock (l ++ [81, 85, 73, 84] ++ [13, 10]) (L.map (decP f st code text))) := by
  subst hn
  obtain ⟨w1, hw1⟩ : ∃ w1, w.alloc (.cells #[.int .i64 code, .slice (some ⟨lb, lo, none⟩) nl cl] 57) = w1 := ⟨_, rfl⟩
  have hs1 : w1.heap.size = w.heap.size + 1 := by rw [← hw1]; simp
  have hbr : Blk w1 w.heap.size 57 #[.int .i64 code, .slice (some ⟨lb, lo, none⟩) nl cl] := by rw [← hw1]; exact Blk.new w _ _
  have hb1 : Blk w1 cb 72 (cliC name frm (.slice (some ⟨pb, 0, none⟩) L.length cpp) bv stage pos lv ov idle well) := by rw [← hw1]; exact hb.alloc _
  have ho1 : OwnB w1 B 5 ov l := by rw [← hw1]; exact ho.alloc _
  have hp1 : PplB w1 pb L := by rw [← hw1]; exact hp.same (Below.heap_alloc w _ pb hp.lt)
  have hlb := World.block_lt_of_cell? _ _ ht
  have ht1 : w1.cell? ⟨lb, lo, none⟩ = some (.string (bs text)) := by rw [← hw1, World.cell?_alloc_lt _ _ _ hlb]; exact ht
  have hsf : Safe (fun k => Stay w.heap.size cb ov.ownBlock k ∧ k ≠ pb) w w1 := by rw [← hw1]; exact (Safe.refl _ w).below ((Below.refl _ _).alloc (Nat.le_refl _) _) (fun k hk => hk.1.1)
  have hpl := hp.lt
  have hcl := hb.lt
  have HP1 := Lib.hid hp1
  have HB1 := Lib.hid hb1
  have HO1 := Lib.hid ho1
  have HBR := Lib.hid hbr
  have HT1 := Lib.hid ht1
  have HSF := Lib.hid hsf
  have HNE := Lib.hid hne
  have HOP := Lib.hid hop
  have HLN := Lib.hid hlen
  have PO : Hid (∀ w' v', Blk w' cb 72 (cliC name frm (.slice (some ⟨pb, 0, none⟩) L.length cpp) bv 7 pos lv v' idle well) → OwnB w' B 5 v' (l ++ [81, 85, 73, 84] ++ [13, 10]) → PplB w' pb (L.map (decP f st code text)) → NewOr w.heap.size ov.ownBlock v' → Safe (fun k => Stay w.heap.size cb ov.ownBlock k ∧ k ≠ pb) w w' → AllPost w cb pb name frm (.slice (some ⟨pb, 0, none⟩) L.length cpp) bv pos lv idle well B ov.ownBlock (l ++ [81, 85, 73, 84] ++ [13, 10]) (L.map (decP f st code text)) (.returned (.tuple #[])) w') := Lib.hid fun w' v' h1 h2 h3 h4 h5 => ⟨rfl, v', h1, h2, h3, h4, h5⟩
  generalize AllPost w cb pb name frm (.slice (some ⟨pb, 0, none⟩) L.length cpp) bv pos lv idle well B ov.ownBlock (l ++ [81, 85, 73, 84] ++ [13, 10]) (L.map (decP f st code text)) = Post at *
  have k2 : w1.cell? ⟨cb, 2, none⟩ = some (.slice (some ⟨pb, 0, none⟩) L.length cpp) := hb1.cell 2
  clear hb hb1 ho ho1 hbr hp hp1 ht ht1 hsf hne hop hlen
  go_enter Tryz.func100, Tryz.ntmps100
  go_wp2_with fail
  clear hw1 k2
  go_loopg [8, 9, 15] L.length (fun k s8 s9 i wr => ∃ j : Nat, i = .int .i64 (j : Int) ∧ j + k = L.length ∧ Hid (PplB wr pb (allM f st code text L j)) ∧ Hid (Only pb w1 wr))
  case atStart => exact ⟨0, rfl, by omega, Lib.hid (by have h : allM f st code text L 0 = L := by simp [allM]
                                                       rw [h]; exact HP1.out), Lib.hid (Only.refl _)⟩
  case round =>
    obtain ⟨j, rfl, hj, HP, HO⟩ := hrel
    have HBJ := Lib.hid (HB1.out.only HO.out hpc.symm)
    have HRJ := Lib.hid (HBR.out.only HO.out (by omega))
    have k2 : wr.cell? ⟨cb, 2, none⟩ = some (.slice (some ⟨pb, 0, none⟩) L.length cpp) := HBJ.out.cell 2
    by_cases hlt : j < L.length
    · have hj1 : (j : Int) < (L.length : Int) := by omega
      have hj0 : (0 : Int) ≤ (j : Int) := by omega
      obtain ⟨p, hp⟩ : ∃ p, L[j]? = some p := ⟨_, List.getElem?_eq_getElem hlt⟩
      obtain ⟨c0, c1, c2, c3, c4⟩ := HP.out.at_ (allM_at f st code text hp)
      have HSET := Lib.hid (allM_set f st code text hp)
      have HAT := Lib.hid (allM_at f st code text hp)
      have f2 := HP.out.fz (j * 5 + 2)
      have f3 := HP.out.fz (j * 5 + 3)
      have f4 := HP.out.fz (j * 5 + 4)
      have HD : Hid (decP f st code text p = if p.st = 0 ∧ (p.taken = true ∨ f = false) then { p with st := st, code := code, text := text } else p) := Lib.hid rfl
      have r0 : wr.cell? ⟨w.heap.size, 0, none⟩ = some (.int .i64 code) := HRJ.out.cell 0
      have r1 : wr.cell? ⟨w.heap.size, 1, none⟩ = some (.slice (some ⟨lb, lo, none⟩) nl cl) := HRJ.out.cell 1
      have rt : wr.cell? ⟨lb, lo, none⟩ = some (.string (bs text)) := by
        rw [← HT1.out]
        have hh := HO.out.block lb (by omega) (fun e => hlp (by injection e))
        unfold World.cell?
        simp only [hh]
      have hnl : (0 : Int) < (nl : Int) := by omega
      have r0d : wr.drew.cell? ⟨w.heap.size, 0, none⟩ = some (.int .i64 code) := r0
      have r1d : wr.drew.cell? ⟨w.heap.size, 1, none⟩ = some (.slice (some ⟨lb, lo, none⟩) nl cl) := r1
      have rtd : wr.drew.cell? ⟨lb, lo, none⟩ = some (.string (bs text)) := rt
      have c2d : wr.drew.cell? ⟨pb, j * 5 + 2, none⟩ = some (.int .i64 (p.st : Int)) := c2
      have c3d : wr.drew.cell? ⟨pb, j * 5 + 3, none⟩ = some (.int .i64 p.code) := c3
      have c4d : wr.drew.cell? ⟨pb, j * 5 + 4, none⟩ = some (.string (bs p.text)) := c4
      have f2d : wr.drew.frozen? ⟨pb, j * 5 + 2, none⟩ = false := f2
      have f3d : wr.drew.frozen? ⟨pb, j * 5 + 3, none⟩ = false := f3
      have f4d : wr.drew.frozen? ⟨pb, j * 5 + 4, none⟩ = false := f4
      have hcase : (p.st ≠ 0) ∨ (p.st = 0 ∧ p.taken = true) ∨ (p.st = 0 ∧ p.taken = false ∧ f = false) ∨ (p.st = 0 ∧ p.taken = false ∧ f = true) := by
        by_cases h1 : p.st = 0
        · cases h2 : p.taken
          · cases f
            · exact .inr (.inr (.inl ⟨h1, rfl, rfl⟩))
            · exact .inr (.inr (.inr ⟨h1, rfl, rfl⟩))
          · exact .inr (.inl ⟨h1, rfl⟩)
        · exact .inl h1
      have HJ := Lib.hid hj
      have HLT := Lib.hid hlt
      clear hp hj hlt
      obtain ⟨pa, pt, ps, pc, px⟩ := p
      simp only [] at c0 c1 c2 c3 c4 c2d c3d c4d hcase
      rcases hcase with h1 | ⟨rfl, rfl⟩ | ⟨rfl, rfl, rfl⟩ | ⟨rfl, rfl, rfl⟩
      · have h1i : ((ps : Int) == 0) = false := beq_eq_false_iff_ne.2 (by omega)
        have HE : Hid (allM f st code text L (j + 1) = allM f st code text L j) := Lib.hid (by
          rw [← HSET.out, HD.out, if_neg (fun h => h1 h.1)]
          obtain ⟨q1, q2⟩ := List.getElem?_eq_some_iff.1 HAT.out
          rw [← q2, List.set_getElem_self])
        clear h1
        go_wp2_with fail
        go_roundg (gk - 1)
        case rel => exact ⟨j + 1, by go_num, by have := HJ.out; have := HLT.out; omega, Lib.hid (by rw [HE.out]; exact HP.out), HO⟩
        case measure => have := HJ.out; have := HLT.out; omega
      · have HDT : Hid (decP f st code text ⟨pa, true, 0, pc, px⟩ = ⟨pa, true, st, code, text⟩) := Lib.hid (if_pos ⟨rfl, .inl rfl⟩)
        clear HD
        go_wp2_with fail
        go_region
        all_goals
          go_wp2_with fail
          go_roundg (gk - 1)
          case rel => exact ⟨j + 1, by go_num, by have := HJ.out; have := HLT.out; omega, Lib.hid (by
            rw [← HSET.out, HDT.out]
            exact PplB.set_ (show PplB wr.drew pb _ from HP.out) HAT.out st code text), Lib.hid ((((HO.out.drew 1).set_ _ _).set_ _ _).set_ _ _)⟩
          case measure => have := HJ.out; have := HLT.out; omega
      · have HDT : Hid (decP false st code text ⟨pa, false, 0, pc, px⟩ = ⟨pa, false, st, code, text⟩) := Lib.hid (if_pos ⟨rfl, .inr rfl⟩)
        clear HD
        go_wp2_with fail
        go_region
        all_goals
          go_wp2_with fail
          go_roundg (gk - 1)
          case rel => exact ⟨j + 1, by go_num, by have := HJ.out; have := HLT.out; omega, Lib.hid (by
            rw [← HSET.out, HDT.out]
            exact PplB.set_ (show PplB wr.drew pb _ from HP.out) HAT.out st code text), Lib.hid ((((HO.out.drew 1).set_ _ _).set_ _ _).set_ _ _)⟩
          case measure => have := HJ.out; have := HLT.out; omega
      · have HE : Hid (allM true st code text L (j + 1) = allM true st code text L j) := Lib.hid (by
          rw [← HSET.out, HD.out, if_neg (fun h => by rcases h.2 with h | h <;> cases h)]
          obtain ⟨q1, q2⟩ := List.getElem?_eq_some_iff.1 HAT.out
          rw [← q2, List.set_getElem_self])
        clear HD
        go_wp2_with fail
        go_roundg (gk - 1)
        case rel => exact ⟨j + 1, by go_num, by have := HJ.out; have := HLT.out; omega, Lib.hid (by rw [HE.out]; exact HP.out), HO⟩
        case measure => have := HJ.out; have := HLT.out; omega
    · have hj1 : ¬ (j : Int) < (L.length : Int) := by omega
      obtain rfl : j = L.length := by omega
      have hE : allM f st code text L L.length = L.map (decP f st code text) := by simp [allM]
      rw [hE] at HP
      have hz : w1.heap.size ≤ wr.heap.size := HO.out.size
      have K7 := Lib.hid (begin_7 wr cb name frm (.slice (some ⟨pb, 0, none⟩) L.length cpp) bv stage pos lv ov idle well HBJ.out B (by omega) l (HO1.out.only HO.out HOP.out) HNE.out HLN.out)
      clear hE hlt
      go_wp2_with fail
      refine K7.out.mono ?_
      rintro e w5 ⟨rfl, v', h3, h4, h5, h6⟩
      have hpb : pb < wr.heap.size := HP.out.lt
      have q1 := HP.out.same (h6.block pb ⟨hpb, hpc, HOP.out⟩)
      have q2 : NewOr w.heap.size ov.ownBlock v' := by
        rcases h5 with h5 | ⟨q, h5, hq⟩
        · exact .inl h5
        · exact .inr ⟨q, h5, by omega⟩
      have q3 : Safe (fun k => Stay w.heap.size cb ov.ownBlock k ∧ k ≠ pb) w w5 := (HSF.out.grown HO.out (fun k hk => ⟨by have := hk.1.1; omega, fun e => hk.2 (by injection e with e; exact e.symm)⟩)).trans (h6.mono fun k hk => ⟨by have := hk.1.1; omega, hk.1.2.1, hk.1.2.2⟩)
      have H := Lib.hid (PO.out w5 v' h3 h4 q1 q2 q3)
      clear h3 h4 h5 h6 q1 q2 q3
      go_wp2_with fail
      refine bodyPost_end (v := .tuple #[]) (by simp [results, show (Tryz.f100).results = #[] from rfl]) rfl ?_
      exact H.out
end Go.Proofs.YtjnjnccfojfghaaGreatDoor

/-! A client as one bundle; begin on it. No condition. -/
namespace Go.Proofs.YtjnjnccfojfghaaGreatDoor
open Go.RowKit
set_option linter.unusedVariables false
structure ClM where
  name : Tx
  frm : Tx
  ppl : List Pers
  body : Tx
  stage : Nat
  pos : Nat
  left : Tx
  out : Tx
  idle : Nat
  well : Bool
/-- where its parts lie -/
structure CPts where
  cpp : Nat
  cbb : Nat
  Ab : Option Addr
  lv : Value
  ov : Value
  lw : Option Nat
structure CliP (w : World) (cb pb : Nat) (bb : Option Nat) (c : ClM) (q : CPts) : Prop where
  blk : Blk w cb 72 (cliC c.name c.frm (.slice (some ⟨pb, 0, none⟩) c.ppl.length q.cpp) (.slice q.Ab c.body.length q.cbb) c.stage c.pos q.lv q.ov c.idle c.well)
  ppl : PplB w pb c.ppl
  body : RB w w.heap.size q.Ab c.body
  ab : ∀ a, q.Ab = some a → bb = some a.block
  left : OwnQ w 0 q.lw q.lv c.left
  out : OwnB w 0 5 q.ov c.out
  lc : q.lw ≠ some cb
  lp : q.lw ≠ some pb
  oc : q.ov.ownBlock ≠ some cb
  op : q.ov.ownBlock ≠ some pb
  lo : ∀ k, q.lw = some k → q.ov.ownBlock ≠ some k
  lb : ∀ k, bb = some k → q.lw ≠ some k
  ob : ∀ k, bb = some k → q.ov.ownBlock ≠ some k
  pc : pb ≠ cb
  bc : bb ≠ some cb
  bp : bb ≠ some pb
  bl : ∀ k, bb = some k → k < w.heap.size
theorem OwnB.same {w w' : World} {base E : Nat} {v : Value} {l : Tx} (h : OwnB w base E v l) (hs : ∀ k, v.ownBlock = some k → w'.heap[k]? = w.heap[k]?) : OwnB w' base E v l := by
  refine ⟨h.1, ?_⟩
  rcases h.2 with h2 | ⟨g, cap, cur, rfl, hbg, hg, h3⟩
  · exact .inl h2
  · exact .inr ⟨g, cap, cur, rfl, hbg, (hs g rfl).trans hg, h3⟩
theorem OwnQ.lt_ {w : World} {base : Nat} {own : Option Nat} {v : Value} {l : Tx} (h : OwnQ w base own v l) {k : Nat} (hk : own = some k) : k < w.heap.size := (h.base_ hk).2
theorem OwnQ.same {w w' : World} {base : Nat} {own : Option Nat} {v : Value} {l : Tx} (h : OwnQ w base own v l) (hs : ∀ k, own = some k → w'.heap[k]? = w.heap[k]?) : OwnQ w' base own v l := by
  obtain ⟨A, c, rfl, h1, h2, h3⟩ := h
  refine ⟨A, c, rfl, h1, h2, ?_⟩
  rcases h3 with h3 | ⟨g, off, rfl, rfl, hb, hlt, hc, hf⟩
  · exact .inl h3
  · have e := hs g rfl
    have hl : g < w'.heap.size := by
      obtain ⟨hg, -⟩ := Array.getElem?_eq_some_iff.1 (e.trans (Array.getElem?_eq_getElem hlt))
      exact hg
    refine .inr ⟨g, off, rfl, rfl, hb, hl, fun i hi => ?_, fun i hi => ?_⟩
    · rw [← hc i hi]; exact World.cell?_of_block e
    · rw [World.cell?_of_block (w := w) e, World.frozen?_of_block (w := w) e]; exact hf i hi
theorem RB.same {w w' : World} {B B' : Nat} {A : Option Addr} {l : Tx} (h : RB w B A l) (hB : B ≤ B') (hs : ∀ a, A = some a → a.block < B → w'.heap[a.block]? = w.heap[a.block]?) : RB w' B' A l := by
  rcases h with h | ⟨b, off, hA, hb, hc⟩
  · exact .inl h
  · refine .inr ⟨b, off, hA, by omega, fun i hi => ?_⟩
    rw [← hc i hi]
    have hh := hs _ hA hb
    unfold World.cell?
    simp only [hh]
theorem OwnB.lt_ {w : World} {base E : Nat} {v : Value} {l : Tx} (h : OwnB w base E v l) {k : Nat} (hk : v.ownBlock = some k) : k < w.heap.size := (World.ownsRow.lt h k hk).2
/-- begin's end, on the bundle -/
theorem CliP.beg {w w' : World} {cb pb : Nat} {bb : Option Nat} {c : ClM} {q : CPts} (h : CliP w cb pb bb c q) {k : Nat} {l : Tx} {e : Ending}
    (hp : BegPost w cb c.name c.frm (.slice (some ⟨pb, 0, none⟩) c.ppl.length q.cpp) (.slice q.Ab c.body.length q.cbb) k c.pos q.lv c.idle c.well 0 q.ov.ownBlock l e w') :
    e = .returned (.tuple #[]) ∧ ∃ v', CliP w' cb pb bb { c with stage := k, out := l } { q with ov := v' } ∧ NewOr w.heap.size q.ov.ownBlock v' ∧ Safe (Stay w.heap.size cb q.ov.ownBlock) w w' := by
  obtain ⟨rfl, v', h1, h2, h3, h4⟩ := hp
  have hno : ∀ k, k < w.heap.size → q.ov.ownBlock ≠ some k → v'.ownBlock ≠ some k := fun k hk hne => by
    rcases h3 with h3 | ⟨p, h3, hp⟩
    · rw [h3]; exact hne
    · rw [h3]; intro e; injection e with e; omega
  refine ⟨rfl, v', ⟨h1, h.ppl.same (h4.block pb ⟨h.ppl.lt, h.pc, h.op⟩), h.body.same h4.size (fun a ha hlt => h4.block _ ⟨hlt, fun e => h.bc (by rw [h.ab a ha, e]), h.ob _ (h.ab a ha)⟩), h.ab, h.left.same (fun k hk => h4.block k ⟨h.left.lt_ hk, fun e => h.lc (by rw [hk, e]), h.lo k hk⟩), h2, h.lc, h.lp, hno cb h.blk.lt h.oc, hno pb h.ppl.lt h.op, fun k hk => hno k (h.left.lt_ hk) (h.lo k hk), h.lb, fun k hk => hno k (h.bl k hk) (h.ob k hk), h.pc, h.bc, h.bp, fun k hk => Nat.lt_of_lt_of_le (h.bl k hk) h4.size⟩, h3, h4⟩
/-- what begin says -/
def lineM (c : ClM) (k : Nat) : Tx :=
  if k = 1 then ([69, 72, 76, 79, 32] ++ c.name) ++ [13, 10]
  else if k = 2 then ([72, 69, 76, 79, 32] ++ c.name) ++ [13, 10]
  else if k = 3 then ([77, 65, 73, 76, 32, 70, 82, 79, 77, 58] ++ c.frm) ++ [13, 10]
  else if k = 4 then (rcptS ++ ((c.ppl[c.pos]?).map (·.angle)).getD []) ++ [13, 10]
  else if k = 5 then [68, 65, 84, 65] ++ [13, 10]
  else if k = 6 then c.body
  else [81, 85, 73, 84] ++ [13, 10]
structure CLen (c : ClM) : Prop where
  sum : c.out.length + c.name.length + c.frm.length ≤ 10000000000
  bod : c.out.length + c.body.length ≤ 100000000000
  ang : ∀ p ∈ c.ppl, c.out.length + p.angle.length ≤ 10000000000
theorem cli_begin {w : World} {cb pb : Nat} {bb : Option Nat} {c : ClM} {q : CPts} (h : CliP w cb pb bb c q) (hl : CLen c) (k : Nat) (h1 : 1 ≤ k) (h7 : k ≤ 7) (hp : k = 4 → c.pos < c.ppl.length) :
    Calls Tryz.prog 96 #[.pointer (some ⟨cb, 0, none⟩), .int .i64 (k : Int)] w fun e w' =>
      e = .returned (.tuple #[]) ∧ ∃ v', CliP w' cb pb bb { c with stage := k, out := c.out ++ lineM c k } { q with ov := v' } ∧ NewOr w.heap.size q.ov.ownBlock v' ∧ Safe (Stay w.heap.size cb q.ov.ownBlock) w w' := by
  have hk : k = 1 ∨ k = 2 ∨ k = 3 ∨ k = 4 ∨ k = 5 ∨ k = 6 ∨ k = 7 := by omega
  rcases hk with rfl | rfl | rfl | rfl | rfl | rfl | rfl
  · refine (begin_1 w cb c.name c.frm _ _ c.stage c.pos q.lv q.ov c.idle c.well h.blk 0 (Nat.zero_le _) c.out h.out h.oc hl.sum).mono fun e w' hb => ?_
    rw [List.append_assoc] at hb
    exact h.beg hb
  · refine (begin_2 w cb c.name c.frm _ _ c.stage c.pos q.lv q.ov c.idle c.well h.blk 0 (Nat.zero_le _) c.out h.out h.oc hl.sum).mono fun e w' hb => ?_
    rw [List.append_assoc] at hb
    exact h.beg hb
  · refine (begin_3 w cb c.name c.frm _ _ c.stage c.pos q.lv q.ov c.idle c.well h.blk 0 (Nat.zero_le _) c.out h.out h.oc hl.sum).mono fun e w' hb => ?_
    rw [List.append_assoc] at hb
    exact h.beg hb
  · have hpos := hp rfl
    obtain ⟨p, hpp⟩ : ∃ p, c.ppl[c.pos]? = some p := ⟨_, List.getElem?_eq_getElem hpos⟩
    have ha := (h.ppl.at_ hpp).1
    rw [← Nat.zero_add (c.pos * 5)] at ha
    refine (begin_4 w cb c.name c.frm pb 0 c.ppl.length q.cpp _ c.stage c.pos q.lv q.ov c.idle c.well h.blk 0 (Nat.zero_le _) c.out h.out h.oc p.angle hpos h.pc ha (hl.ang p (List.mem_of_getElem? hpp))).mono fun e w' hb => ?_
    rw [List.append_assoc] at hb
    have e4 : lineM c 4 = (rcptS ++ p.angle) ++ [13, 10] := by
      show (rcptS ++ ((c.ppl[c.pos]?).map (·.angle)).getD []) ++ [13, 10] = _
      rw [hpp]
      rfl
    rw [e4]
    exact h.beg hb
  · refine (begin_5 w cb c.name c.frm _ _ c.stage c.pos q.lv q.ov c.idle c.well h.blk 0 (Nat.zero_le _) c.out h.out h.oc hl.sum).mono fun e w' hb => ?_
    rw [List.append_assoc] at hb
    exact h.beg hb
  · refine (begin_6 w cb c.name c.frm _ q.Ab c.body c.body.length q.cbb rfl c.stage c.pos q.lv q.ov c.idle c.well h.blk 0 (Nat.zero_le _) c.out h.out h.oc h.body (fun a ha e => h.bc (by rw [h.ab a ha, e])) hl.bod).mono fun e w' hb => ?_
    exact h.beg hb
  · refine (begin_7 w cb c.name c.frm _ _ c.stage c.pos q.lv q.ov c.idle c.well h.blk 0 (Nat.zero_le _) c.out h.out h.oc hl.sum).mono fun e w' hb => ?_
    rw [List.append_assoc] at hb
    exact h.beg hb
end Go.Proofs.YtjnjnccfojfghaaGreatDoor

/-! smtpc's all and to on the bundle. No condition but the lengths. -/
namespace Go.Proofs.YtjnjnccfojfghaaGreatDoor
open Go.RowKit
set_option linter.unusedVariables false
theorem CliP.same {w w' : World} {cb pb : Nat} {bb : Option Nat} {c : ClM} {q : CPts} (h : CliP w cb pb bb c q) (hb : Below w.heap.size w w') : CliP w' cb pb bb c q :=
  ⟨h.blk.keep hb, h.ppl.same (hb.block pb h.ppl.lt), h.body.same hb.size (fun a ha hlt => hb.block _ hlt), h.ab, h.left.same (fun k hk => hb.block k (h.left.lt_ hk)), h.out.same (fun k hk => hb.block k (h.out.lt_ hk)), h.lc, h.lp, h.oc, h.op, h.lo, h.lb, h.ob, h.pc, h.bc, h.bp, fun k hk => Nat.lt_of_lt_of_le (h.bl k hk) hb.size⟩
def DoPost (w : World) (cb pb : Nat) (bb : Option Nat) (q : CPts) (c' : ClM) (e : Ending) (w' : World) : Prop :=
  e = .returned (.tuple #[]) ∧ ∃ v', CliP w' cb pb bb c' { q with ov := v' } ∧ NewOr w.heap.size q.ov.ownBlock v' ∧ Safe (fun k => Stay w.heap.size cb q.ov.ownBlock k ∧ k ≠ pb) w w'
/-- what was done behind new blocks was done from there -/
theorem DoPost.from_ {w w1 w' : World} {cb pb : Nat} {bb : Option Nat} {q : CPts} {c' : ClM} {e : Ending} (hb : Below w.heap.size w w1) (h : DoPost w1 cb pb bb q c' e w') : DoPost w cb pb bb q c' e w' := by
  obtain ⟨rfl, v', h1, h2, h3⟩ := h
  have hs := hb.size
  refine ⟨rfl, v', h1, ?_, (Safe.of_below hb (fun k hk => hk.1.1)).trans (h3.mono fun k hk => ⟨⟨by have := hk.1.1; omega, hk.1.2.1, hk.1.2.2⟩, hk.2⟩)⟩
  rcases h2 with h2 | ⟨p, h2, hp⟩
  · exact .inl h2
  · exact .inr ⟨p, h2, by omega⟩
def begC (c : ClM) (k : Nat) : ClM := { c with stage := k, out := c.out ++ lineM c k }
def allC (c : ClM) (f : Bool) (st : Nat) (code : Int) (text : Tx) : ClM := { c with stage := 7, out := c.out ++ lineM c 7, ppl := c.ppl.map (decP f st code text) }
theorem do_begin {w : World} {cb pb : Nat} {bb : Option Nat} {c : ClM} {q : CPts} (h : CliP w cb pb bb c q) (hl : CLen c) (k : Nat) (h1 : 1 ≤ k) (h7 : k ≤ 7) (hp : k = 4 → c.pos < c.ppl.length) :
    Calls Tryz.prog 96 #[.pointer (some ⟨cb, 0, none⟩), .int .i64 (k : Int)] w (DoPost w cb pb bb q (begC c k)) := by
  refine (cli_begin h hl k h1 h7 hp).mono fun e w' hb => ?_
  obtain ⟨rfl, v', h2, h3, h4⟩ := hb
  exact ⟨rfl, v', h2, h3, h4.mono fun k hk => hk.1⟩
/-- a reply as a value -/
structure Rep where
  code : Int
  lb : Nat
  lo : Nat
  nl : Nat
  cl : Nat
  text : Tx
def Rep.val (r : Rep) : Value := .agg #[.int .i64 r.code, .slice (some ⟨r.lb, r.lo, none⟩) r.nl r.cl]
structure RepAt (w : World) (pb : Nat) (r : Rep) : Prop where
  n0 : 0 < r.nl
  cell : w.cell? ⟨r.lb, r.lo, none⟩ = some (.string (bs r.text))
  ne : r.lb ≠ pb
theorem RepAt.same {w w' : World} {pb : Nat} {r : Rep} (h : RepAt w pb r) (hb : Below w.heap.size w w') : RepAt w' pb r :=
  ⟨h.n0, (hb.cell (World.block_lt_of_cell? _ _ h.cell)).trans h.cell, h.ne⟩
theorem do_all {w : World} {cb pb : Nat} {bb : Option Nat} {c : ClM} {q : CPts} (h : CliP w cb pb bb c q) (hl : CLen c) (hn : c.ppl.length ≤ 1000) (f : Bool) (st : Nat) {r : Rep} (hr : RepAt w pb r) :
    Calls Tryz.prog 100 #[.pointer (some ⟨cb, 0, none⟩), .bool f, .int .i64 (st : Int), r.val] w (DoPost w cb pb bb q (allC c f st r.code r.text)) := by
  refine (all_walk w cb pb c.name c.frm q.cpp (.slice q.Ab c.body.length q.cbb) c.stage c.pos q.lv q.ov c.idle c.well c.ppl c.ppl.length rfl h.blk 0 (Nat.zero_le _) c.out h.out h.oc h.ppl h.pc h.op f st r.code r.lb r.lo r.nl r.cl r.text hr.n0 hr.cell hr.ne hn hl.sum).mono fun e w' hb => ?_
  obtain ⟨rfl, v', h1, h2, h3, h4, h5⟩ := hb
  have hno : ∀ k, k < w.heap.size → q.ov.ownBlock ≠ some k → v'.ownBlock ≠ some k := fun k hk hne => by
    rcases h4 with h4 | ⟨p, h4, hp⟩
    · rw [h4]; exact hne
    · rw [h4]; intro e; injection e with e; omega
  rw [List.append_assoc] at h2
  refine ⟨rfl, v', ⟨?_, h3, h.body.same h5.size (fun a ha hlt => h5.block _ ⟨⟨hlt, fun e => h.bc (by rw [h.ab a ha, e]), h.ob _ (h.ab a ha)⟩, fun e => h.bp (by rw [h.ab a ha, e])⟩), h.ab, h.left.same (fun k hk => h5.block k ⟨⟨h.left.lt_ hk, fun e => h.lc (by rw [hk, e]), h.lo k hk⟩, fun e => h.lp (by rw [hk, e])⟩), h2, h.lc, h.lp, hno cb h.blk.lt h.oc, hno pb h.ppl.lt h.op, fun k hk => hno k (h.left.lt_ hk) (h.lo k hk), h.lb, fun k hk => hno k (h.bl k hk) (h.ob k hk), h.pc, h.bc, h.bp, fun k hk => Nat.lt_of_lt_of_le (h.bl k hk) h5.size⟩, h4, h5⟩
  show Blk w' cb _ (cliC c.name c.frm (.slice (some ⟨pb, 0, none⟩) (c.ppl.map _).length q.cpp) _ _ _ _ _ _ _)
  rw [List.length_map]
  exact h1
def toC (c : ClM) (k cl : Nat) (r : Rep) : ClM := if cl = 2 then begC c k else allC c false (stateM cl) r.code r.text
set_option maxRecDepth 4000 in
set_option maxHeartbeats 4000000 in
theorem to_walk {w : World} {cb pb : Nat} {bb : Option Nat} {c : ClM} {q : CPts} (h : CliP w cb pb bb c q) (hl : CLen c) (hn : c.ppl.length ≤ 1000) (k : Nat) (h1 : 1 ≤ k) (h7 : k ≤ 7) (hp : k = 4 → c.pos < c.ppl.length) (cl : Nat) {r : Rep} (hr : RepAt w pb r) :
    Calls Tryz.prog 95 #[.pointer (some ⟨cb, 0, none⟩), .int .i64 (k : Int), .int .i64 (cl : Int), r.val] w (DoPost w cb pb bb q (toC c k cl r)) := by
  obtain ⟨w1, hw1⟩ : ∃ w1, w.alloc (.cells #[.int .i64 r.code, .slice (some ⟨r.lb, r.lo, none⟩) r.nl r.cl] 57) = w1 := ⟨_, rfl⟩
  have hb1 : Below w.heap.size w w1 := by rw [← hw1]; exact (Below.refl _ _).alloc (Nat.le_refl _) _
  have hbr : Blk w1 w.heap.size 57 #[.int .i64 r.code, .slice (some ⟨r.lb, r.lo, none⟩) r.nl r.cl] := by rw [← hw1]; exact Blk.new w _ _
  have HC := Lib.hid (h.same hb1)
  have HR := Lib.hid (hr.same hb1)
  have HB1 := Lib.hid hb1
  have ev : r.val = .agg #[.int .i64 r.code, .slice (some ⟨r.lb, r.lo, none⟩) r.nl r.cl] := rfl
  have k0 : w1.cell? ⟨w.heap.size, 0, none⟩ = some (.int .i64 r.code) := hbr.cell 0
  have k1 : w1.cell? ⟨w.heap.size, 1, none⟩ = some (.slice (some ⟨r.lb, r.lo, none⟩) r.nl r.cl) := hbr.cell 1
  by_cases h2 : cl = 2
  · have hT : toC c k cl r = begC c k := if_pos h2
    rw [hT]
    have K := Lib.hid ((do_begin (h.same hb1) hl k h1 h7 hp).mono (fun e w' hd => (⟨hd.1, DoPost.from_ hb1 hd⟩ : e = .returned (.tuple #[]) ∧ DoPost w cb pb bb q (begC c k) e w')))
    have h2i : ((cl : Int) == 2) = true := by rw [h2]; rfl
    rw [ev]
    generalize DoPost w cb pb bb q (begC c k) = Post at *
    clear h hr hb1 hbr hT h2 h1 h7 hp
    go_enter Tryz.func95, Tryz.ntmps95
    go_wp2_with fail
    refine K.out.mono ?_
    rintro e w3 ⟨rfl, hp⟩
    have HP := Lib.hid hp
    clear hp
    go_wp2_with fail
    refine bodyPost_ret (v := .tuple #[]) (by simp [results, show (Tryz.f95).results = #[] from rfl]) rfl ?_
    exact HP.out
  · have hT : toC c k cl r = allC c false (stateM cl) r.code r.text := if_neg h2
    rw [hT]
    have hb2 : Below w.heap.size w w1.drew := ⟨hb1.os, hb1.tape, hb1.output, hb1.size, hb1.block⟩
    have K := Lib.hid ((do_all (h.same hb2) hl hn false (stateM cl) (hr.same hb2)).mono (fun e w' hd => (⟨hd.1, DoPost.from_ hb2 hd⟩ : e = .returned (.tuple #[]) ∧ DoPost w cb pb bb q (allC c false (stateM cl) r.code r.text) e w')))
    have KS := Lib.hid (state_walk cl)
    have h2i : ((cl : Int) == 2) = false := beq_eq_false_iff_ne.2 (by omega)
    rw [ev] at K ⊢
    generalize DoPost w cb pb bb q (allC c false (stateM cl) r.code r.text) = Post at *
    have k0d : w1.drew.cell? ⟨w.heap.size, 0, none⟩ = some (.int .i64 r.code) := k0
    have k1d : w1.drew.cell? ⟨w.heap.size, 1, none⟩ = some (.slice (some ⟨r.lb, r.lo, none⟩) r.nl r.cl) := k1
    clear h hr hb1 hbr hT h2 h1 h7 hp hb2
    go_enter Tryz.func95, Tryz.ntmps95
    go_wp2_with fail
    go_region_with (first | (go_at_call 97; refine (KS.out _).mono ?_; rintro e w4 ⟨rfl, rfl⟩) | (go_at_call 100; refine K.out.mono ?_; rintro e w3 ⟨rfl, hp⟩; have HP := Lib.hid hp; clear hp))
    all_goals
      go_wp2_with fail
      refine bodyPost_end (v := .tuple #[]) (by simp [results, show (Tryz.f95).results = #[] from rfl]) rfl ?_
      exact HP.out
end Go.Proofs.YtjnjnccfojfghaaGreatDoor
