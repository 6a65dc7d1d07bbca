/-
  The walk of the program's Crash (printed by gen_cr.py). Conditions: the lengths.
-/
import Derived.Test.YtbpooaicmjkemaaGreatDoorSfCr0
namespace Go.Proofs.YtbpooaicmjkemaaGreatDoor
open Go.RowKit Go.Maps
set_option linter.unusedVariables false
theorem take_set {α : Type} : ∀ (L : List α) (i : Nat) (v : α), i < L.length → (L.set i v).take (i + 1) = L.take i ++ [v]
  | [], i, v, h => by simp at h
  | x :: r, 0, v, h => rfl
  | x :: r, i + 1, v, h => by
    rw [List.set_cons_succ, List.take_succ_cons, take_set r i v (by simpa using h)]
    rfl
/-! ### adding up over a range -/
theorem sum_step {nodes : List Nd} {f f' : Tx → Bool} {p : Tx} {j : Nat} (hf : f p = false) (hf' : ∀ q, f' q = (f q || decide (q = p))) : ∀ {L : Es}, sortE L → (p, j) ∈ L → usedL nodes (L.filter fun e => f' e.1) = usedL nodes (L.filter fun e => f e.1) + (nodes.getD j nd0).now.length
  | [], _, h => by cases h
  | e :: r, hs, h => by
    obtain ⟨h1, h2⟩ := List.pairwise_cons.1 hs
    have key : ∀ (x : Tx × Nat) (l : Es), usedL nodes (x :: l) = (nodes.getD x.2 nd0).now.length + usedL nodes l := fun x l => by unfold usedL; simp
    by_cases he : e.1 = p
    · have hej : e = (p, j) := by
        rcases List.mem_cons.1 h with h | h
        · exact h.symm
        · have := h1 _ h
          rw [he] at this
          exact absurd this (key_ir p)
      have hr : r.filter (fun x => f' x.1) = r.filter fun x => f x.1 := List.filter_congr fun x hx => by
        have hne : x.1 ≠ p := fun h3 => by have := h1 x hx; rw [he, h3] at this; exact key_ir p this
        rw [hf' x.1, decide_eq_false hne, Bool.or_false]
      rw [List.filter_cons, if_pos (by rw [hf', he]; simp), List.filter_cons, if_neg (by rw [he, hf]; decide), key, hr, hej]
      simp only []
      omega
    · have hm : (p, j) ∈ r := by
        rcases List.mem_cons.1 h with h | h
        · exact absurd (by rw [← h]) he
        · exact h
      have ih := sum_step (nodes := nodes) hf hf' h2 hm
      have hfe : f' e.1 = f e.1 := by rw [hf', decide_eq_false he, Bool.or_false]
      rw [List.filter_cons, List.filter_cons, hfe]
      split
      · rw [key, key, ih]; omega
      · exact ih
/-! ### the end -/
/-- the cells of the disk's own block, late in a crash -/
def crA (q : DParts) (d : Dk) (mb u : Nat) (off : Bool) (arm fail : Int) : Array Value :=
  #[.int .i64 d.quota, .int .i64 u, q.vd, q.vf, .map (some mb), .map (some q.ml), .slice none 0 0, .bool off, .int .i64 d.done, .int .i64 arm, .int .i64 fail, .int .i64 d.failed]
theorem crash_end {z db u mb : Nat} {w w2 wr wf : World} {own own2 ownr : Nat → Nat × Nat} {d : Dk} {q : DParts} {kc : List Bool} {kw : List Int} (hT : Turn (isD z) w w2 own own2) (hI : CrI z w2 own2 db (lastM d (survM d.waits kc)) q kw u d.nodes.length wr ownr)
    (hmb : wr.heap.size ≤ mb) (hfs : wr.heap.size ≤ wf.heap.size) (hgo : wf.os = wr.os ∧ wf.tape = wr.tape ∧ wf.output = wr.output) (hst : ∀ k, k < wr.heap.size → k ≠ db → wf.heap[k]? = wr.heap[k]?) (hO : wf.ownsMap Tryz.prog 9 ptrElem mb q.nl q.Dl)
    (hB : Blk wf db 69 (crA q d mb (usedM (crashM d kc kw)) false 0 0)) : EntPost z w own db (crashM d kc kw) (.returned (.tuple #[])) wf := by
  have r := hI.rest
  have hnd : ndK (lastM d (survM d.waits kc)).nodes kw d.nodes.length = keptM d.nodes kw := ndK_full d.nodes kw
  have hdm := hI.mark
  have hne : ∀ k t, ownr k = t → t ≠ (10 * z + 1, 0) → k ≠ db := fun k t h1 h2 e => h2 (by rw [← h1, e]; exact hdm)
  have hg : Goes (fun t => t ≠ (10 * z + 1, 0)) wr wf ownr (newM wr ownr fun k => if k = mb then (10 * z + 1, 2) else (0, 0)) := ⟨hfs, fun k h1 h2 => ⟨hst k h1 (fun e => h2 (by rw [e]; exact hdm)), newM_old h1⟩⟩
  have hfz : (fun t : Nat × Nat => t ≠ (10 * z + 1, 0)) frz := by unfold frz; simp
  have m1 : ∀ k, q.gf = some k → ownr k ≠ (10 * z + 1, 0) := fun k e => by rw [r.mf k e]; simp
  have m3 : ownr q.ml ≠ (10 * z + 1, 0) := by rw [r.mkl]; simp
  have hlen : q.bl.length = (crashM d kc kw).nodes.length := by
    have := r.len
    rw [hnd] at this
    exact this
  refine ⟨newM wr ownr fun k => if k = mb then (10 * z + 1, 2) else (0, 0), ⟨{ q with mn := mb, nn := q.nl, Dn := q.Dl, vc := .slice none 0 0, gc := none }, ⟨hB, (newM_old hI.blk.lt).trans hdm, ⟨r.dirs.goes hg hfz, r.files.same hg.size fun g e => (hg.block g (r.files.lt e) (m1 g e)).1, fun k e => (hg.block k (r.files.lt e) (m1 k e)).2.trans (r.mf k e), hlen, ?_, hO, r.el, (newM_old r.ol.lt).trans r.mkl, ownsMap_same r.ol (hg.block _ r.ol.lt m3).1, r.el, OwnX.nil _ none, (fun k e => by cases e), fun i b x hb hx => ?_, r.bnl, r.bnl⟩⟩⟩, ?_, rfl⟩
  · show newM wr ownr _ mb = _
    rw [newM_new hmb]; exact if_pos rfl
  · refine (r.fs i b x hb ?_).goes hg hfz fun t ht => (by rintro rfl; have := ht.1.1; simp at this)
    show (ndK (lastM d (survM d.waits kc)).nodes kw d.nodes.length)[i]? = some x
    rw [hnd]; exact hx
  · have h2 := hT.trans hI.turn
    exact h2.trans ⟨hgo.1, hgo.2.1, hgo.2.2, hfs, fun k h1 h3 => hst k h1 (fun e => h3 (by rw [e, hdm]; exact ⟨by simp, by simp⟩)), fun k h1 _ => newM_old h1⟩
set_option maxRecDepth 100000 in
set_option maxHeartbeats 8000000 in
theorem crash_walk0 (z : Nat) (w : World) (own : Nat → Nat × Nat) (db : Nat) (d : Dk) (q : DParts) (h : DSt z w own db d q) (hown : ∀ k, w.heap.size ≤ k → own k = (0, 0)) {K : Nat} (hw : Wf d K) (hK : K ≤ 10000) (hnl : q.nl ≤ 100000) (kc : List Bool) (kw : List Int) (Ac Aw : Option Addr) (cc cw : Nat)
    (hcc : kc.length ≤ cc ∧ cc ≤ maxLen) (hcw : kw.length ≤ cw ∧ cw ≤ maxLen) (hrc : RCo z w own Ac (kc.map .bool)) (hrw : RCo z w own Aw (kw.map (.int .i64))) (hzw : ∀ x ∈ kw, -9223372036854775808 ≤ x ∧ x ≤ 9223372036854775807) :
    Calls Tryz.prog 14 #[ptrV db, .agg #[.slice Ac kc.length cc, .slice Aw kw.length cw]] w (EntPost z w own db (crashM d kc kw)) := by
  have hbx := (Below.refl w.heap.size w).alloc (Nat.le_refl _) (.cells #[.slice Ac kc.length cc, .slice Aw kw.length cw] 26)
  have hK0 := Blk.new w 26 #[.slice Ac kc.length cc, .slice Aw kw.length cw]
  have hs0 : (w.alloc (.cells #[.slice Ac kc.length cc, .slice Aw kw.length cw] 26)).heap.size = w.heap.size + 1 := by simp
  have HD0 := Lib.hid (h.below hbx)
  have HBX := Lib.hid hbx
  have HK0 := Lib.hid hK0
  have HS0 := Lib.hid hs0
  have HP := Lib.hid h
  have HW := Lib.hid hw
  have HOWN := Lib.hid hown
  have HNL := Lib.hid hnl
  have HRC := Lib.hid hrc
  have HRW := Lib.hid hrw
  have HZW := Lib.hid hzw
  obtain ⟨A, n, c, ev, -⟩ := h.rest.chs.sl
  have hX := h.rest.chs
  rw [ev] at hX
  obtain ⟨hn, hnc, hm, hat⟩ := ch_at hX
  have HAT := Lib.hid hat
  have HN := Lib.hid hn
  have hn1 : n ≤ 10000 := by have := hw.wk; omega
  have hdb := h.blk.lt
  have HC6 : Hid (∀ W, Below w.heap.size w W → W.cell? ⟨db, 6, none⟩ = some (.slice A n c)) := Lib.hid fun W hb => by rw [← ev]; exact (h.blk.keep hb).cell 6
  obtain ⟨S, hS⟩ : ∃ S, survM d.waits kc = S := ⟨_, rfl⟩
  have HS := Lib.hid hS
  have hcc1 : (kc.length : Int) ≤ 9223372036854775807 := by have := hcc.1; have := hcc.2; unfold maxLen at this; omega
  have hcw1 : (kw.length : Int) ≤ 9223372036854775807 := by have := hcw.1; have := hcw.2; unfold maxLen at this; omega
  unfold ptrV
  clear h hw hown hnl hrc hrw hzw ev hX hn hm hat hbx hK0 hs0 hcc hcw hS
  go_enter Tryz.func14, Tryz.ntmps14
  go_upto_region 1 with fail
  generalize hw0 : w.alloc (.cells #[.slice Ac kc.length cc, .slice Aw kw.length cw] 26) = w0 at *
  clear hw0
  have c6 : w0.cell? ⟨db, 6, none⟩ = some (.slice A n c) := HC6.out w0 HBX.out
  have hmk := mk_bo w0 n (by omega)
  have hba := (Below.refl w0.heap.size w0).alloc (Nat.le_refl _) (.cells (boA (List.replicate n false)) 4)
  have c6a : (w0.alloc (.cells (boA (List.replicate n false)) 4)).cell? ⟨db, 6, none⟩ = some (.slice A n c) := HC6.out _ (HBX.out.trans (hba.mono HBX.out.size))
  have HBA := Lib.hid hba
  have HBO := Lib.hid (Blk.new w0 4 (boA (List.replicate n false)))
  clear hba
  go_upto_region 3 with fail
  go_loopg [26] n (fun k s26 wr => ∃ (i : Nat) (L : List Bool), s26 = .int .i64 (i : Int) ∧ i + k = n ∧ Hid (BoB wr w0.heap.size L) ∧ Hid (L.length = n) ∧ Hid (L.take i = S.take i) ∧ Hid (Below w0.heap.size w0 wr))
  case atStart => exact ⟨0, List.replicate n false, rfl, by omega, HBO, Lib.hid List.length_replicate, Lib.hid rfl, HBA⟩
  case round =>
    obtain ⟨i, L, rfl, hi, HB, HL, HT, HBL⟩ := hrel
    clear HBA HBO c6 c6a hmk
    have c6 : wr.cell? ⟨db, 6, none⟩ = some (.slice A n c) := HC6.out wr (HBX.out.trans (HBL.out.mono HBX.out.size))
    by_cases hlt : i < n
    · have hlt1 : (i : Int) < (n : Int) := by omega
      obtain ⟨x, hx⟩ : ∃ x, d.waits[i]? = some x := ⟨_, List.getElem?_eq_getElem (by rw [← HN.out]; exact hlt)⟩
      obtain ⟨bb, off, -, rfl, hbl, c0, c1, c2, c3⟩ := HAT.out i x hx
      obtain ⟨P, hP⟩ := chP_ptr q.bl x
      rw [hP] at c3
      have hbw : Below w.heap.size w wr := HBX.out.trans (HBL.out.mono HBX.out.size)
      have HBW := Lib.hid hbw
      have q0 : wr.cell? ⟨bb, off + i * 4, none⟩ = some (.int .i64 x.kind) := (hbw.cell (p := ⟨bb, off + i * 4, none⟩) hbl).trans c0
      have q1 : wr.cell? ⟨bb, off + i * 4 + 1, none⟩ = some (.string (bs x.fr)) := (hbw.cell (p := ⟨bb, off + i * 4 + 1, none⟩) hbl).trans c1
      have q2 : wr.cell? ⟨bb, off + i * 4 + 2, none⟩ = some (.string (bs x.tt)) := (hbw.cell (p := ⟨bb, off + i * 4 + 2, none⟩) hbl).trans c2
      have q3 : wr.cell? ⟨bb, off + i * 4 + 3, none⟩ = some (.pointer P) := (hbw.cell (p := ⟨bb, off + i * 4 + 3, none⟩) hbl).trans c3
      have hba := hbw.alloc hbw.size (.cells #[.int .i64 x.kind, .string (bs x.fr), .string (bs x.tt), .pointer P] 80)
      have HBX1 := Lib.hid (Blk.new wr 80 #[.int .i64 x.kind, .string (bs x.fr), .string (bs x.tt), .pointer P])
      have HB1 := Lib.hid (HB.out.alloc (.cells #[.int .i64 x.kind, .string (bs x.fr), .string (bs x.tt), .pointer P] 80))
      have HBL1 := Lib.hid (HBL.out.alloc HBL.out.size (.cells #[.int .i64 x.kind, .string (bs x.fr), .string (bs x.tt), .pointer P] 80))
      have hwsz : w0.heap.size < wr.heap.size := HB.out.lt
      obtain ⟨bx, hbx⟩ : ∃ bx, L[i]? = some bx := ⟨_, List.getElem?_eq_getElem (by rw [HL.out]; exact hlt)⟩
      have d0 : (wr.alloc (.cells #[.int .i64 x.kind, .string (bs x.fr), .string (bs x.tt), .pointer P] 80)).cell? ⟨w0.heap.size, i, none⟩ = some (.bool bx) := BoB.cell HB1.out hbx
      have f0 := BoB.free HB1.out i
      have kk0 : (wr.alloc (.cells #[.int .i64 x.kind, .string (bs x.fr), .string (bs x.tt), .pointer P] 80)).cell? ⟨w.heap.size, 0, none⟩ = some (.slice Ac kc.length cc) := (HK0.out.below HBL1.out (by rw [HS0.out]; omega)).cell 0
      have hsw : w.heap.size + 1 ≤ wr.heap.size := by have := HBL.out.size; rw [HS0.out] at this; exact this
      have HX := Lib.hid hx
      have HAT2 := Lib.hid hba
      clear c0 c1 c2 c3 hP hbw hbx hba hx
      go_upto_region 5 with fail
      generalize hw1 : wr.alloc (.cells #[.int .i64 x.kind, .string (bs x.fr), .string (bs x.tt), .pointer P] 80) = w1 at *
      clear hw1 q0 q1 q2 q3
      by_cases hkc : i < kc.length
      · have hkc1 : (i : Int) < (kc.length : Int) := by omega
        obtain ⟨kv, hkv⟩ : ∃ kv, kc[i]? = some kv := ⟨_, List.getElem?_eq_getElem hkc⟩
        obtain ⟨bk, ok, rfl, hbk, -, hck⟩ := HRC.out i (.bool kv) (by rw [List.getElem?_map, hkv]; rfl)
        have e0 : w1.cell? ⟨bk, ok + i, none⟩ = some (.bool kv) := (HAT2.out.cell (p := ⟨bk, ok + i, none⟩) hbk).trans hck
        have HKV : Hid (kc.getD i false = kv) := Lib.hid (by rw [List.getD_eq_getElem?_getD, hkv]; rfl)
        clear hck hbk hkv
        go_upto_region 6 with fail
        have HBO5 : Hid (BoB (w1.setCell ⟨w0.heap.size, i, none⟩ (.bool kv)) w0.heap.size (L.set i kv)) := Lib.hid (BoB.set_ HB1.out i kv)
        have HBX5 : Hid (Blk (w1.setCell ⟨w0.heap.size, i, none⟩ (.bool kv)) wr.heap.size 80 #[.int .i64 x.kind, .string (bs x.fr), .string (bs x.tt), .pointer P]) := Lib.hid (HBX1.out.far (p := ⟨w0.heap.size, i, none⟩) (by show wr.heap.size ≠ w0.heap.size; omega) _)
        have HBL5 : Hid (Below w0.heap.size w0 (w1.setCell ⟨w0.heap.size, i, none⟩ (.bool kv))) := Lib.hid (HBL1.out.setCell (Nat.le_refl _) _)
        have c65 : (w1.setCell ⟨w0.heap.size, i, none⟩ (.bool kv)).cell? ⟨db, 6, none⟩ = some (.slice (some ⟨bb, off, none⟩) n c) := HC6.out _ (HBX.out.trans (HBL5.out.mono HBX.out.size))
        clear HB1 HBX1 HBL1 d0 f0 kk0 HAT2 HB HBL HBW c6
        generalize hw5 : w1.setCell ⟨w0.heap.size, i, none⟩ (.bool kv) = w5 at *
        clear hw5
        have hin : (i : Int) ≤ (n : Int) := by omega
        have hnc1 : (n : Int) ≤ (c : Int) := by omega
        go_upto_region 7 with fail
        have HSV : Hid (svM d.waits S x (kc.getD i false) 0 = kv) := Lib.hid ((svM_zero _ _ _ _).trans HKV.out)
        obtain ⟨wo, hwo⟩ : ∃ wo, wr.heap.size = wo := ⟨_, rfl⟩
        rw [hwo] at HBX5
        rw [hwo]
        have hwsz' : w0.heap.size < wo := by omega
        clear hwsz hsw hwo c65
        go_loopg [53] i (fun k s53 wr => ∃ j : Nat, s53 = .int .i64 (j : Int) ∧ j + k = i ∧ Hid (BoB wr w0.heap.size (L.set i (svM d.waits S x (kc.getD i false) j))) ∧ Hid (Blk wr wo 80 #[.int .i64 x.kind, .string (bs x.fr), .string (bs x.tt), .pointer P]) ∧ Hid (Below w0.heap.size w0 wr))
        case atStart => exact ⟨0, rfl, by omega, by rw [HSV.out]; exact HBO5, HBX5, HBL5⟩
        case round =>
          obtain ⟨j, rfl, hj, HBO, HBX8, HBL8⟩ := hrel
          clear HBO5 HBX5 HBL5 HSV
          by_cases hlj : j < i
          · have hlj1 : (j : Int) < (i : Int) := by omega
            obtain ⟨y, hy⟩ : ∃ y, d.waits[j]? = some y := ⟨_, List.getElem?_eq_getElem (by rw [← HN.out]; omega)⟩
            obtain ⟨bb2, off2, -, he2, hbl2, c0, c1, c2, c3⟩ := HAT.out j y hy
            injection he2 with he2
            injection he2 with he3 he4 _
            subst he3; subst he4
            obtain ⟨P2, hP2⟩ := chP_ptr q.bl y
            rw [hP2] at c3
            have hbw : Below w.heap.size w wr := HBX.out.trans (HBL8.out.mono HBX.out.size)
            have q0 : wr.cell? ⟨bb, off + j * 4, none⟩ = some (.int .i64 y.kind) := (hbw.cell (p := ⟨bb, off + j * 4, none⟩) hbl2).trans c0
            have q1 : wr.cell? ⟨bb, off + j * 4 + 1, none⟩ = some (.string (bs y.fr)) := (hbw.cell (p := ⟨bb, off + j * 4 + 1, none⟩) hbl2).trans c1
            have q2 : wr.cell? ⟨bb, off + j * 4 + 2, none⟩ = some (.string (bs y.tt)) := (hbw.cell (p := ⟨bb, off + j * 4 + 2, none⟩) hbl2).trans c2
            have q3 : wr.cell? ⟨bb, off + j * 4 + 3, none⟩ = some (.pointer P2) := (hbw.cell (p := ⟨bb, off + j * 4 + 3, none⟩) hbl2).trans c3
            have HBY := Lib.hid (Blk.new wr 80 #[.int .i64 y.kind, .string (bs y.fr), .string (bs y.tt), .pointer P2])
            have HBO1 := Lib.hid (HBO.out.alloc (.cells #[.int .i64 y.kind, .string (bs y.fr), .string (bs y.tt), .pointer P2] 80))
            have HBX1 := Lib.hid (HBX8.out.alloc (.cells #[.int .i64 y.kind, .string (bs y.fr), .string (bs y.tt), .pointer P2] 80))
            have HBL1 := Lib.hid (HBL8.out.alloc HBL8.out.size (.cells #[.int .i64 y.kind, .string (bs y.fr), .string (bs y.tt), .pointer P2] 80))
            have hwl : w0.heap.size < wr.heap.size := HBO.out.lt
            have hol : wo < wr.heap.size := HBX8.out.lt
            clear c0 c1 c2 c3 hP2 hbw
            go_upto_region 9 with fail
            generalize hw9 : wr.alloc (.cells #[.int .i64 y.kind, .string (bs y.fr), .string (bs y.tt), .pointer P2] 80) = w9 at *
            have hs9 : w9.heap.size = wr.heap.size + 1 := by rw [← hw9]; simp
            have HS9 := Lib.hid hs9
            clear hw9 q0 q1 q2 q3 hs9
            have y0 : w9.cell? ⟨wr.heap.size, 0, none⟩ = some (.int .i64 y.kind) := HBY.out.cell 0
            have y1 : w9.cell? ⟨wr.heap.size, 1, none⟩ = some (.string (bs y.fr)) := HBY.out.cell 1
            have y2 : w9.cell? ⟨wr.heap.size, 2, none⟩ = some (.string (bs y.tt)) := HBY.out.cell 2
            have y3 : w9.cell? ⟨wr.heap.size, 3, none⟩ = some (.pointer P2) := HBY.out.cell 3
            have z0 : w9.cell? ⟨wo, 0, none⟩ = some (.int .i64 x.kind) := HBX1.out.cell 0
            have z1 : w9.cell? ⟨wo, 1, none⟩ = some (.string (bs x.fr)) := HBX1.out.cell 1
            have z2 : w9.cell? ⟨wo, 2, none⟩ = some (.string (bs x.tt)) := HBX1.out.cell 2
            have z3 : w9.cell? ⟨wo, 3, none⟩ = some (.pointer P) := HBX1.out.cell 3
            obtain ⟨v0, hv0⟩ : ∃ v0, svM d.waits S x (kc.getD i false) j = v0 := ⟨_, rfl⟩
            have HV0 := Lib.hid hv0
            obtain ⟨v1, hv1⟩ : ∃ v1, L[j]? = some v1 := ⟨_, List.getElem?_eq_getElem (by rw [HL.out]; omega)⟩
            have hsj : S[j]? = some v1 := by
              have h1 : (L.take i)[j]? = some v1 := by rw [List.getElem?_take_of_lt hlj]; exact hv1
              rw [HT.out, List.getElem?_take_of_lt hlj] at h1
              exact h1
            have d0 : w9.cell? ⟨w0.heap.size, i, none⟩ = some (.bool v0) := by
              have := BoB.cell HBO1.out (j := i) (x := v0) (by rw [hv0, List.getElem?_set_self (by rw [HL.out]; exact hlt)])
              exact this
            have d1 : w9.cell? ⟨w0.heap.size, j, none⟩ = some (.bool v1) := BoB.cell HBO1.out (by rw [List.getElem?_set_ne (by omega)]; exact hv1)
            have f0 : w9.frozen? ⟨w0.heap.size, i, none⟩ = false := BoB.free HBO1.out i
            have HSU : Hid (svM d.waits S x (kc.getD i false) (j + 1) = (v0 && (v1 || !shareC y x))) := Lib.hid (by rw [svM_succ hy hsj, hv0])
            have KL := Lib.hid (leans_walk w9 x y (.pointer P) (.pointer P2) (by cases P; exact .inl rfl; exact .inr ⟨_, rfl⟩) (by cases P2; exact .inl rfl; exact .inr ⟨_, rfl⟩))
            unfold chA at KL
            have hji1 : (j : Int) < (n : Int) := by omega
            clear hv0 hv1 hsj hy HBY HBO HBX8 HBL8
            cases v0 with
            | false =>
              go_wp2_with fail
              go_roundg (gk - 1)
              case rel => exact ⟨j + 1, by go_num, by omega, Lib.hid (by
                have := BoB.set_ HBO1.out i false
                rw [List.set_set] at this
                rw [HSU.out, Bool.false_and]
                exact this), Lib.hid (HBX1.out.far (p := ⟨w0.heap.size, i, none⟩) (by show wo ≠ w0.heap.size; omega) _), Lib.hid (HBL1.out.setCell (Nat.le_refl _) _)⟩
              case measure => omega
            | true =>
              cases v1 with
              | true =>
                go_wp2_with fail
                go_roundg (gk - 1)
                case rel => exact ⟨j + 1, by go_num, by omega, Lib.hid (by
                  have := BoB.set_ HBO1.out i true
                  rw [List.set_set] at this
                  rw [HSU.out, Bool.true_or, Bool.true_and]
                  exact this), Lib.hid (HBX1.out.far (p := ⟨w0.heap.size, i, none⟩) (by show wo ≠ w0.heap.size; omega) _), Lib.hid (HBL1.out.setCell (Nat.le_refl _) _)⟩
                case measure => omega
              | false =>
                obtain ⟨F, hF⟩ : ∃ F, shareC y x = F := ⟨_, rfl⟩
                have HF := Lib.hid hF
                rw [hF] at KL
                clear hF
                go_wp2_with fail
                refine KL.out.mono ?_
                rintro e1 w8 ⟨hb8, rfl⟩
                have hB8 : BoB w8 w0.heap.size (L.set i (svM d.waits S x (kc.getD i false) j)) := HBO1.out.keep hb8
                rw [HV0.out] at hB8
                have HB8 := Lib.hid hB8
                have HX8 := Lib.hid (HBX1.out.keep hb8)
                have HL8 : Hid (Below w0.heap.size w0 w8) := Lib.hid (HBL1.out.trans (hb8.mono (by have := HS9.out; omega)))
                have d8 : w8.cell? ⟨w0.heap.size, i, none⟩ = some (.bool true) := BoB.cell hB8 (List.getElem?_set_self (by rw [HL.out]; exact hlt))
                have f8 : w8.frozen? ⟨w0.heap.size, i, none⟩ = false := BoB.free hB8 i
                clear hb8 hB8
                go_wp2_with fail
                go_roundg (gk - 1)
                case rel => exact ⟨j + 1, by go_num, by omega, Lib.hid (by
                  have := BoB.set_ HB8.out i (!F)
                  rw [List.set_set] at this
                  rw [HSU.out, HF.out, Bool.false_or, Bool.true_and]
                  exact this), Lib.hid (HX8.out.far (p := ⟨w0.heap.size, i, none⟩) (by show wo ≠ w0.heap.size; omega) _), Lib.hid (HL8.out.setCell (Nat.le_refl _) _)⟩
                case measure => omega
          · have hlj1 : ¬ (j : Int) < (i : Int) := by omega
            obtain rfl : j = i := by omega
            go_wp2_with fail
            go_roundg (n - (j + 1))
            case rel => exact ⟨j + 1, _, by go_num, by omega, HBO, Lib.hid (by rw [List.length_set]; exact HL.out), Lib.hid (by
              have h1 := surv_at (ks := kc) HX.out
              rw [HS.out] at h1
              obtain ⟨h2, h3⟩ := List.getElem?_eq_some_iff.1 h1
              rw [take_set _ _ _ (by rw [HL.out]; exact hlt), HT.out, List.take_succ_eq_append_getElem h2, h3]), HBL8⟩
            case measure => omega
      · have hkc1 : ¬ (i : Int) < (kc.length : Int) := by omega
        have HKV : Hid (kc.getD i false = false) := Lib.hid (by rw [List.getD_eq_getElem?_getD, List.getElem?_eq_none (by omega)]; rfl)
        go_upto_region 6 with fail
        have HBO5 : Hid (BoB (w1.setCell ⟨w0.heap.size, i, none⟩ (.bool false)) w0.heap.size (L.set i false)) := Lib.hid (BoB.set_ HB1.out i false)
        have HBX5 : Hid (Blk (w1.setCell ⟨w0.heap.size, i, none⟩ (.bool false)) wr.heap.size 80 #[.int .i64 x.kind, .string (bs x.fr), .string (bs x.tt), .pointer P]) := Lib.hid (HBX1.out.far (p := ⟨w0.heap.size, i, none⟩) (by show wr.heap.size ≠ w0.heap.size; omega) _)
        have HBL5 : Hid (Below w0.heap.size w0 (w1.setCell ⟨w0.heap.size, i, none⟩ (.bool false))) := Lib.hid (HBL1.out.setCell (Nat.le_refl _) _)
        have c65 : (w1.setCell ⟨w0.heap.size, i, none⟩ (.bool false)).cell? ⟨db, 6, none⟩ = some (.slice (some ⟨bb, off, none⟩) n c) := HC6.out _ (HBX.out.trans (HBL5.out.mono HBX.out.size))
        clear HB1 HBX1 HBL1 d0 f0 kk0 HAT2 HB HBL HBW c6
        generalize hw5 : w1.setCell ⟨w0.heap.size, i, none⟩ (.bool false) = w5 at *
        clear hw5
        have hin : (i : Int) ≤ (n : Int) := by omega
        have hnc1 : (n : Int) ≤ (c : Int) := by omega
        go_upto_region 7 with fail
        have HSV : Hid (svM d.waits S x (kc.getD i false) 0 = false) := Lib.hid ((svM_zero _ _ _ _).trans HKV.out)
        obtain ⟨wo, hwo⟩ : ∃ wo, wr.heap.size = wo := ⟨_, rfl⟩
        rw [hwo] at HBX5
        rw [hwo]
        have hwsz' : w0.heap.size < wo := by omega
        clear hwsz hsw hwo c65
        go_loopg [53] i (fun k s53 wr => ∃ j : Nat, s53 = .int .i64 (j : Int) ∧ j + k = i ∧ Hid (BoB wr w0.heap.size (L.set i (svM d.waits S x (kc.getD i false) j))) ∧ Hid (Blk wr wo 80 #[.int .i64 x.kind, .string (bs x.fr), .string (bs x.tt), .pointer P]) ∧ Hid (Below w0.heap.size w0 wr))
        case atStart => exact ⟨0, rfl, by omega, by rw [HSV.out]; exact HBO5, HBX5, HBL5⟩
        case round =>
          obtain ⟨j, rfl, hj, HBO, HBX8, HBL8⟩ := hrel
          clear HBO5 HBX5 HBL5 HSV
          by_cases hlj : j < i
          · have hlj1 : (j : Int) < (i : Int) := by omega
            obtain ⟨y, hy⟩ : ∃ y, d.waits[j]? = some y := ⟨_, List.getElem?_eq_getElem (by rw [← HN.out]; omega)⟩
            obtain ⟨bb2, off2, -, he2, hbl2, c0, c1, c2, c3⟩ := HAT.out j y hy
            injection he2 with he2
            injection he2 with he3 he4 _
            subst he3; subst he4
            obtain ⟨P2, hP2⟩ := chP_ptr q.bl y
            rw [hP2] at c3
            have hbw : Below w.heap.size w wr := HBX.out.trans (HBL8.out.mono HBX.out.size)
            have q0 : wr.cell? ⟨bb, off + j * 4, none⟩ = some (.int .i64 y.kind) := (hbw.cell (p := ⟨bb, off + j * 4, none⟩) hbl2).trans c0
            have q1 : wr.cell? ⟨bb, off + j * 4 + 1, none⟩ = some (.string (bs y.fr)) := (hbw.cell (p := ⟨bb, off + j * 4 + 1, none⟩) hbl2).trans c1
            have q2 : wr.cell? ⟨bb, off + j * 4 + 2, none⟩ = some (.string (bs y.tt)) := (hbw.cell (p := ⟨bb, off + j * 4 + 2, none⟩) hbl2).trans c2
            have q3 : wr.cell? ⟨bb, off + j * 4 + 3, none⟩ = some (.pointer P2) := (hbw.cell (p := ⟨bb, off + j * 4 + 3, none⟩) hbl2).trans c3
            have HBY := Lib.hid (Blk.new wr 80 #[.int .i64 y.kind, .string (bs y.fr), .string (bs y.tt), .pointer P2])
            have HBO1 := Lib.hid (HBO.out.alloc (.cells #[.int .i64 y.kind, .string (bs y.fr), .string (bs y.tt), .pointer P2] 80))
            have HBX1 := Lib.hid (HBX8.out.alloc (.cells #[.int .i64 y.kind, .string (bs y.fr), .string (bs y.tt), .pointer P2] 80))
            have HBL1 := Lib.hid (HBL8.out.alloc HBL8.out.size (.cells #[.int .i64 y.kind, .string (bs y.fr), .string (bs y.tt), .pointer P2] 80))
            have hwl : w0.heap.size < wr.heap.size := HBO.out.lt
            have hol : wo < wr.heap.size := HBX8.out.lt
            clear c0 c1 c2 c3 hP2 hbw
            go_upto_region 9 with fail
            generalize hw9 : wr.alloc (.cells #[.int .i64 y.kind, .string (bs y.fr), .string (bs y.tt), .pointer P2] 80) = w9 at *
            have hs9 : w9.heap.size = wr.heap.size + 1 := by rw [← hw9]; simp
            have HS9 := Lib.hid hs9
            clear hw9 q0 q1 q2 q3 hs9
            have y0 : w9.cell? ⟨wr.heap.size, 0, none⟩ = some (.int .i64 y.kind) := HBY.out.cell 0
            have y1 : w9.cell? ⟨wr.heap.size, 1, none⟩ = some (.string (bs y.fr)) := HBY.out.cell 1
            have y2 : w9.cell? ⟨wr.heap.size, 2, none⟩ = some (.string (bs y.tt)) := HBY.out.cell 2
            have y3 : w9.cell? ⟨wr.heap.size, 3, none⟩ = some (.pointer P2) := HBY.out.cell 3
            have z0 : w9.cell? ⟨wo, 0, none⟩ = some (.int .i64 x.kind) := HBX1.out.cell 0
            have z1 : w9.cell? ⟨wo, 1, none⟩ = some (.string (bs x.fr)) := HBX1.out.cell 1
            have z2 : w9.cell? ⟨wo, 2, none⟩ = some (.string (bs x.tt)) := HBX1.out.cell 2
            have z3 : w9.cell? ⟨wo, 3, none⟩ = some (.pointer P) := HBX1.out.cell 3
            obtain ⟨v0, hv0⟩ : ∃ v0, svM d.waits S x (kc.getD i false) j = v0 := ⟨_, rfl⟩
            have HV0 := Lib.hid hv0
            obtain ⟨v1, hv1⟩ : ∃ v1, L[j]? = some v1 := ⟨_, List.getElem?_eq_getElem (by rw [HL.out]; omega)⟩
            have hsj : S[j]? = some v1 := by
              have h1 : (L.take i)[j]? = some v1 := by rw [List.getElem?_take_of_lt hlj]; exact hv1
              rw [HT.out, List.getElem?_take_of_lt hlj] at h1
              exact h1
            have d0 : w9.cell? ⟨w0.heap.size, i, none⟩ = some (.bool v0) := by
              have := BoB.cell HBO1.out (j := i) (x := v0) (by rw [hv0, List.getElem?_set_self (by rw [HL.out]; exact hlt)])
              exact this
            have d1 : w9.cell? ⟨w0.heap.size, j, none⟩ = some (.bool v1) := BoB.cell HBO1.out (by rw [List.getElem?_set_ne (by omega)]; exact hv1)
            have f0 : w9.frozen? ⟨w0.heap.size, i, none⟩ = false := BoB.free HBO1.out i
            have HSU : Hid (svM d.waits S x (kc.getD i false) (j + 1) = (v0 && (v1 || !shareC y x))) := Lib.hid (by rw [svM_succ hy hsj, hv0])
            have KL := Lib.hid (leans_walk w9 x y (.pointer P) (.pointer P2) (by cases P; exact .inl rfl; exact .inr ⟨_, rfl⟩) (by cases P2; exact .inl rfl; exact .inr ⟨_, rfl⟩))
            unfold chA at KL
            have hji1 : (j : Int) < (n : Int) := by omega
            clear hv0 hv1 hsj hy HBY HBO HBX8 HBL8
            cases v0 with
            | false =>
              go_wp2_with fail
              go_roundg (gk - 1)
              case rel => exact ⟨j + 1, by go_num, by omega, Lib.hid (by
                have := BoB.set_ HBO1.out i false
                rw [List.set_set] at this
                rw [HSU.out, Bool.false_and]
                exact this), Lib.hid (HBX1.out.far (p := ⟨w0.heap.size, i, none⟩) (by show wo ≠ w0.heap.size; omega) _), Lib.hid (HBL1.out.setCell (Nat.le_refl _) _)⟩
              case measure => omega
            | true =>
              cases v1 with
              | true =>
                go_wp2_with fail
                go_roundg (gk - 1)
                case rel => exact ⟨j + 1, by go_num, by omega, Lib.hid (by
                  have := BoB.set_ HBO1.out i true
                  rw [List.set_set] at this
                  rw [HSU.out, Bool.true_or, Bool.true_and]
                  exact this), Lib.hid (HBX1.out.far (p := ⟨w0.heap.size, i, none⟩) (by show wo ≠ w0.heap.size; omega) _), Lib.hid (HBL1.out.setCell (Nat.le_refl _) _)⟩
                case measure => omega
              | false =>
                obtain ⟨F, hF⟩ : ∃ F, shareC y x = F := ⟨_, rfl⟩
                have HF := Lib.hid hF
                rw [hF] at KL
                clear hF
                go_wp2_with fail
                refine KL.out.mono ?_
                rintro e1 w8 ⟨hb8, rfl⟩
                have hB8 : BoB w8 w0.heap.size (L.set i (svM d.waits S x (kc.getD i false) j)) := HBO1.out.keep hb8
                rw [HV0.out] at hB8
                have HB8 := Lib.hid hB8
                have HX8 := Lib.hid (HBX1.out.keep hb8)
                have HL8 : Hid (Below w0.heap.size w0 w8) := Lib.hid (HBL1.out.trans (hb8.mono (by have := HS9.out; omega)))
                have d8 : w8.cell? ⟨w0.heap.size, i, none⟩ = some (.bool true) := BoB.cell hB8 (List.getElem?_set_self (by rw [HL.out]; exact hlt))
                have f8 : w8.frozen? ⟨w0.heap.size, i, none⟩ = false := BoB.free hB8 i
                clear hb8 hB8
                go_wp2_with fail
                go_roundg (gk - 1)
                case rel => exact ⟨j + 1, by go_num, by omega, Lib.hid (by
                  have := BoB.set_ HB8.out i (!F)
                  rw [List.set_set] at this
                  rw [HSU.out, HF.out, Bool.false_or, Bool.true_and]
                  exact this), Lib.hid (HX8.out.far (p := ⟨w0.heap.size, i, none⟩) (by show wo ≠ w0.heap.size; omega) _), Lib.hid (HL8.out.setCell (Nat.le_refl _) _)⟩
                case measure => omega
          · have hlj1 : ¬ (j : Int) < (i : Int) := by omega
            obtain rfl : j = i := by omega
            go_wp2_with fail
            go_roundg (n - (j + 1))
            case rel => exact ⟨j + 1, _, by go_num, by omega, HBO, Lib.hid (by rw [List.length_set]; exact HL.out), Lib.hid (by
              have h1 := surv_at (ks := kc) HX.out
              rw [HS.out] at h1
              obtain ⟨h2, h3⟩ := List.getElem?_eq_some_iff.1 h1
              rw [take_set _ _ _ (by rw [HL.out]; exact hlt), HT.out, List.take_succ_eq_append_getElem h2, h3]), HBL8⟩
            case measure => omega
    · have hlt1 : ¬ (i : Int) < (n : Int) := by omega
      obtain rfl : i = n := by omega
      have hSl : S.length = i := by rw [← HS.out, HN.out]; exact surv_len _ _ _
      have HLS : Hid (L = S) := Lib.hid (by
        have := HT.out
        rw [List.take_of_length_le (by rw [HL.out]; exact Nat.le_refl _), List.take_of_length_le (by rw [hSl]; exact Nat.le_refl _)] at this
        exact this)
      have hbw : Below w.heap.size w wr := HBX.out.trans (HBL.out.mono HBX.out.size)
      have HBW := Lib.hid hbw
      have KL : Hid (Calls Tryz.prog 43 #[.pointer (some ⟨db, 0, none⟩), .slice (some ⟨w0.heap.size, 0, none⟩) i i] wr (EntPost z wr own db (lastM d (survM d.waits kc)))) := Lib.hid (by
        rw [HS.out, ← HLS.out]
        exact last_walk z wr own db d q (HP.out.below hbw) HW.out hK HNL.out L _ i i HL.out (by rw [HL.out, HN.out]) (by rw [HLS.out, ← HS.out]; exact surv_closed _ _ _) (BoB.row HB.out))
      clear hbw hSl c6
      go_wp2_with fail
      refine KL.out.mono ?_
      rintro e w2 ⟨own2, ⟨q2, hd2⟩, ht2, rfl⟩
      obtain ⟨q2, hd2, -, hq2⟩ := hd2.norm (hw := HW.out.last (br := survM d.waits kc) (surv_len _ _ _) (surv_closed _ _ _)) (by omega)
      have HD2 := Lib.hid hd2
      have HNL2 : Hid (q2.nl ≤ 100000) := Lib.hid (by omega)
      have HT2 : Hid (Turn (isD z) w w2 own own2) := Lib.hid ((Turn.of_below HBW.out fun _ _ => rfl).trans ht2)
      have hob : own w.heap.size = (0, 0) := HOWN.out _ (Nat.le_refl _)
      have hnd : ¬ isD z (own w.heap.size) := by rw [hob]; unfold isD; simp
      have hwsz : w.heap.size < wr.heap.size := by have := HBL.out.size; rw [HS0.out] at this; omega
      have HBK : Hid (∀ W ownW, Turn (isD z) w2 W own2 ownW → Blk W w.heap.size 26 #[.slice Ac kc.length cc, .slice Aw kw.length cw]) := Lib.hid fun W ownW hT => by
        have h1 : Blk wr w.heap.size 26 #[.slice Ac kc.length cc, .slice Aw kw.length cw] := HK0.out.below HBL.out (by rw [HS0.out]; omega)
        have h2 := h1.at_ (ht2.block _ hwsz hnd)
        have h3 := ht2.mark _ hwsz hnd
        exact h2.at_ (hT.block _ h2.lt (by rw [h3]; exact hnd))
      have HKW : Hid (∀ W ownW, Turn (isD z) w2 W own2 ownW → ∀ (m : Nat) (v : Value), (kw.map (Value.int .i64))[m]? = some v → ∃ b off, Aw = some ⟨b, off, none⟩ ∧ W.cell? ⟨b, off + m, none⟩ = some v) := Lib.hid fun W ownW hT m v hv => by
        obtain ⟨b, off, e1, e2, e3, e4⟩ := HRW.out m v hv
        refine ⟨b, off, e1, ?_⟩
        rw [← e4]
        have h1 := HT2.out.trans hT
        exact World.cell?_of_block (h1.block b e2 e3)
      have HW1 : Hid (Wf (lastM d (survM d.waits kc)) K) := Lib.hid (HW.out.last (surv_len _ _ _) (surv_closed _ _ _))
      have HI0 : Hid (CrI z w2 own2 db (lastM d (survM d.waits kc)) q2 kw (usedM (lastM d (survM d.waits kc))) 0 w2 own2) := Lib.hid ⟨by rw [ndK_zero]; exact hd2.rest, hd2.blk, hd2.mark, Turn.refl _ _ _⟩
      obtain ⟨nf, hnf⟩ : ∃ nf, d.nodes.length = nf := ⟨_, rfl⟩
      have HNF := Lib.hid hnf
      have hnfK : nf ≤ 10000 := by have := HW.out.nk; omega
      obtain ⟨Af, nf', cf, ef, hxf, hnf2, hmf⟩ := hd2.rest.files.sl
      obtain rfl : nf = nf' := by
        rw [List.length_map, hd2.rest.len] at hxf
        have : (lastM d (survM d.waits kc)).nodes.length = d.nodes.length := rfl
        omega
      have k3 : w2.cell? ⟨db, 3, none⟩ = some (.slice Af nf cf) := by rw [← ef]; exact hd2.blk.cell 3
      have HEF := Lib.hid ef
      have HBL2 : Hid (q2.bl.length = nf) := Lib.hid (by rw [hd2.rest.len]; exact hnf)
      clear hd2 ht2 hob hnd hq2 hxf hnf hwsz HB HL HT HLS KL HS HK0 HRC
      go_upto_region 15 with fail
      go_loopg [9, 87] nf (fun k s9 s87 wr => ∃ (i : Nat) (ownr : Nat → Nat × Nat), s87 = .int .i64 (i : Int) ∧ s9 = .int .i64 (wtN ((lastM d (survM d.waits kc)).nodes.take i) : Int) ∧ i + k = nf ∧ Hid (CrI z w2 own2 db (lastM d (survM d.waits kc)) q2 kw (usedM (lastM d (survM d.waits kc))) i wr ownr))
      case atStart => exact ⟨0, own2, rfl, rfl, by omega, HI0⟩
      case round =>
        obtain ⟨i', ownr, rfl, rfl, hi', HI⟩ := hrel
        clear HI0 k3
        by_cases hlf : i' < nf
        · have hlf1 : (i' : Int) < (nf : Int) := by omega
          obtain ⟨x, hx⟩ : ∃ x, (lastM d (survM d.waits kc)).nodes[i']? = some x := ⟨_, List.getElem?_eq_getElem (by rw [show (lastM d (survM d.waits kc)).nodes.length = nf from HNF.out]; exact hlf)⟩
          obtain ⟨b, hb⟩ : ∃ b, q2.bl[i']? = some b := ⟨_, List.getElem?_eq_getElem (by rw [HBL2.out]; exact hlf)⟩
          have hF := HI.out.fst hx hb
          have hok : NdOk x K := HW1.out.nd x (List.mem_of_getElem? hx)
          have hX := HI.out.rest.files
          rw [HEF.out] at hX
          obtain ⟨gf, of_, -, rfl, -, hcl, -⟩ := hX.at_ (by omega)
          have e0 : wr.cell? ⟨gf, of_ + i', none⟩ = some (.pointer (some ⟨b, 0, none⟩)) := by
            have h1 : ((q2.bl.map ptrV)[i']?) = some (ptrV b) := by rw [List.getElem?_map, hb]; rfl
            have h2 := (List.getElem?_eq_some_iff.1 h1).1
            have h3 := hcl i' h2
            rw [h3]
            exact h1
          have KW := Lib.hid (waiting_walk hF hok (by omega))
          have HXX := Lib.hid hx
          have HBB := Lib.hid hb
          have HF := Lib.hid hF
          have HOK := Lib.hid hok
          have hwl := wtN_le (lastM d (survM d.waits kc)).nodes i'
          have HWS := Lib.hid (wtN_succ hx)
          unfold ptrV at KW
          clear hF hok hX hcl hx hb
          go_wp2_with fail
          refine KW.out.mono ?_
          rintro e w3 ⟨hb3, rfl⟩
          have HB3 := Lib.hid hb3
          have HKB := Lib.hid ((HBK.out wr ownr HI.out.turn).keep hb3)
          have HF3 : Hid (FSt z w3 ownr i' b x) := Lib.hid (HF.out.goes (keep := fun _ => True) ⟨hb3.size, fun k hk _ => ⟨hb3.block k hk, rfl⟩⟩ trivial fun _ _ => trivial)
          have KK : Hid (∀ m : Int, -9223372036854775808 ≤ m → m ≤ 9223372036854775807 → Calls Tryz.prog 45 #[.pointer (some ⟨b, 0, none⟩), .int .i64 m] w3 (KeepPost z i' w3 ownr b (keepN x m))) := Lib.hid fun m h1 h2 => keep_walk HF3.out HOK.out (by omega) m h1 h2
          have kb1 : w3.cell? ⟨w.heap.size, 1, none⟩ = some (.slice Aw kw.length cw) := HKB.out.cell 1
          clear hb3
          obtain ⟨wt, hwt⟩ : ∃ wt, wtN ((lastM d (survM d.waits kc)).nodes.take i') = wt := ⟨_, rfl⟩
          have HWT := Lib.hid hwt
          rw [hwt] at hwl HWS
          rw [hwt]
          clear hwt e0 KW
          by_cases h0 : waitN x = 0
          · have hKP : Hid (kpN (lastM d (survM d.waits kc)).nodes kw i' x = 0) := Lib.hid (by unfold kpN; rw [if_pos h0])
            have HWS1 : Hid (wtN ((lastM d (survM d.waits kc)).nodes.take (i' + 1)) = wt) := Lib.hid (by rw [HWS.out, if_pos h0]; rfl)
            rw [h0]
            clear h0
            go_wp2_with fail
            refine (KK.out 0 (by omega) (by omega)).mono ?_
            rintro e w4 hp
            have HP4 := Lib.hid hp
            obtain ⟨-, -, -, rfl⟩ := hp
            go_wp2_with fail
            go_roundg (gk - 1)
            case rel =>
              obtain ⟨own4, h4⟩ := HI.out.step HXX.out HBB.out HB3.out (by rw [hKP.out]; exact HP4.out)
              exact ⟨i' + 1, own4, by go_num, by rw [HWS1.out], by omega, Lib.hid h4⟩
            case measure => omega
          · have hpos : (0 : Int) < (waitN x : Int) := by omega
            have HWS1 : Hid (wtN ((lastM d (survM d.waits kc)).nodes.take (i' + 1)) = wt + 1) := Lib.hid (by rw [HWS.out, if_neg h0])
            have hwt1 : (wt : Int) ≤ 10000 := by omega
            by_cases hkl : wt < kw.length
            · have hkl1 : (wt : Int) < (kw.length : Int) := by omega
              obtain ⟨m, hm⟩ : ∃ m, kw[wt]? = some m := ⟨_, List.getElem?_eq_getElem hkl⟩
              have hz := HZW.out m (List.mem_of_getElem? hm)
              obtain ⟨bw, ow, rfl, hcw2⟩ := HKW.out wr ownr HI.out.turn wt (.int .i64 m) (by rw [List.getElem?_map, hm]; rfl)
              have e1 : w3.cell? ⟨bw, ow + wt, none⟩ = some (.int .i64 m) := (HB3.out.cell (p := ⟨bw, ow + wt, none⟩) (World.block_lt_of_cell? _ _ hcw2)).trans hcw2
              have hKP : Hid (kpN (lastM d (survM d.waits kc)).nodes kw i' x = m) := Lib.hid (by unfold kpN; rw [if_neg h0, HWT.out, List.getD_eq_getElem?_getD, hm]; rfl)
              clear hcw2 hm h0
              go_wp2_with fail
              refine (KK.out m hz.1 hz.2).mono ?_
              rintro e w4 hp
              have HP4 := Lib.hid hp
              obtain ⟨-, -, -, rfl⟩ := hp
              go_wp2_with fail
              go_roundg (gk - 1)
              case rel =>
                obtain ⟨own4, h4⟩ := HI.out.step HXX.out HBB.out HB3.out (by rw [hKP.out]; exact HP4.out)
                exact ⟨i' + 1, own4, by go_num, by rw [HWS1.out]; go_num, by omega, Lib.hid h4⟩
              case measure => omega
            · have hkl1 : ¬ (wt : Int) < (kw.length : Int) := by omega
              have hKP : Hid (kpN (lastM d (survM d.waits kc)).nodes kw i' x = 0) := Lib.hid (by unfold kpN; rw [if_neg h0, HWT.out, List.getD_eq_getElem?_getD, List.getElem?_eq_none (by omega)]; rfl)
              clear h0
              go_wp2_with fail
              refine (KK.out 0 (by omega) (by omega)).mono ?_
              rintro e w4 hp
              have HP4 := Lib.hid hp
              obtain ⟨-, -, -, rfl⟩ := hp
              go_wp2_with fail
              go_roundg (gk - 1)
              case rel =>
                obtain ⟨own4, h4⟩ := HI.out.step HXX.out HBB.out HB3.out (by rw [hKP.out]; exact HP4.out)
                exact ⟨i' + 1, own4, by go_num, by rw [HWS1.out]; go_num, by omega, Lib.hid h4⟩
              case measure => omega
        · have hlf1 : ¬ (i' : Int) < (nf : Int) := by omega
          obtain rfl : i' = nf := by omega
          obtain ⟨wv, rfl⟩ : ∃ wv, wv = wr := ⟨_, rfl⟩
          have HIF : Hid (CrI z w2 own2 db (lastM d (survM d.waits kc)) q2 kw (usedM (lastM d (survM d.waits kc))) d.nodes.length wv ownr) := Lib.hid (by rw [HNF.out]; exact HI.out)
          have hB := HIF.out.blk
          obtain ⟨Ac2, nc2, cc2, ec2, -⟩ := HIF.out.rest.chs.sl
          have k5 : wv.cell? ⟨db, 5, none⟩ = some (.map (some q2.ml)) := hB.cell 5
          have hdbw := hB.lt
          have KM := Lib.hid (mclone_walk HIF.out.rest.ol)
          have HBW4 := Lib.hid hB
          clear hB HI HBK HKW ec2
          go_wp2_with fail
          refine KM.out.mono ?_
          rintro e w4 ⟨⟨hb4, ho4⟩, rfl⟩
          have hB4 := HBW4.out.keep hb4
          have f6 := hB4.frozen 6
          have f4 := hB4.frozen 4
          have f1 := hB4.frozen 1
          have j6 : w4.cell? ⟨db, 6, none⟩ = some q2.vc := hB4.cell 6
          have j4 : w4.cell? ⟨db, 4, none⟩ = some (.map (some q2.mn)) := hB4.cell 4
          have HB4 := Lib.hid hB4
          have HO4 := Lib.hid ho4
          have HBE4 := Lib.hid hb4
          clear hB4 ho4 hb4 KM k5
          have hmb4 : wv.heap.size ≠ db := by omega
          have g1 : ((w4.setCell ⟨db, 6, none⟩ (.slice none 0 0)).setCell ⟨db, 4, none⟩ (.map (some wv.heap.size))).cell? ⟨db, 1, none⟩ = some (.int .i64 (usedM (lastM d (survM d.waits kc)) : Int)) := ((HB4.out.set_ 6 (.slice none 0 0)).set_ 4 (.map (some wv.heap.size))).cell 1
          have HB5 : Hid (Blk (((w4.setCell ⟨db, 6, none⟩ (.slice none 0 0)).setCell ⟨db, 4, none⟩ (.map (some wv.heap.size))).setCell ⟨db, 1, none⟩ (.int .i64 0)) db 69 (crA q2 d wv.heap.size 0 d.off d.arm d.fail)) := Lib.hid (by
            have h1 := ((HB4.out.set_ 6 (.slice none 0 0)).set_ 4 (.map (some wv.heap.size))).set_ 1 (.int .i64 0)
            unfold DParts.cellsU at h1
            unfold crA
            exact h1)
          have st5 : ∀ k, k ≠ db → (((w4.setCell ⟨db, 6, none⟩ (.slice none 0 0)).setCell ⟨db, 4, none⟩ (.map (some wv.heap.size))).setCell ⟨db, 1, none⟩ (.int .i64 0)).heap[k]? = w4.heap[k]? := fun k h1 =>
            (Below.heap_setCell _ ⟨db, 1, none⟩ _ k h1).trans ((Below.heap_setCell _ ⟨db, 4, none⟩ _ k h1).trans (Below.heap_setCell _ ⟨db, 6, none⟩ _ k h1))
          have HO5 := Lib.hid (ownsMap_same HO4.out (st5 _ hmb4))
          have HST5 := Lib.hid st5
          have HSZ5 : Hid ((((w4.setCell ⟨db, 6, none⟩ (.slice none 0 0)).setCell ⟨db, 4, none⟩ (.map (some wv.heap.size))).setCell ⟨db, 1, none⟩ (.int .i64 0)).heap.size = w4.heap.size) := Lib.hid (by simp)
          have HGO5 : Hid ((((w4.setCell ⟨db, 6, none⟩ (.slice none 0 0)).setCell ⟨db, 4, none⟩ (.map (some wv.heap.size))).setCell ⟨db, 1, none⟩ (.int .i64 0)).os = wv.os ∧ (((w4.setCell ⟨db, 6, none⟩ (.slice none 0 0)).setCell ⟨db, 4, none⟩ (.map (some wv.heap.size))).setCell ⟨db, 1, none⟩ (.int .i64 0)).tape = wv.tape ∧ (((w4.setCell ⟨db, 6, none⟩ (.slice none 0 0)).setCell ⟨db, 4, none⟩ (.map (some wv.heap.size))).setCell ⟨db, 1, none⟩ (.int .i64 0)).output = wv.output) := Lib.hid ⟨HBE4.out.os, HBE4.out.tape, HBE4.out.output⟩
          clear st5 HO4 HB4
          go_upto_region 26 with fail
          clear g1 f6 f4 f1 j6 j4
          generalize hw5 : ((w4.setCell ⟨db, 6, none⟩ (.slice none 0 0)).setCell ⟨db, 4, none⟩ (.map (some wv.heap.size))).setCell ⟨db, 1, none⟩ (.int .i64 0) = w5 at *
          clear hw5
          have k4 : w5.cell? ⟨db, 4, none⟩ = some (.map (some wv.heap.size)) := HB5.out.cell 4
          have hml5 : wv.heap.size < w5.heap.size := HO5.out.lt
          have hs45 : w4.heap.size = w5.heap.size := HSZ5.out.symm
          have HFC : Hid (∀ (j b : Nat), q2.bl[j]? = some b → ∃ A c, w5.cell? ⟨b, 0, none⟩ = some (.slice A ((keptM d.nodes kw).getD j nd0).now.length c) ∧ b < w5.heap.size ∧ b ≠ db) := Lib.hid fun j b hb => by
            have hjl : j < (keptM d.nodes kw).length := by
              have h1 := (List.getElem?_eq_some_iff.1 hb).1
              rw [keptM_len, HNF.out, ← HBL2.out]; exact h1
            have hnd : ndK (lastM d (survM d.waits kc)).nodes kw d.nodes.length = keptM d.nodes kw := ndK_full d.nodes kw
            obtain ⟨y, hy⟩ : ∃ y, (keptM d.nodes kw)[j]? = some y := ⟨_, List.getElem?_eq_getElem hjl⟩
            have hF := HIF.out.rest.fs j b y hb (show (ndK (lastM d (survM d.waits kc)).nodes kw d.nodes.length)[j]? = some y by rw [hnd]; exact hy)
            obtain ⟨mk, vn, gn, vl, gl, vw, gw, vs, hB, hO, -⟩ := hF
            obtain ⟨A, c, rfl, -⟩ := hO
            have hbd : b ≠ db := fun e => by rw [e, HIF.out.mark] at mk; simp at mk
            have hbl := hB.lt
            refine ⟨A, c, ?_, by omega, hbd⟩
            have h1 : (keptM d.nodes kw).getD j nd0 = y := by rw [List.getD_eq_getElem?_getD, hy]; rfl
            rw [h1]
            have h2 : w5.heap[b]? = wv.heap[b]? := (HST5.out b hbd).trans (HBE4.out.block b hbl)
            exact (World.cell?_of_block h2).trans (hB.cell 0)
          have HUB : Hid (∀ f : Tx × Nat → Bool, usedL (keptM d.nodes kw) ((lastM d (survM d.waits kc)).lasts.filter f) ≤ 671088640000) := Lib.hid fun f => by
            have h1 := usedL_le (nodes := keptM d.nodes kw) (L := (lastM d (survM d.waits kc)).lasts.filter f) fun x hx => (keptM_ok kw HW.out.nd x hx).ln
            have h2 := List.length_filter_le f (lastM d (survM d.waits kc)).lasts
            have h3 := HW1.out.cpl
            have h4 : ((lastM d (survM d.waits kc)).lasts.filter f).length ≤ 10000 := by omega
            have := Nat.mul_le_mul_right 67108864 h4
            omega
          have hndl : ∀ j : Nat, ((keptM d.nodes kw).getD j nd0).now.length ≤ 67108864 := fun j => by
            rw [List.getD_eq_getElem?_getD]
            cases hj : (keptM d.nodes kw)[j]? with
            | none => simp [nd0]
            | some y => exact (keptM_ok kw HW.out.nd y (List.mem_of_getElem? hj)).ln
          have HNDL := Lib.hid hndl
          have HE := Lib.hid (fun (p : Tx) (c : Option Nat) (kl : Lit) (y : DataW Unit × List MemPlace) => ent_of (p := p) (c := c) (kl := kl) (y := y) HIF.out.rest.el (fun e he => by rw [HBL2.out, ← HNF.out]; exact HW1.out.il e he))
          have HAS : Hid (∀ e ∈ (lastM d (survM d.waits kc)).lasts, Maps.has q2.Dl (kL e.1) = true) := Lib.hid fun e he => by
            have hl : e.1.length ≤ maxLen := Nat.le_trans (HW1.out.size (HW1.out.ml e he)) (by unfold maxLen; omega)
            have hi := HW1.out.il e he
            exact (HIF.out.rest.el.ya e.1 e.2 _ hl ((getE_mem HW1.out.sl).2 he) (List.getElem?_eq_getElem (by rw [HBL2.out, ← HNF.out]; exact hi))).1
          clear hndl hml5
          go_wp2_with (at_range; refine wpList_range_own _ rfl _ 65 rfl 9 70 lawS Tryz.underlying65 ptrElem wv.heap.size q2.nl q2.Dl rfl HO5.out ?_; intro w6 hrg6 hg6 hs6)
          have HR6 := Lib.hid hrg6
          have HS6 : Hid (Safe (fun k => k < w5.heap.size ∧ k ≠ db) w5 w6) := Lib.hid ⟨hg6.os, hg6.tape, hg6.output, hg6.size, fun k hk => hg6.block k hk.1 (by simp)⟩
          have HB6 := Lib.hid (HB5.out.at_ (hg6.block db HB5.out.lt (by simp)))
          clear hrg6 hg6 hs6 k4
          go_loopg [14, 129] (Maps.size q2.Dl) (fun k s14 s129 wq => ∃ (left : Lit → Bool) (u : Nat), Hid (wq.ranges Tryz.prog 9 ptrElem wv.heap.size w5.heap.size q2.nl q2.Dl left k) ∧ Hid (Blk wq db 69 (crA q2 d wv.heap.size u d.off d.arm d.fail)) ∧ Hid (u = usedL (keptM d.nodes kw) ((lastM d (survM d.waits kc)).lasts.filter fun e => !left (kL e.1))) ∧ Hid (Safe (fun k => k < w5.heap.size ∧ k ≠ db) w5 wq) ∧ Hid (∀ z, left z = true → Maps.has q2.Dl z = true))
          case atStart =>
            refine ⟨Maps.has q2.Dl, 0, HR6, HB6, Lib.hid ?_, HS6, Lib.hid fun z h => h⟩
            rw [List.filter_eq_nil_iff.2 fun e he => by rw [HAS.out e he]; decide]
            rfl
          case round =>
            obtain ⟨left, u, HR, HB, HU, HSQ, HL⟩ := hrel
            clear HR6 HS6 HB6
            go_wp2_with (at_next; refine wpList_next_ranges _ rfl _ rfl 9 lawS ptrElem stV mkP inv_mkS inv_mkP wv.heap.size w5.heap.size q2.nl q2.Dl left gk rfl HR.out ?_ ?_)
            · intro hc0 hl0
              have HUF : Hid (u = usedM (crashM d kc kw)) := Lib.hid (by
                rw [HU.out]
                have h1 : (lastM d (survM d.waits kc)).lasts.filter (fun e => !left (kL e.1)) = (lastM d (survM d.waits kc)).lasts := List.filter_eq_self.2 fun e he => by rw [hl0 _]; rfl
                rw [h1]
                rfl)
              have k7 : wr.cell? ⟨db, 7, none⟩ = some (.bool d.off) := HB.out.cell 7
              have k9 : wr.cell? ⟨db, 9, none⟩ = some (.int .i64 (d.arm : Int)) := HB.out.cell 9
              have k10 : wr.cell? ⟨db, 10, none⟩ = some (.int .i64 (d.fail : Int)) := HB.out.cell 10
              have f7 := HB.out.frozen 7
              have f9 := HB.out.frozen 9
              have f10 := HB.out.frozen 10
              clear hc0 hl0
              go_wp2_with fail
              refine bodyPost_ret (res0 rfl _ _ _) rfl ?_
              have st : ∀ (W : World) (v7 v9 v10 : Value) (k : Nat), k ≠ db → (((W.setCell ⟨db, 7, none⟩ v7).setCell ⟨db, 9, none⟩ v9).setCell ⟨db, 10, none⟩ v10).heap[k]? = W.heap[k]? := fun W v7 v9 v10 k h1 =>
                (Below.heap_setCell _ ⟨db, 10, none⟩ _ k h1).trans ((Below.heap_setCell _ ⟨db, 9, none⟩ _ k h1).trans (Below.heap_setCell _ ⟨db, 7, none⟩ _ k h1))
              have hs5 := HSQ.out.size
              have hb4 := HBE4.out.size
              have hmlt := HO5.out.lt
              refine crash_end HT2.out HIF.out (Nat.le_refl _) (by simp; omega) ⟨HSQ.out.os.trans HGO5.out.1, HSQ.out.tape.trans HGO5.out.2.1, HSQ.out.output.trans HGO5.out.2.2⟩ (fun k h1 h2 => (st _ _ _ _ k h2).trans ((HSQ.out.block k ⟨by omega, h2⟩).trans ((HST5.out k h2).trans (HBE4.out.block k h1)))) (ownsMap_same HO5.out ((st _ _ _ _ _ hmb4).trans (HSQ.out.block _ ⟨hmlt, hmb4⟩))) ?_
              have h1 := ((HB.out.set_ 7 (.bool false)).set_ 9 (.int .i64 0)).set_ 10 (.int .i64 0)
              rw [HUF.out] at h1
              unfold crA at h1 ⊢
              exact h1
            · intro p c kl y1 y2 w1 cnt1 hkey hlk hv hat hrg1 hlt hg1 hs1 hen
              obtain ⟨j, bj, hgj, hbj, rfl, rfl, hpl⟩ := HE.out p c kl (y1, y2) hkey (HL.out _ hlk) hv hat
              have HR1 := Lib.hid hrg1
              have HLT := Lib.hid hlt
              obtain ⟨Aj, cj, hcj, hjl, hjd⟩ := HFC.out j bj hbj
              have hdb5 := HB5.out.lt
              have HB1 := Lib.hid (HB.out.grown hg1 (fun e => by injection e with e; omega))
              have HS1 : Hid (Safe (fun k => k < w5.heap.size ∧ k ≠ db) w5 w1) := Lib.hid (HSQ.out.grown hg1 fun k hk => ⟨Nat.lt_of_lt_of_le hk.1 HSQ.out.size, fun e => by injection e with e; have := hk.1; omega⟩)
              have hcj1 : w1.cell? ⟨bj, 0, none⟩ = some (.slice Aj ((keptM d.nodes kw).getD j nd0).now.length cj) := (World.cell?_of_block (HS1.out.block bj ⟨hjl, hjd⟩)).trans hcj
              have k1 : w1.cell? ⟨db, 1, none⟩ = some (.int .i64 (u : Int)) := HB1.out.cell 1
              have k1d : w1.drew.cell? ⟨db, 1, none⟩ = some (.int .i64 (u : Int)) := k1
              have hcjd : w1.drew.cell? ⟨bj, 0, none⟩ = some (.slice Aj ((keptM d.nodes kw).getD j nd0).now.length cj) := hcj1
              have f1 : w1.frozen? ⟨db, 1, none⟩ = false := HB1.out.frozen 1
              have f1d : w1.drew.frozen? ⟨db, 1, none⟩ = false := f1
              have HSUM : Hid (usedL (keptM d.nodes kw) ((lastM d (survM d.waits kc)).lasts.filter fun e => !(left (kL e.1) && !(kL e.1).sameKey (kL p))) = u + ((keptM d.nodes kw).getD j nd0).now.length) := Lib.hid (by
                rw [HU.out]
                refine sum_step (f := fun q => !left (kL q)) (f' := fun q => !(left (kL q) && !(kL q).sameKey (kL p))) (p := p) (by rw [hlk]; rfl) (fun q' => ?_) HW1.out.sl (getE_some hgj)
                by_cases hqp : q' = p
                · subst hqp
                  have : (kL q').sameKey (kL q') = true := WideAt.sameKey_self (kL_key q')
                  rw [this]
                  simp
                · have : (kL q').sameKey (kL p) = false := by
                    cases hs : (kL q').sameKey (kL p) with
                    | false => rfl
                    | true => exact absurd (kL_inj (WideAt.sameKey_eq hs)) hqp
                  rw [this]
                  simp [hqp])
              have hub : u ≤ 671088640000 := by rw [HU.out]; exact HUB.out _
              have hlb := HNDL.out j
              have HL1 : Hid (∀ z, (left z && !z.sameKey (kL p)) = true → Maps.has q2.Dl z = true) := Lib.hid fun z h => HL.out z (by simp only [Bool.and_eq_true] at h; exact h.1)
              dsimp only [mkP] at hen ⊢
              clear hkey hlk hv hat hrg1 hlt hg1 hs1 hgj hbj hpl hcj HR HB HU HSQ HL k1 hcj1 f1
              obtain ⟨nl, hnl⟩ : ∃ nl, ((keptM d.nodes kw).getD j nd0).now.length = nl := ⟨_, rfl⟩
              rw [hnl] at HSUM hcjd hlb
              clear hnl
              have hwr : IntKind.i64.wrap ((u : Int) + (nl : Int)) = (u : Int) + (nl : Int) := IntWalk.i64_in _ (by omega)
              unfold stV at *
              go_upto_region 29 with fail
              go_region
              all_goals
                go_wp2_with fail
                go_roundg cnt1
                case rel =>
                  refine ⟨_, u + nl, Lib.hid (HR1.out.of_walks ⟨(KeepsWalks.setCell w1 ⟨db, 1, none⟩ (.int .i64 ((u : Int) + (nl : Int)))).size, (KeepsWalks.setCell w1 ⟨db, 1, none⟩ (.int .i64 ((u : Int) + (nl : Int)))).same⟩), Lib.hid ?_, Lib.hid HSUM.out.symm, Lib.hid ((HS1.out.set_ (p := ⟨db, 1, none⟩) (fun h => h.2 rfl) _).drewN 1), HL1⟩
                  have h1 := HB1.out.set_ 1 (.int .i64 ((u + nl : Nat) : Int))
                  have e : ((u : Int) + (nl : Int)) = ((u + nl : Nat) : Int) := by omega
                  rw [e]
                  unfold crA at h1 ⊢
                  exact h1
                case measure => exact HLT.out
/-- Crash, whatever the marks behind the world say -/
theorem crash_walk {z db K : Nat} {w : World} {own : Nat → Nat × Nat} {d : Dk} (h : Disk z w own db d) (hw : Wf d K) (hK : K ≤ 10000) (kc : List Bool) (kw : List Int) (Ac Aw : Option Addr) (cc cw : Nat)
    (hcc : kc.length ≤ cc ∧ cc ≤ maxLen) (hcw : kw.length ≤ cw ∧ cw ≤ maxLen) (hrc : RCo z w own Ac (kc.map .bool)) (hrw : RCo z w own Aw (kw.map (.int .i64))) (hzw : ∀ x ∈ kw, -9223372036854775808 ≤ x ∧ x ≤ 9223372036854775807) :
    Calls Tryz.prog 14 #[ptrV db, .agg #[.slice Ac kc.length cc, .slice Aw kw.length cw]] w (EntPost z w own db (crashM d kc kw)) := by
  obtain ⟨q, h⟩ := h
  have h1 : DSt z w (cutM w own) db d q := h.goes (keep := fun _ => True) ⟨Nat.le_refl _, fun k hk _ => ⟨rfl, cutM_old hk⟩⟩ trivial fun _ _ => trivial
  obtain ⟨q', h2, -, h3⟩ := h1.norm hw (by omega)
  have hr : ∀ {A : Option Addr} {vs : List Value}, RCo z w own A vs → RCo z w (cutM w own) A vs := fun hr i v hv => by
    obtain ⟨b, off, e1, e2, e3, e4⟩ := hr i v hv
    exact ⟨b, off, e1, e2, by rw [cutM_old e2]; exact e3, e4⟩
  refine (crash_walk0 z w (cutM w own) db d q' h2 (fun k hk => by unfold cutM; rw [if_neg (by omega)]) hw hK (by omega) kc kw Ac Aw cc cw hcc hcw (hr hrc) (hr hrw) hzw).mono fun e w' hp => ?_
  obtain ⟨own', h4, h5, h6⟩ := hp
  exact ⟨own', h4, ⟨h5.os, h5.tape, h5.output, h5.size, fun k hk hn => h5.block k hk (by rw [cutM_old hk]; exact hn), fun k hk hn => (h5.mark k hk (by rw [cutM_old hk]; exact hn)).trans (cutM_old hk)⟩, h6⟩
end Go.Proofs.YtbpooaicmjkemaaGreatDoor
