/-
  The walk of the law's does: a deed, and what was handed in is written over. Conditions: the sizes.
-/
import Derived.Test.YtbpooaicmjkemaaGreatDoorSfSyD
import Derived.Test.YtbpooaicmjkemaaGreatDoorSfCr
import Derived.Test.YtbpooaicmjkemaaGreatDoorSfNew
import Derived.Deep.CutBlock
import Derived.Deep.DeepCutAuto
namespace Go.Proofs.YtbpooaicmjkemaaGreatDoor
open Go.RowKit Go.Maps
set_option linter.unusedVariables false
theorem SwOk.mono {d : Dk} {K K' : Nat} (h : SwOk d K) (hk : K ≤ K') : SwOk d K' := ⟨h.arm, h.fail, h.d0, by have := h.d1; omega⟩
theorem SwOk.does {d : Dk} {K : Nat} (h : SwOk d K) {x : Dd} (hx : x.n ≤ 9223372036854775807) : SwOk (doesM d x).1 (K + 1) := by
  have h0 := h.mono (Nat.le_succ K)
  have hs := h.step
  have wr : ∀ (n : Nat) (v : Wr), SwOk (writeM d n v).1 (K + 1) := fun n v => by
    unfold writeM
    split
    · exact hs
    · exact ⟨hs.arm, hs.fail, hs.d0, hs.d1⟩
  unfold doesM
  split
  · unfold createM
    repeat' split
    all_goals first | exact h0 | exact hs | exact ⟨hs.arm, hs.fail, hs.d0, hs.d1⟩
  split
  · unfold appendM
    repeat' split
    all_goals first | exact h0 | exact wr _ _
  split
  · unfold writeAtM
    repeat' split
    all_goals first | exact h0 | exact wr _ _
  split
  · unfold syncM
    repeat' split
    all_goals first | exact h0 | exact hs | exact ⟨hs.arm, hs.fail, hs.d0, hs.d1⟩
  split
  · unfold renameM
    repeat' split
    all_goals first | exact h0 | exact hs | exact ⟨hs.arm, hs.fail, hs.d0, hs.d1⟩
  split
  · unfold unlinkM
    repeat' split
    all_goals first | exact h0 | exact hs | exact ⟨hs.arm, hs.fail, hs.d0, hs.d1⟩
  split
  · unfold syncDirM
    repeat' split
    all_goals first | exact h0 | exact hs | exact ⟨hs.arm, hs.fail, hs.d0, hs.d1⟩
  split
  · unfold failM
    repeat' split
    all_goals first | exact h0 | exact ⟨h0.arm, by show x.n.toNat ≤ _; omega, h0.d0, h0.d1⟩
  split
  · unfold armM
    repeat' split
    all_goals first | exact h0 | exact ⟨by show x.n.toNat ≤ _; omega, h0.fail, h0.d0, h0.d1⟩
  split
  · exact ⟨by show (0 : Nat) ≤ _; omega, by show (0 : Nat) ≤ _; omega, h0.d0, h0.d1⟩
  · exact h0
/-- a disk with what holds of it -/
structure DkI (z : Nat) (w : World) (own : Nat → Nat × Nat) (db : Nat) (d : Dk) (K : Nat) : Prop where
  dk : Disk z w own db d
  wf : Wf d K
  sw : SwOk d K
theorem DkI.does {z db K : Nat} {w w' : World} {own own' : Nat → Nat × Nat} {d : Dk} (h : DkI z w own db d K) {x : Dd} (hx : x.n ≤ 9223372036854775807) (hd : Disk z w' own' db (doesM d x).1) : DkI z w' own' db (doesM d x).1 (K + 1) := ⟨hd, h.wf.does x, h.sw.does hx⟩
theorem DkI.below {z db K : Nat} {w w' : World} {own : Nat → Nat × Nat} {d : Dk} (h : DkI z w own db d K) (hb : Below w.heap.size w w') : DkI z w' (cutM w own) db d K := ⟨h.dk.below hb, h.wf, h.sw⟩
/-! ### the deeds by their numbers -/
section
variable (d : Dk) (p t b : Tx) (n e : Int) (kc : List Bool) (kw : List Int)
theorem does0 : doesM d ⟨0, p, t, b, n, e, kc, kw⟩ = createM d p := rfl
theorem does1 : doesM d ⟨1, p, t, b, n, e, kc, kw⟩ = appendM d p b := rfl
theorem does2 : doesM d ⟨2, p, t, b, n, e, kc, kw⟩ = writeAtM d p n b := rfl
theorem does3 : doesM d ⟨3, p, t, b, n, e, kc, kw⟩ = syncM d p := rfl
theorem does4 : doesM d ⟨4, p, t, b, n, e, kc, kw⟩ = renameM d p t := rfl
theorem does5 : doesM d ⟨5, p, t, b, n, e, kc, kw⟩ = unlinkM d p := rfl
theorem does6 : doesM d ⟨6, p, t, b, n, e, kc, kw⟩ = syncDirM d t := rfl
theorem does7 : doesM d ⟨7, p, t, b, n, e, kc, kw⟩ = failM d n e := rfl
theorem does8 : doesM d ⟨8, p, t, b, n, e, kc, kw⟩ = armM d n := rfl
theorem does9 : doesM d ⟨9, p, t, b, n, e, kc, kw⟩ = (crashM d kc kw, 0) := rfl
end
/-! ### bytes that may be written -/
def WuS (w : World) (A : Option Addr) (n : Nat) : Prop := ∀ g o, A = some ⟨g, o, none⟩ → ∀ i, i < n → (∃ u, w.cell? ⟨g, o + i, none⟩ = some (.int .u8 u)) ∧ w.frozen? ⟨g, o + i, none⟩ = false
theorem WuS.set_ {w : World} {A : Option Addr} {n : Nat} (h : WuS w A n) (p : Addr) (u : Int) : WuS (w.setCell p (.int .u8 u)) A n := fun g o e i hi => by
  obtain ⟨⟨v, h1⟩, h2⟩ := h g o e i hi
  refine ⟨?_, by rw [World.frozen?_setCell]; exact h2⟩
  by_cases he : p = ⟨g, o + i, none⟩
  · subst he
    exact ⟨u, World.cell?_setCell_same' _ _ _ (by rw [h1]; rfl)⟩
  · exact ⟨v, by rw [World.cell?_setCell_other _ _ _ _ he]; exact h1⟩
theorem OwnQ.wus {w : World} {base n c : Nat} {own : Option Nat} {A : Option Addr} {l : List UInt8} (h : OwnQ w base own (.slice A n c) l) : n = l.length ∧ n ≤ c ∧ c ≤ maxLen ∧ WuS w A n ∧ (0 < n → ∃ g o, A = some ⟨g, o, none⟩ ∧ base ≤ g ∧ g < w.heap.size) ∧ RB w w.heap.size A l ∧ (A = none → n = 0) := by
  obtain ⟨A', c', e, h1, h2, h3⟩ := h
  injection e with e1 e2 e3
  subst e1 e2 e3
  refine ⟨rfl, h1, h2, fun g o e i hi => ?_, fun h0 => ?_, ?_, fun e => ?_⟩
  · rcases h3 with ⟨h3, -⟩ | ⟨g', o', -, e', hb, hl, hc, hf⟩
    · omega
    · rw [e] at e'; cases e'
      exact ⟨⟨_, hc i hi⟩, (hf i (by omega)).2⟩
  · rcases h3 with ⟨h3, -⟩ | ⟨g', o', -, e', hb, hl, -⟩
    · omega
    · exact ⟨g', o', e', hb, hl⟩
  · rcases h3 with ⟨h3, -⟩ | ⟨g', o', -, e', hb, hl, hc, -⟩
    · exact .inl (List.eq_nil_of_length_eq_zero (by omega))
    · exact .inr ⟨g', o', e', hl, hc⟩
  · rcases h3 with ⟨h3, -⟩ | ⟨g', o', -, e', -⟩
    · omega
    · rw [e] at e'; cases e'
theorem WuS.turn {z : Nat} {w w' : World} {own own' : Nat → Nat × Nat} {A : Option Addr} {n : Nat} (h : WuS w A n) (ht : Turn (isD z) w w' own own') (hg : ∀ g o, A = some ⟨g, o, none⟩ → 0 < n → g < w.heap.size ∧ ¬ isD z (own g)) : WuS w' A n := fun g o e i hi => by
  obtain ⟨h1, h2⟩ := hg g o e (by omega)
  have hb := ht.block g h1 h2
  obtain ⟨⟨u, h3⟩, h4⟩ := h g o e i hi
  refine ⟨⟨u, (World.cell?_of_block hb).trans h3⟩, ?_⟩
  rw [← h4]
  unfold World.frozen?
  rw [hb]
/-- a store into nobody's block -/
theorem Disk.store {z db : Nat} {w : World} {own : Nat → Nat × Nat} {d : Dk} (h : Disk z w own db d) (a : Addr) (u : Value) (ha : own a.block = (0, 0)) : Disk z (w.setCell a u) own db d :=
  h.goes (keep := fun t => t ≠ (0, 0)) ⟨by simp, fun k hk hn => ⟨Below.heap_setCell w a u k (fun e => hn (by rw [e]; exact ha)), rfl⟩⟩ (by unfold frz; simp) fun t ht e => by rw [e] at ht; unfold isD at ht; simp at ht
theorem RT.rco {z B : Nat} {w w0 : World} {own : Nat → Nat × Nat} {A : Option Addr} {L : List Bool} (h : RT w B A L) (hB : B ≤ w.heap.size) (hm : ∀ k, k < B → ¬ isD z (own k)) : RCo z w own A (L.map .bool) := fun i v hv => by
  rw [List.getElem?_map] at hv
  obtain ⟨x, hx, rfl⟩ := Option.map_eq_some_iff.1 hv
  rcases h with rfl | ⟨b, off, rfl, hb, hc⟩
  · simp at hx
  · exact ⟨b, off, rfl, by omega, hm b hb, hc i x hx⟩
theorem RI.rco {z B : Nat} {w : World} {own : Nat → Nat × Nat} {A : Option Addr} {L : List Int} (h : RI w B A L) (hB : B ≤ w.heap.size) (hm : ∀ k, k < B → ¬ isD z (own k)) : RCo z w own A (L.map (.int .i64)) := fun i v hv => by
  rw [List.getElem?_map] at hv
  obtain ⟨x, hx, rfl⟩ := Option.map_eq_some_iff.1 hv
  rcases h with rfl | ⟨b, off, rfl, hb, hc⟩
  · simp at hx
  · exact ⟨b, off, rfl, by omega, hm b hb, hc i x hx⟩
/-- a deed that changes the switches alone -/
theorem sw_op {z db : Nat} {w : World} {own : Nat → Nat × Nat} {d : Dk} {q : DParts} {r : Dk × Int} {f : FuncId} {args : Array Value} (h : DSt z w own db d q) (hc : Calls Tryz.prog f args w (SwPost z w own db q r)) : Calls Tryz.prog f args w (OpPost z w own db r) :=
  hc.mono fun e w' hp => OpPost.sw h.mark (Below.refl _ _) hp
/-- what the switch leaves -/
def SwD (z : Nat) (w1 : World) (own1 : Nat → Nat × Nat) (db : Nat) (d' : Dk) (wx : World) : Prop := ∃ own2, Disk z wx own2 db d' ∧ Turn (isD z) w1 wx own1 own2
set_option maxRecDepth 100000 in
set_option maxHeartbeats 4000000 in
theorem does_walk {z db K B : Nat} {w : World} {own : Nat → Nat × Nat} {d : Dk} (h : DkI z w own db d K) (hK : K ≤ 8000) (x : Dd) (m : DdV) (hx : DdR w B x m) (hB : B ≤ w.heap.size) (hz : ∀ k, k < B → ¬ isD z (own k)) :
    Calls Tryz.prog 18 #[ptrV db, .agg (ddC x m).toArray] w (OpPost z w own db (doesM d x)) := by
  obtain ⟨kind, path, tt, b, n, e, kc, kw⟩ := x
  obtain ⟨A, c, Ac, cc, Aw, cw⟩ := m
  obtain ⟨hrb, hnb, hlb, hmb, hlp, hlt, hn0, hkp⟩ := hx
  obtain ⟨hrc, hrw, hlc, hmc, hlw, hmw, hzw⟩ := hkp
  simp only [] at hrb hnb hlb hmb hlp hlt hn0 hrc hrw hlc hmc hlw hmw hzw
  unfold ddC
  simp only []
  have HBx := Lib.hid ((Below.refl w.heap.size w).alloc (Nat.le_refl _) (.cells #[.int .i64 kind, .string (bs path), .string (bs tt), .slice A b.length c, .int .i64 n, .int .i64 e, .slice Ac kc.length cc, .slice Aw kw.length cw] 38))
  have HBy := Lib.hid (HBx.out.alloc HBx.out.size (.cells #[] 5))
  have HX0 := Lib.hid ((Blk.new w 38 #[.int .i64 kind, .string (bs path), .string (bs tt), .slice A b.length c, .int .i64 n, .int .i64 e, .slice Ac kc.length cc, .slice Aw kw.length cw]).alloc (.cells #[] 5))
  have x3 := HX0.out.cell 3
  have HI := Lib.hid h
  have HRB := Lib.hid (hrb.keep (B' := (w.alloc (.cells #[.int .i64 kind, .string (bs path), .string (bs tt), .slice A b.length c, .int .i64 n, .int .i64 e, .slice Ac kc.length cc, .slice Aw kw.length cw] 38)).heap.size) (by simp; omega) (fun _ hp => (HBy.out.mono hB).cell hp))
  have HLB : Hid (b.length ≤ c ∧ c ≤ 140737488351232) := Lib.hid ⟨hlb, hmb⟩
  have HRC := Lib.hid hrc
  have HRW := Lib.hid hrw
  have HZ := Lib.hid hz
  have HS := Lib.hid (⟨hlp, hlt, hn0⟩ : path.length ≤ maxLen ∧ tt.length ≤ maxLen ∧ (-9223372036854775808 ≤ n ∧ n ≤ 9223372036854775807))
  have HC := Lib.hid (⟨⟨hlc, hmc⟩, ⟨hlw, hmw⟩, hzw⟩ : (kc.length ≤ cc ∧ cc ≤ maxLen) ∧ (kw.length ≤ cw ∧ cw ≤ maxLen) ∧ ∀ z ∈ kw, -9223372036854775808 ≤ z ∧ z ≤ 9223372036854775807)
  have HBB := Lib.hid hB
  obtain ⟨nb, hbn⟩ : ∃ nb, b.length = nb := ⟨_, rfl⟩
  have HNB := Lib.hid hbn
  rw [hbn] at x3 HBx HBy HX0 HRB
  rw [hbn]
  unfold ptrV
  clear h hrb hnb hlb hmb hlp hlt hn0 hrc hrw hlc hmc hlw hmw hzw hz hbn hB
  go_enter Tryz.func18, Tryz.ntmps18
  go_upto_region 2 with (at_builtin; refine wpList_appQ _ u8Z (.tmp 8) (.tmp 10) rfl rfl w.heap.size rfl (OwnQ.nil _ _ _) nb c rfl HNB.out.symm HRB.out (by have := HLB.out; simp; omega) HBy.out.size ?_; intro v1 g1 w1 hO1 hG1 ho1; rw [List.nil_append] at hO1; have hb1 := HBy.out.grown hG1 HBy.out.size (fun k h => by cases h); have HB1 := Lib.hid hb1; have HX1 := Lib.hid (HX0.out.grown hG1 (by simp)); have HV1 := Lib.hid hO1; obtain ⟨A1, c1, rfl, -⟩ := hO1; have x0 := HX1.out.cell 0; clear hG1 ho1 hb1)
  rw [HNB.out] at HV1
  rw [HNB.out]
  have HI1 := Lib.hid (HI.out.below HB1.out)
  obtain ⟨own1, ho1⟩ : ∃ own1, cutM w own = own1 := ⟨_, rfl⟩
  have HO1 := Lib.hid ho1
  rw [ho1] at HI1
  have HNew : Hid (∀ k, w.heap.size ≤ k → own1 k = (0, 0)) := Lib.hid fun k hk => by rw [← ho1]; unfold cutM; rw [if_neg (by omega)]
  have HZ1 : Hid (∀ k, k < B → ¬ isD z (own1 k)) := Lib.hid fun k hk => by rw [← ho1, cutM_old (Nat.lt_of_lt_of_le hk HBB.out)]; exact HZ.out k hk
  have HRC1 := Lib.hid (RT.rco (w0 := w) (HRC.out.below (HB1.out.mono HBB.out)) (Nat.le_trans HBB.out HB1.out.size) HZ1.out)
  have HRW1 := Lib.hid (RI.rco (HRW.out.below (HB1.out.mono HBB.out)) (Nat.le_trans HBB.out HB1.out.size) HZ1.out)
  obtain ⟨qq, HDS⟩ : ∃ q, Hid (DSt z w1 own1 db d q) := by obtain ⟨q, hq⟩ := HI1.out.dk; exact ⟨q, Lib.hid hq⟩
  clear x0 x3 HX0 HBx HBy HRB HRC HRW ho1
  have x0 := HX1.out.cell 0
  have x1 := HX1.out.cell 1
  have x2 := HX1.out.cell 2
  have x4 := HX1.out.cell 4
  have x5 := HX1.out.cell 5
  have x6 := HX1.out.cell 6
  have x7 := HX1.out.cell 7
  have HWU := Lib.hid HV1.out.wus
  go_upto_block 0 with fail
  go_cut [6] from 14 to 81 (fun s6 wx => s6 = .int .i64 (doesM d ⟨kind, path, tt, b, n, e, kc, kw⟩).2 ∧ Hid (SwD z w1 own1 db (doesM d ⟨kind, path, tt, b, n, e, kc, kw⟩).1 wx))
  case first =>
    by_cases hk0 : kind = 0
    · subst hk0
      have KO : Hid (Calls Tryz.prog 8 #[.pointer (some ⟨db, 0, none⟩), .string (bs path)] w1 (OpPost z w1 own1 db (createM d path))) := Lib.hid (create_walk z w1 own1 db d qq HDS.out HI1.out.wf HI1.out.sw (by omega) path HS.out.1)
      go_wp2_with fail
      refine KO.out.mono ?_
      rintro e' w2 hp
      have HP := Lib.hid hp
      obtain ⟨-, -, rfl, -⟩ := hp
      generalize hg : createM d path = rr at *
      have HG := Lib.hid hg
      clear hg
      go_wp2_with fail
      go_meet
      case rel =>
        obtain ⟨own2, h1, -, h2⟩ := HP.out
        rw [does0, HG.out]
        exact ⟨rfl, Lib.hid ⟨own2, h1, h2⟩⟩
    by_cases hk1 : kind = 1
    · subst hk1
      have KO : Hid (Calls Tryz.prog 9 #[.pointer (some ⟨db, 0, none⟩), .string (bs path), .slice A1 nb c1] w1 (OpPost z w1 own1 db (appendM d path b))) := Lib.hid (append_walk z w1 own1 db d qq HDS.out HI1.out.wf HI1.out.sw (by omega) path HS.out.1 b A1 nb c1 HNB.out HWU.out.2.2.2.2.2.1 HWU.out.2.2.2.2.2.2 HWU.out.2.1 HWU.out.2.2.1)
      go_wp2_with fail
      refine KO.out.mono ?_
      rintro e' w2 hp
      have HP := Lib.hid hp
      obtain ⟨-, -, rfl, -⟩ := hp
      generalize hg : appendM d path b = rr at *
      have HG := Lib.hid hg
      clear hg
      go_wp2_with fail
      go_meet
      case rel =>
        obtain ⟨own2, h1, -, h2⟩ := HP.out
        rw [does1, HG.out]
        exact ⟨rfl, Lib.hid ⟨own2, h1, h2⟩⟩
    by_cases hk2 : kind = 2
    · subst hk2
      have KO : Hid (Calls Tryz.prog 23 #[.pointer (some ⟨db, 0, none⟩), .string (bs path), .int .i64 n, .slice A1 nb c1] w1 (OpPost z w1 own1 db (writeAtM d path n b))) := Lib.hid (writeAt_walk z w1 own1 db d qq HDS.out HI1.out.wf HI1.out.sw (by omega) path HS.out.1 n HS.out.2.2 b A1 nb c1 HNB.out HWU.out.2.2.2.2.2.1 HWU.out.2.2.2.2.2.2 HWU.out.2.1 HWU.out.2.2.1)
      go_wp2_with fail
      refine KO.out.mono ?_
      rintro e' w2 hp
      have HP := Lib.hid hp
      obtain ⟨-, -, rfl, -⟩ := hp
      generalize hg : writeAtM d path n b = rr at *
      have HG := Lib.hid hg
      clear hg
      go_wp2_with fail
      go_meet
      case rel =>
        obtain ⟨own2, h1, -, h2⟩ := HP.out
        rw [does2, HG.out]
        exact ⟨rfl, Lib.hid ⟨own2, h1, h2⟩⟩
    by_cases hk3 : kind = 3
    · subst hk3
      have KO : Hid (Calls Tryz.prog 10 #[.pointer (some ⟨db, 0, none⟩), .string (bs path)] w1 (OpPost z w1 own1 db (syncM d path))) := Lib.hid (sync_walk z w1 own1 db d qq HDS.out HI1.out.wf HI1.out.sw (by omega) path HS.out.1)
      go_wp2_with fail
      refine KO.out.mono ?_
      rintro e' w2 hp
      have HP := Lib.hid hp
      obtain ⟨-, -, rfl, -⟩ := hp
      generalize hg : syncM d path = rr at *
      have HG := Lib.hid hg
      clear hg
      go_wp2_with fail
      go_meet
      case rel =>
        obtain ⟨own2, h1, -, h2⟩ := HP.out
        rw [does3, HG.out]
        exact ⟨rfl, Lib.hid ⟨own2, h1, h2⟩⟩
    by_cases hk4 : kind = 4
    · subst hk4
      have KO : Hid (Calls Tryz.prog 13 #[.pointer (some ⟨db, 0, none⟩), .string (bs path), .string (bs tt)] w1 (OpPost z w1 own1 db (renameM d path tt))) := Lib.hid (rename_walk z w1 own1 db d qq HDS.out HI1.out.wf HI1.out.sw (by omega) path tt HS.out.1 HS.out.2.1)
      go_wp2_with fail
      refine KO.out.mono ?_
      rintro e' w2 hp
      have HP := Lib.hid hp
      obtain ⟨-, -, rfl, -⟩ := hp
      generalize hg : renameM d path tt = rr at *
      have HG := Lib.hid hg
      clear hg
      go_wp2_with fail
      go_meet
      case rel =>
        obtain ⟨own2, h1, -, h2⟩ := HP.out
        rw [does4, HG.out]
        exact ⟨rfl, Lib.hid ⟨own2, h1, h2⟩⟩
    by_cases hk5 : kind = 5
    · subst hk5
      have KO : Hid (Calls Tryz.prog 58 #[.pointer (some ⟨db, 0, none⟩), .string (bs path)] w1 (OpPost z w1 own1 db (unlinkM d path))) := Lib.hid (unlink_walk z w1 own1 db d qq HDS.out HI1.out.wf HI1.out.sw (by omega) path HS.out.1)
      go_wp2_with fail
      refine KO.out.mono ?_
      rintro e' w2 hp
      have HP := Lib.hid hp
      obtain ⟨-, -, rfl, -⟩ := hp
      generalize hg : unlinkM d path = rr at *
      have HG := Lib.hid hg
      clear hg
      go_wp2_with fail
      go_meet
      case rel =>
        obtain ⟨own2, h1, -, h2⟩ := HP.out
        rw [does5, HG.out]
        exact ⟨rfl, Lib.hid ⟨own2, h1, h2⟩⟩
    by_cases hk6 : kind = 6
    · subst hk6
      have KO : Hid (Calls Tryz.prog 11 #[.pointer (some ⟨db, 0, none⟩), .string (bs tt)] w1 (OpPost z w1 own1 db (syncDirM d tt))) := Lib.hid (syncDir_walk z w1 own1 db d qq HDS.out HI1.out.wf HI1.out.sw (by omega) tt HS.out.2.1)
      go_wp2_with fail
      refine KO.out.mono ?_
      rintro e' w2 hp
      have HP := Lib.hid hp
      obtain ⟨-, -, rfl, -⟩ := hp
      generalize hg : syncDirM d tt = rr at *
      have HG := Lib.hid hg
      clear hg
      go_wp2_with fail
      go_meet
      case rel =>
        obtain ⟨own2, h1, -, h2⟩ := HP.out
        rw [does6, HG.out]
        exact ⟨rfl, Lib.hid ⟨own2, h1, h2⟩⟩
    by_cases hk7 : kind = 7
    · subst hk7
      have KO : Hid (Calls Tryz.prog 59 #[.pointer (some ⟨db, 0, none⟩), .int .i64 n, .int .i64 e] w1 (OpPost z w1 own1 db (failM d n e))) := Lib.hid (sw_op HDS.out (fail_walk HDS.out n e HS.out.2.2.2))
      go_wp2_with fail
      refine KO.out.mono ?_
      rintro e' w2 hp
      have HP := Lib.hid hp
      obtain ⟨-, -, rfl, -⟩ := hp
      generalize hg : failM d n e = rr at *
      have HG := Lib.hid hg
      clear hg
      go_wp2_with fail
      go_meet
      case rel =>
        obtain ⟨own2, h1, -, h2⟩ := HP.out
        rw [does7, HG.out]
        exact ⟨rfl, Lib.hid ⟨own2, h1, h2⟩⟩
    by_cases hk8 : kind = 8
    · subst hk8
      have KO : Hid (Calls Tryz.prog 60 #[.pointer (some ⟨db, 0, none⟩), .int .i64 n] w1 (OpPost z w1 own1 db (armM d n))) := Lib.hid (sw_op HDS.out (arm_walk HDS.out n HS.out.2.2.2))
      go_wp2_with fail
      refine KO.out.mono ?_
      rintro e' w2 hp
      have HP := Lib.hid hp
      obtain ⟨-, -, rfl, -⟩ := hp
      generalize hg : armM d n = rr at *
      have HG := Lib.hid hg
      clear hg
      go_wp2_with fail
      go_meet
      case rel =>
        obtain ⟨own2, h1, -, h2⟩ := HP.out
        rw [does8, HG.out]
        exact ⟨rfl, Lib.hid ⟨own2, h1, h2⟩⟩
    by_cases hk9 : kind = 9
    · subst hk9
      have KO : Hid (Calls Tryz.prog 14 #[.pointer (some ⟨db, 0, none⟩), .agg #[.slice Ac kc.length cc, .slice Aw kw.length cw]] w1 (EntPost z w1 own1 db (crashM d kc kw))) := Lib.hid (crash_walk ⟨qq, HDS.out⟩ HI1.out.wf (by omega) kc kw Ac Aw cc cw HC.out.1 HC.out.2.1 HRC1.out HRW1.out HC.out.2.2)
      go_wp2_with fail
      refine KO.out.mono ?_
      rintro e' w2 hp
      have HP := Lib.hid hp
      obtain ⟨-, -, -, rfl⟩ := hp
      go_wp2_with fail
      go_meet
      case rel =>
        obtain ⟨own2, h1, h2, -⟩ := HP.out
        rw [does9]
        exact ⟨rfl, Lib.hid ⟨own2, h1, h2⟩⟩
    have HE : Hid (doesM d ⟨kind, path, tt, b, n, e, kc, kw⟩ = (d, 0)) := Lib.hid (by unfold doesM; rw [if_neg hk0, if_neg hk1, if_neg hk2, if_neg hk3, if_neg hk4, if_neg hk5, if_neg hk6, if_neg hk7, if_neg hk8, if_neg hk9])
    go_wp2_with fail
    go_meet
    case rel =>
      rw [HE.out]
      exact ⟨rfl, Lib.hid ⟨own1, HI1.out.dk, Turn.refl _ _ _⟩⟩
  case rest =>
    obtain ⟨rfl, HSD⟩ := hcut
    obtain ⟨own2, h1, h2⟩ := HSD.out
    have HT0 : Hid (Turn (isD z) w wc own own2) := Lib.hid ((Turn.of_below HB1.out fun k hk => by rw [← HO1.out]; exact cutM_old hk).trans h2)
    have HG : Hid (∀ g o, A1 = some ⟨g, o, none⟩ → 0 < nb → own2 g = (0, 0) ∧ w.heap.size ≤ g ∧ g < w1.heap.size) := Lib.hid fun g o e h0 => by
      obtain ⟨g', o', e2, h3, h4⟩ := HWU.out.2.2.2.2.1 h0
      rw [e] at e2
      cases e2
      have h5 := HNew.out g h3
      exact ⟨(h2.mark g h4 (by rw [h5]; unfold isD; simp)).trans h5, h3, h4⟩
    have HW : Hid (WuS wc A1 nb) := Lib.hid (HWU.out.2.2.2.1.turn h2 fun g o e h0 => ⟨(HG.out g o e h0).2.2, by rw [HNew.out g (HG.out g o e h0).2.1]; unfold isD; simp⟩)
    have HGe : Hid (0 < nb → ∃ g o, A1 = some ⟨g, o, none⟩) := Lib.hid fun h0 => by
      obtain ⟨g, o, e, -⟩ := HWU.out.2.2.2.2.1 h0
      exact ⟨g, o, e⟩
    have HD := Lib.hid h1
    have HC1 : Hid (nb ≤ c1 ∧ c1 ≤ maxLen) := Lib.hid ⟨HWU.out.2.1, HWU.out.2.2.1⟩
    have hnb64 : (nb : Int) ≤ 9223372036854775807 := by have h1 := HC1.out.1; have h2 := HC1.out.2; unfold maxLen at h2; omega
    generalize doesM d ⟨kind, path, tt, b, n, e, kc, kw⟩ = rr at *
    clear HSD h1 h2 HI HI1 HDS HV1 HWU HX1 HRC1 HRW1 HNew HZ1 x0 x1 x2 x4 x5 x6 x7 HO1 HB1 HC HS HZ HLB
    go_wp2_with fail
    go_loopg [7] nb (fun k s7 wr => ∃ j : Nat, s7 = .int .i64 (j : Int) ∧ j + k = nb ∧ Hid (WuS wr A1 nb) ∧ Hid (Disk z wr own2 db rr.1) ∧ Hid (Turn (isD z) w wr own own2))
    case atStart => exact ⟨0, rfl, by omega, HW, HD, HT0⟩
    case round =>
      obtain ⟨j, rfl, hj, HWr, HDr, HTr⟩ := hrel
      by_cases hlt : j < nb
      · have hj1 : (j : Int) < (nb : Int) := by omega
        have hj2 : (0 : Int) ≤ (j : Int) := by omega
        obtain ⟨g, o, rfl⟩ := HGe.out (by omega)
        obtain ⟨⟨u, hu⟩, hfz⟩ := HWr.out g o rfl j hlt
        obtain ⟨g1', g2', -⟩ := HG.out g o rfl (by omega)
        have HWs := Lib.hid (HWr.out.set_ ⟨g, o + j, none⟩ 77)
        have HDs := Lib.hid (HDr.out.store ⟨g, o + j, none⟩ (.int .u8 77) g1')
        have HTs : Hid (Turn (isD z) w (wr.setCell ⟨g, o + j, none⟩ (.int .u8 77)) own own2) := Lib.hid ⟨HTr.out.os, HTr.out.tape, HTr.out.output, by simpa using HTr.out.size, fun k hk hn => (Below.heap_setCell wr ⟨g, o + j, none⟩ _ k (by show k ≠ g; omega)).trans (HTr.out.block k hk hn), HTr.out.mark⟩
        have HJ := Lib.hid hj
        clear hj HWr HDr HTr g1' g2' HW HD HT0
        go_wp2_with fail
        go_roundg (gk - 1)
        case rel => exact ⟨j + 1, by go_num, by have := HJ.out; omega, HWs, HDs, HTs⟩
        case measure => have := HJ.out; omega
      · have hj1 : ¬ (j : Int) < (nb : Int) := by omega
        clear hj
        go_wp2_with fail
        go_ret
        exact ⟨own2, HDr.out, rfl, HTr.out⟩
end Go.Proofs.YtbpooaicmjkemaaGreatDoor
