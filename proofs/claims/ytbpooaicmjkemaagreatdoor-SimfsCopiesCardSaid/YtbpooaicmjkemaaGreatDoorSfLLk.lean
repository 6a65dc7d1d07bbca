/-
  The walk of the laws' looks: a disk shows what the document's shows. Conditions: the lengths.
-/
import Derived.Test.YtbpooaicmjkemaaGreatDoorRun20
namespace Go.Proofs.YtbpooaicmjkemaaGreatDoor
open Go.RowKit Go.Maps
set_option linter.unusedVariables false
section
variable {z db K zr rb : Nat} {w : World} {own : Nat → Nat × Nat} {d : Dk}
theorem used_op (h : DkI z w own db d K) : Calls Tryz.prog 63 #[ptrV db] w fun e w' => e = .returned (.int .i64 (if d.off = true then 0 else (usedM d : Int))) ∧ w' = w := by
  obtain ⟨q, hq⟩ := h.dk
  exact used_walk hq
theorem count_op (h : DkI z w own db d K) : Calls Tryz.prog 65 #[ptrV db] w fun e w' => e = .returned (.int .i64 d.done) ∧ w' = w := by
  obtain ⟨q, hq⟩ := h.dk
  exact count_walk hq
theorem off_op (h : DkI z w own db d K) : Calls Tryz.prog 67 #[ptrV db] w fun e w' => e = .returned (.bool d.off) ∧ w' = w := by
  obtain ⟨q, hq⟩ := h.dk
  exact off_walk hq
theorem list_op (h : DkI z w own db d K) (hK : K ≤ 8000) (dir : Tx) (hp : dir.length ≤ maxLen) : Calls Tryz.prog 69 #[ptrV db, .string (bs dir)] w (ListPost w (lsM d dir) (lsE d dir)) := by
  obtain ⟨q, hq⟩ := h.dk
  exact list_walk hq h.wf (by omega) dir hp
theorem wait_op (h : DkI z w own db d K) (hK : K ≤ 8000) : Calls Tryz.prog 72 #[ptrV db] w (WtPost w d.waits (tellM d)) := by
  obtain ⟨q, hq⟩ := h.dk
  exact wait_walk hq h.wf (by omega)
theorem rUsed_op (h : RDkI z w own db d K) (hK : K ≤ 8000) : Calls Tryz.prog 64 #[ptrV db] w fun e w' => e = .returned (.int .i64 (if d.off = true then 0 else (usedM d : Int))) ∧ Below w.heap.size w w' := by
  obtain ⟨q, hq⟩ := h.dk
  have h1 := h.wf.used
  have h2 := h.wf.cpn
  have h3 := h.wf.nk
  exact rUsed_walk hq h.wf.iln (by omega) (by
    have : K * 67108864 ≤ 8000 * 67108864 := Nat.mul_le_mul_right _ hK
    omega)
theorem rcount_op (h : RDkI z w own db d K) : Calls Tryz.prog 66 #[ptrV db] w fun e w' => e = .returned (.int .i64 d.done) ∧ w' = w := by
  obtain ⟨q, hq⟩ := h.dk
  exact rcount_walk hq
theorem roff_op (h : RDkI z w own db d K) : Calls Tryz.prog 68 #[ptrV db] w fun e w' => e = .returned (.bool d.off) ∧ w' = w := by
  obtain ⟨q, hq⟩ := h.dk
  exact roff_walk hq
theorem rlist_op (h : RDkI z w own db d K) (hK : K ≤ 8000) (dir : Tx) : Calls Tryz.prog 70 #[ptrV db, .string (bs dir)] w (ListPost w (lsM d dir) (lsE d dir)) := by
  obtain ⟨q, hq⟩ := h.dk
  have h2 := h.wf.cpn
  have h3 := h.wf.nk
  exact rList_walk hq (by have := h.wf.dl; omega) (by omega) (fun e he => Nat.le_trans (h.wf.size (h.wf.mn e he)) (by unfold maxLen; omega)) dir
theorem rdirs_op (h : RDkI z w own db d K) : Calls Tryz.prog 61 #[ptrV db] w fun e w' => Below w.heap.size w w' ∧ ∃ g v, e = .returned v ∧ OwnX 1 w' g v (d.dirs.map stV) ∧ (∀ k, g = some k → w.heap.size ≤ k) := by
  obtain ⟨q, hq⟩ := h.dk
  exact rDirs_walk hq (by have := h.wf.dl; omega)
/-- names that are listed are short -/
theorem ls_short (h : RDkI z w own db d K) {dir x : Tx} (hx : x ∈ lsM d dir) : x.length ≤ 65 := by
  unfold lsM at hx
  split at hx
  · unfold listM at hx
    obtain ⟨e, he, rfl⟩ := List.mem_map.1 hx
    have h1 := h.wf.size (h.wf.mn e (List.mem_filter.1 he).1)
    have := nameOf_le e.1
    omega
  · cases hx
theorem ls_count (h : RDkI z w own db d K) (dir : Tx) : (lsM d dir).length ≤ K := by
  unfold lsM
  split
  · unfold listM
    rw [List.length_map]
    refine Nat.le_trans (List.length_filter_le _ _) ?_
    have := h.wf.cpn; have := h.wf.nk; omega
  · simp
set_option maxRecDepth 100000 in
set_option maxHeartbeats 8000000 in
theorem looks_walk (hd : DkI z w own db d K) (hr : RDkI zr w own rb d K) (hK : K ≤ 8000) (h0 : 0 < d.dirs.length) (p : Tx) (hp : p.length ≤ maxLen) :
    Calls Tryz.prog 19 #[ptrV db, ptrV rb, .string (bs p)] w fun e w' => e = .returned (.bool true) ∧ Below w.heap.size w w' := by
  have HD : Hid (∀ W, Below w.heap.size w W → DkI z W own db d K) := Lib.hid fun W hb => hd.same hb
  have HR : Hid (∀ W, Below w.heap.size w W → RDkI zr W own rb d K) := Lib.hid fun W hb => hr.below hb
  have HP := Lib.hid hp
  have H0 := Lib.hid h0
  have HK := Lib.hid hK
  have HDN : Hid (∀ x ∈ d.dirs, x.length ≤ 32) := Lib.hid fun x hx => (name_size (hd.wf.dn x hx)).2
  have hdl := hd.wf.dl
  have KA := Lib.hid (rdirs_op hr)
  unfold ptrV at KA ⊢
  clear hd hr hp h0 hK
  go_enter Tryz.func19, Tryz.ntmps19
  go_wp2_with fail
  refine KA.out.mono ?_
  rintro e w1 ⟨hb1, g1, v1, rfl, hX1, hg1⟩
  obtain ⟨A1, n1, c1, rfl, -⟩ := hX1.sl
  obtain ⟨hn1, hc1, hm1, hr1⟩ := hX1.rsx
  have HB1 := Lib.hid hb1
  have HR1 := Lib.hid hr1
  have HN1 := Lib.hid hn1
  have HA1 : Hid (∀ b off, A1 = some ⟨b, off, none⟩ → d.dirs ≠ [] → b < w1.heap.size) := Lib.hid fun b off e hn => by
    rcases hr1 with h | ⟨b', off', e', h, -⟩
    · exact absurd h hn
    · rw [e] at e'; cases e'; exact h
  have hn16 : n1 ≤ 16 := by omega
  clear hb1 hX1 hg1 hc1 hm1 hr1 hn1 KA
  have KB := Lib.hid (dirs_op (HD.out w1 HB1.out) H0.out)
  unfold ptrV at KB
  go_wp2_with fail
  refine KB.out.mono ?_
  rintro e w2 ⟨hb2, g2, v2, rfl, hX2, hg2⟩
  obtain ⟨A2, n2, c2, rfl, -⟩ := hX2.sl
  have HB2 := Lib.hid (HB1.out.trans (hb2.mono HB1.out.size))
  have HS2 := Lib.hid hb2.size
  have hr12 := HR1.out.below hb2
  have hne : ∀ b off, A1 = some ⟨b, off, none⟩ → d.dirs ≠ [] → g2 ≠ some b := fun b off e hn e2 => by
    have := HA1.out b off e hn
    have := hg2 b e2
    omega
  have KC := Lib.hid (same_walk w2 g2 A2 n2 c2 A1 n1 c1 d.dirs hX2 hr12 HN1.out hne)
  have HG2 := Lib.hid hg2
  have HR2 : Hid (∀ w', w2.grownBy w' g2 → RSx w' A1 d.dirs) := Lib.hid fun w' hg => hr12.grown hg hne
  clear hb2 hX2 hg2 hr12 hne KB
  go_wp2_with fail
  refine KC.out.mono ?_
  rintro e w3 ⟨rfl, hg3⟩
  have HB3 := Lib.hid (belowX HB2.out hg3 (fun k e => Nat.le_trans HB1.out.size (HG2.out k e)) HB2.out.size)
  have HR3 := Lib.hid (HR2.out w3 hg3)
  have HS3 := Lib.hid (Nat.le_trans HS2.out hg3.size)
  clear hg3 KC HR2
  have K1 := Lib.hid (used_op (HD.out w3 HB3.out))
  obtain ⟨U, hU⟩ : ∃ U : Int, (if d.off = true then 0 else (usedM d : Int)) = U := ⟨_, rfl⟩
  rw [hU] at K1
  unfold ptrV at K1
  go_wp2_with fail
  refine K1.out.mono ?_
  rintro e w4 ⟨rfl, rfl⟩
  have K2 := Lib.hid (rUsed_op (HR.out _ HB3.out) HK.out)
  rw [hU] at K2
  unfold ptrV at K2
  clear hU K1
  go_wp2_with fail
  refine K2.out.mono ?_
  rintro e w5 ⟨rfl, hb5⟩
  have HB5 := Lib.hid (HB3.out.trans (hb5.mono HB3.out.size))
  have HR5 := Lib.hid (HR3.out.below hb5)
  have HS5 := Lib.hid (Nat.le_trans HS3.out hb5.size)
  clear hb5 K2 HR3
  have K3 := Lib.hid (count_op (HD.out w5 HB5.out))
  unfold ptrV at K3
  go_wp2_with fail
  refine K3.out.mono ?_
  rintro e w6 ⟨rfl, rfl⟩
  have K4 := Lib.hid (rcount_op (HR.out _ HB5.out))
  unfold ptrV at K4
  clear K3
  go_wp2_with fail
  refine K4.out.mono ?_
  rintro e w7 ⟨rfl, rfl⟩
  have K5 := Lib.hid (off_op (HD.out _ HB5.out))
  unfold ptrV at K5
  clear K4
  go_wp2_with fail
  refine K5.out.mono ?_
  rintro e w8 ⟨rfl, rfl⟩
  have K6 := Lib.hid (roff_op (HR.out _ HB5.out))
  unfold ptrV at K6
  clear K5
  go_wp2_with fail
  refine K6.out.mono ?_
  rintro e w9 ⟨rfl, rfl⟩
  clear K6
  go_upto_region 6 with fail
  go_loopg [9, 10, 11, 12, 13, 14, 15, 16] n1 (fun k s9 s10 s11 s12 s13 s14 s15 s16 wr => ∃ i : Nat, s9 = .int .i64 (i : Int) ∧ i + k = n1 ∧ Hid (Below w.heap.size w wr) ∧ Hid (RSx wr A1 d.dirs) ∧ Hid (w1.heap.size ≤ wr.heap.size))
  case atStart => exact ⟨0, rfl, by omega, HB5, HR5, HS5⟩
  case round =>
    obtain ⟨i, rfl, hi, HB, HRS, HSW⟩ := hrel
    clear HB5 HR5 HS5
    by_cases hlt : i < n1
    · have hlt1 : (i : Int) < (n1 : Int) := by omega
      obtain ⟨dir, hdir⟩ : ∃ dir, d.dirs[i]? = some dir := ⟨_, List.getElem?_eq_getElem (by rw [← HN1.out]; exact hlt)⟩
      have hdl2 := HDN.out dir (List.mem_of_getElem? hdir)
      have HAT : Hid (∀ W, RSx W A1 d.dirs → ∃ b off, A1 = some ⟨b, off, none⟩ ∧ W.cell? ⟨b, off + i, none⟩ = some (.string (bs dir))) := Lib.hid fun W h => by
        rcases h with h | ⟨b, off, h1, -, h3⟩
        · rw [h] at hdir; cases hdir
        · exact ⟨b, off, h1, h3 i dir hdir⟩
      obtain ⟨b0, o0, hA1, z0⟩ := HAT.out wr HRS.out
      subst hA1
      have hnd : d.dirs ≠ [] := fun e => by rw [e] at hdir; cases hdir
      have hb0 := HA1.out b0 o0 rfl hnd
      have HII := Lib.hid hi
      have HLT := Lib.hid hlt
      have HDL := Lib.hid hdl2
      have K1 := Lib.hid (list_op (HD.out wr HB.out) HK.out dir (by unfold maxLen; omega))
      unfold ptrV at K1
      obtain ⟨LS, hLS⟩ : ∃ LS, lsM d dir = LS := ⟨_, rfl⟩
      have HLS : Hid ((∀ x ∈ LS, x.length ≤ 65) ∧ LS.length ≤ 8000) := Lib.hid (by
        have h1 := HR.out wr HB.out
        rw [← hLS]
        exact ⟨fun x hx => ls_short h1 hx, Nat.le_trans (ls_count h1 dir) HK.out⟩)
      have HL0 := Lib.hid hLS
      rw [hLS] at K1
      clear hdir hi hlt hdl2 hnd
      go_wp2_with fail
      refine K1.out.mono ?_
      rintro e w2 ⟨hb2, g2, v2, rfl, hX2, hg2⟩
      obtain ⟨A2, n2, c2, rfl, -⟩ := hX2.sl
      have HB2 := Lib.hid (HB.out.trans (hb2.mono HB.out.size))
      have HX2 := Lib.hid hX2
      have HG2 := Lib.hid hg2
      have HRS2 := Lib.hid (HRS.out.below hb2)
      have HRS2z := Lib.hid hb2.size
      obtain ⟨b1, o1, e1, z2⟩ := HAT.out w2 HRS2.out
      cases e1
      clear hb2 hX2 hg2 K1 z0
      have K2 := Lib.hid (rlist_op (HR.out w2 HB2.out) HK.out dir)
      unfold ptrV at K2
      rw [HL0.out] at K2
      go_wp2_with fail
      refine K2.out.mono ?_
      rintro e w3 ⟨hb3, g3, v3, rfl, hX3, hg3⟩
      obtain ⟨A3, n3, c3, rfl, -⟩ := hX3.sl
      obtain ⟨hn3, -, -, hr3⟩ := hX3.rsx
      have HB3 := Lib.hid (HB2.out.trans (hb3.mono HB2.out.size))
      have hX23 := HX2.out.below hb3 fun k e => HX2.out.lt e
      have hne : ∀ b off, A3 = some ⟨b, off, none⟩ → LS ≠ [] → g2 ≠ some b := fun b off e hn e2 => by
        have h1 := HX2.out.lt e2
        rcases hr3 with h | ⟨b', off', e', h, h5⟩
        · exact hn h
        · rw [e] at e'; cases e'
          have hpos := List.length_pos_iff.2 hn
          obtain ⟨g', off'', e6, e7, -⟩ := hX3.at_ (by have := hX3.form; omega)
          rw [e] at e7; cases e7
          have := hg3 _ e6
          omega
      have KS := Lib.hid (same_walk w3 g2 A2 n2 c2 A3 n3 c3 LS hX23 hr3 hn3 hne)
      have HN3 := Lib.hid hn3
      have hRS3 := HRS2.out.below hb3
      have hb0w := hb0
      have HQ : Hid (∀ w', w3.grownBy w' g2 → RSx w' (some ⟨b0, o0, none⟩) d.dirs ∧ RSx w' A3 LS) := Lib.hid fun w' hg => ⟨hRS3.grown hg (fun b off e hn e2 => by cases e; have h1 := HG2.out _ e2; have h2 := HSW.out; omega), hr3.grown hg hne⟩
      have HS3 := Lib.hid (Nat.le_trans HSW.out (show wr.heap.size ≤ w3.heap.size from Nat.le_trans HRS2z.out hb3.size))
      clear hb3 hX3 hg3 hr3 hn3 hX23 hne hRS3 K2 z2
      go_wp2_with fail
      refine KS.out.mono ?_
      rintro e w4 ⟨rfl, hg4⟩
      have HB4 := Lib.hid (belowX HB3.out hg4 (fun k e => Nat.le_trans HB.out.size (HG2.out k e)) HB3.out.size)
      obtain ⟨hq1, hq2⟩ := HQ.out w4 hg4
      have HD4 := Lib.hid hq1
      have HN4 := Lib.hid hq2
      have HS4 := Lib.hid (Nat.le_trans HS3.out hg4.size)
      have hn38 : n3 ≤ 8000 := by have := HN3.out; have := HLS.out.2; omega
      clear hg4 hq1 hq2 HQ KS HX2
      go_upto_region 14 with fail
      go_loopg [15, 16] n3 (fun k s15 s16 wr => ∃ j : Nat, s15 = .int .i64 (j : Int) ∧ j + k = n3 ∧ Hid (Below w.heap.size w wr) ∧ Hid (RSx wr (some ⟨b0, o0, none⟩) d.dirs) ∧ Hid (RSx wr A3 LS) ∧ Hid (w1.heap.size ≤ wr.heap.size))
      case atStart => exact ⟨0, rfl, by omega, HB4, HD4, HN4, HS4⟩
      case round =>
        obtain ⟨j, rfl, hj, HBj, HDj, HNj, HSj⟩ := hrel
        clear HB4 HD4 HN4 HS4
        by_cases hlj : j < n3
        · have hlj1 : (j : Int) < (n3 : Int) := by omega
          obtain ⟨nm, hnm⟩ : ∃ nm, LS[j]? = some nm := ⟨_, List.getElem?_eq_getElem (by rw [← HN3.out]; exact hlj)⟩
          have hnl := HLS.out.1 nm (List.mem_of_getElem? hnm)
          obtain ⟨b1, o1, e1, z1⟩ := HAT.out wr HDj.out
          cases e1
          obtain ⟨b2, o2, rfl, y1⟩ : ∃ b2 o2, A3 = some ⟨b2, o2, none⟩ ∧ wr.cell? ⟨b2, o2 + j, none⟩ = some (.string (bs nm)) := by
            rcases HNj.out with h | ⟨b2, o2, h1, -, h3⟩
            · rw [h] at hnm; cases hnm
            · exact ⟨b2, o2, h1, h3 j nm hnm⟩
          have z1d : wr.drew.cell? ⟨b0, o0 + i, none⟩ = some (.string (bs dir)) := z1
          have y1d : wr.drew.cell? ⟨b2, o2 + j, none⟩ = some (.string (bs nm)) := y1
          have eaa : bs dir ++ (⟨#[47]⟩ : ByteArray) = bs (dir ++ [47]) := bs_app dir [47]
          have eab := bs_app (dir ++ [47]) nm
          have hz1 : (bs dir).size ≤ 32 := by rw [bs_size]; exact HDL.out
          have hz2 : (bs (dir ++ [47])).size ≤ 33 := by rw [bs_size, List.length_append]; have := HDL.out; simp; omega
          have hz3 : (bs nm).size ≤ 65 := by rw [bs_size]; exact hnl
          have hz4 : ¬ 9223372036854775807 < (bs dir).size + 1 := by omega
          have hz5 : ¬ 9223372036854775807 < (bs (dir ++ [47])).size + (bs nm).size := by omega
          have hbd : Below w.heap.size w wr.drew := by have h := HBj.out; exact ⟨h.os, h.tape, h.output, h.size, h.block⟩
          have KRD := Lib.hid (reads_walk (HD.out wr.drew hbd) (HR.out wr.drew hbd) HK.out (dir ++ [47] ++ nm) (by rw [List.length_append, List.length_append]; have := HDL.out; unfold maxLen; simp; omega))
          unfold ptrV at KRD
          have HJ := Lib.hid hj
          clear hnm hnl hbd hj
          go_upto_region 16 with fail
          go_cut [16] from 92 to 104 (fun s16 wx => s16 = .bool true ∧ Hid (Below wr.heap.size wr wx))
          case first =>
            go_region_law (refine step_calls rfl #[.tmp 92, .tmp 93, .tmp 103] #[28, 44, 9] (by rfl) Tryz.func71 (by kernel_rfl) (by kernel_rfl) #[.pointer (some ⟨db, 0, none⟩), .pointer (some ⟨rb, 0, none⟩), .string (bs (dir ++ [47] ++ nm))] (by simp [Act.eval, Act.put]) KRD.out ?_; rintro e1 w7 ⟨rfl, hb7⟩; refine ⟨_, rfl, ?_⟩; have HB7 : Hid (Below wr.heap.size wr w7) := Lib.hid ⟨hb7.os, hb7.tape, hb7.output, hb7.size, hb7.block⟩; clear hb7)
            all_goals
              go_wp2_with fail
              go_meet
              case rel => exact ⟨rfl, HB7⟩
          case rest =>
            obtain ⟨rfl, HBC⟩ := hcut
            clear eaa eab hz1 hz2 hz3 hz4 hz5 z1 z1d y1 y1d KRD
            go_wp2_with fail
            go_roundg (gk - 1)
            case rel => exact ⟨j + 1, by go_num, by have := HJ.out; omega, Lib.hid (HBj.out.trans (HBC.out.mono HBj.out.size)), Lib.hid (HDj.out.below HBC.out), Lib.hid (HNj.out.below HBC.out), Lib.hid (Nat.le_trans HSj.out HBC.out.size)⟩
            case measure => have := HJ.out; omega
        · have hlj1 : ¬ (j : Int) < (n3 : Int) := by omega
          clear hj
          go_wp2_with fail
          go_roundg (n1 - (i + 1))
          case rel => exact ⟨i + 1, by go_num, by have := HLT.out; omega, HBj, HDj, HSj⟩
          case measure => have := HII.out; have := HLT.out; omega
    · have hlt1 : ¬ (i : Int) < (n1 : Int) := by omega
      clear hi HRS HSW
      have K1 := Lib.hid (wait_op (HD.out wr HB.out) HK.out)
      unfold ptrV at K1
      go_wp2_with fail
      refine K1.out.mono ?_
      rintro e w2 ⟨hb2, ga, va, gb, vb, rfl, hXa, hXb, hga, hgb, hab⟩
      obtain ⟨Aa, na, ca, rfl, -⟩ := hXa.sl
      obtain ⟨Ab, nb, cb, rfl, -⟩ := hXb.sl
      have HB2 := Lib.hid (HB.out.trans (hb2.mono HB.out.size))
      have HXa := Lib.hid hXa
      have HXb := Lib.hid hXb
      have HGa : Hid (∀ k, ga = some k → w.heap.size ≤ k) := Lib.hid fun k e => Nat.le_trans HB.out.size (hga k e)
      have HGb : Hid (∀ k, gb = some k → w.heap.size ≤ k) := Lib.hid fun k e => Nat.le_trans HB.out.size (hgb k e)
      have HAB := Lib.hid hab
      clear hb2 hXa hXb hga hgb hab K1
      have K2 := Lib.hid (rwait_walk (HR.out w2 HB2.out) HK.out)
      unfold ptrV at K2
      go_wp2_with fail
      refine K2.out.mono ?_
      rintro e w3 ⟨hb3, gp, vp, gq, vq, rfl, hXp, hXq, hgp, hgq, -⟩
      obtain ⟨Ap, np, cp, rfl, -⟩ := hXp.sl
      obtain ⟨Aq, mq, cq, rfl, -⟩ := hXq.sl
      have HB3 := Lib.hid (HB2.out.trans (hb3.mono HB2.out.size))
      have hXa3 := HXa.out.below hb3 fun k e => HXa.out.lt e
      have hXb3 := HXb.out.below hb3 fun k e => HXb.out.lt e
      have hna := (hXa3.count (by decide) (cg_all _)).1
      have hnb := (hXb3.count (by decide) (tl_all _)).1
      have hnp := (hXp.count (by decide) (cg_all _)).1
      have hnq := (hXq.count (by decide) (tl_all _)).1
      rw [List.length_map] at hna hnb hnp hnq
      obtain rfl : np = na := by omega
      obtain rfl : mq = nb := by omega
      have hwk : d.waits.length ≤ 8000 := Nat.le_trans (HD.out wr HB.out).wf.wk HK.out
      have hnb64 : (mq : Int) ≤ 9223372036854775807 := by have := hXq.form.2.1; have := hXq.form.2.2; unfold maxLen at this; omega
      have hnp64 : (np : Int) ≤ 8000 := by omega
      have HNA := Lib.hid hna
      have HNB := Lib.hid hnb
      have HCA : Hid (∀ i x, d.waits[i]? = some x → ∃ b off, ga = some b ∧ Aa = some ⟨b, off, none⟩ ∧ b < w3.heap.size ∧ ∀ j, j < 3 → w3.cell? ⟨b, off + i * 3 + j, none⟩ = (cgC x)[j]? ∧ w3.frozen? ⟨b, off + i * 3 + j, none⟩ = false) := Lib.hid fun i x hx => by
        obtain ⟨-, -, -, -, b, off, h1, h2, h3, h4⟩ := hXa3.elem (by decide) (cg_all _) (i := i) (r := cgC x) (by rw [List.getElem?_map, hx]; rfl)
        exact ⟨b, off, h1, h2, h3, h4⟩
      have HCP : Hid (∀ W : World, (∀ k, gp = some k → W.heap[k]? = w3.heap[k]?) → ∀ i x, d.waits[i]? = some x → ∃ b off, Ap = some ⟨b, off, none⟩ ∧ W.cell? ⟨b, off + i * 3, none⟩ = some (.int .i64 x.kind) ∧ W.cell? ⟨b, off + i * 3 + 1, none⟩ = some (.string (bs x.fr)) ∧ W.cell? ⟨b, off + i * 3 + 2, none⟩ = some (.string (bs x.tt))) := Lib.hid fun W hW i x hx => by
        obtain ⟨-, -, -, -, b, off, h1, h2, h3, h4⟩ := hXp.elem (by decide) (cg_all _) (i := i) (r := cgC x) (by rw [List.getElem?_map, hx]; rfl)
        have e := hW b h1
        exact ⟨b, off, h2, (World.cell?_of_block e).trans (h4 0 (by decide)).1, (World.cell?_of_block e).trans (h4 1 (by decide)).1, (World.cell?_of_block e).trans (h4 2 (by decide)).1⟩
      have HCB : Hid (∀ i x, (tellM d)[i]? = some x → ∃ b off, gb = some b ∧ Ab = some ⟨b, off, none⟩ ∧ b < w3.heap.size ∧ ∀ j, j < 2 → w3.cell? ⟨b, off + i * 2 + j, none⟩ = (tlC x)[j]? ∧ w3.frozen? ⟨b, off + i * 2 + j, none⟩ = false) := Lib.hid fun i x hx => by
        obtain ⟨-, -, -, -, b, off, h1, h2, h3, h4⟩ := hXb3.elem (by decide) (tl_all _) (i := i) (r := tlC x) (by rw [List.getElem?_map, hx]; rfl)
        exact ⟨b, off, h1, h2, h3, h4⟩
      have HCQ : Hid (∀ W : World, (∀ k, gq = some k → W.heap[k]? = w3.heap[k]?) → ∀ i x, (tellM d)[i]? = some x → ∃ b off, Aq = some ⟨b, off, none⟩ ∧ W.cell? ⟨b, off + i * 2, none⟩ = some (.string (bs x.1)) ∧ W.cell? ⟨b, off + i * 2 + 1, none⟩ = some (.int .i64 (x.2 : Int))) := Lib.hid fun W hW i x hx => by
        obtain ⟨-, -, -, -, b, off, h1, h2, h3, h4⟩ := hXq.elem (by decide) (tl_all _) (i := i) (r := tlC x) (by rw [List.getElem?_map, hx]; rfl)
        have e := hW b h1
        exact ⟨b, off, h2, (World.cell?_of_block e).trans (h4 0 (by decide)).1, (World.cell?_of_block e).trans (h4 1 (by decide)).1⟩
      have HPL : Hid ((∀ k, gp = some k → k < w3.heap.size ∧ ga ≠ some k ∧ gb ≠ some k) ∧ (∀ k, gq = some k → k < w3.heap.size ∧ ga ≠ some k ∧ gb ≠ some k)) := Lib.hid ⟨fun k e => ⟨hXp.lt e, fun e2 => by have h1 := HXa.out.lt e2; have h2 := hgp k e; omega, fun e2 => by have h1 := HXb.out.lt e2; have h2 := hgp k e; omega⟩, fun k e => ⟨hXq.lt e, fun e2 => by have h1 := HXa.out.lt e2; have h2 := hgq k e; omega, fun e2 => by have h1 := HXb.out.lt e2; have h2 := hgq k e; omega⟩⟩
      clear hb3 hXp hXq hgp hgq hXa3 hXb3 hna hnb hnp hnq hwk K2 HXa HXb HB2
      go_upto_region 24 with fail
      go_loopg [21] np (fun k s21 wr => ∃ j : Nat, s21 = .int .i64 (j : Int) ∧ j + k = np ∧ Hid (w3.grownBy wr ga) ∧ Hid (∀ b off, Aa = some ⟨b, off, none⟩ → ∀ i x, j ≤ i → d.waits[i]? = some x → (wr.cell? ⟨b, off + i * 3, none⟩ = some (.int .i64 x.kind) ∧ wr.frozen? ⟨b, off + i * 3, none⟩ = false) ∧ (wr.cell? ⟨b, off + i * 3 + 1, none⟩ = some (.string (bs x.fr)) ∧ wr.frozen? ⟨b, off + i * 3 + 1, none⟩ = false) ∧ (wr.cell? ⟨b, off + i * 3 + 2, none⟩ = some (.string (bs x.tt)) ∧ wr.frozen? ⟨b, off + i * 3 + 2, none⟩ = false)))
      case atStart =>
        refine ⟨0, rfl, by omega, Lib.hid (World.grownBy.refl w3 _), Lib.hid fun b off e i x _ hx => ?_⟩
        obtain ⟨b', off', -, e2, -, h⟩ := HCA.out i x hx
        rw [e] at e2; cases e2
        exact ⟨h 0 (by decide), h 1 (by decide), h 2 (by decide)⟩
      case round =>
        obtain ⟨j, rfl, hj, HG, HC⟩ := hrel
        by_cases hlj : j < np
        · have hlj1 : (j : Int) < (np : Int) := by omega
          obtain ⟨x, hx⟩ : ∃ x, d.waits[j]? = some x := ⟨_, List.getElem?_eq_getElem (by rw [← HNA.out]; exact hlj)⟩
          obtain ⟨b1, o1, rfl, rfl, hb1, -⟩ := HCA.out j x hx
          obtain ⟨⟨x0, f0⟩, ⟨x1, f1⟩, ⟨x2, f2⟩⟩ := HC.out b1 o1 rfl j x (Nat.le_refl _) hx
          obtain ⟨b2, o2, rfl, y0, y1, y2⟩ := HCP.out wr (fun k e => HG.out.block k (HPL.out.1 k e).1 (fun e2 => (HPL.out.1 k e).2.1 e2.symm)) j x hx
          have HJ := Lib.hid hj
          obtain ⟨kd, fr, tt, nd⟩ := x
          simp only [] at x0 x1 x2 y0 y1 y2
          clear hx hj
          go_upto_region 26 with fail
          go_quiet (fail)
          have X0 : (wr.drewN nq).cell? ⟨b1, o1 + j * 3, none⟩ = some (.int .i64 kd) := x0
          have X1 : (wr.drewN nq).cell? ⟨b1, o1 + j * 3 + 1, none⟩ = some (.string (bs fr)) := x1
          have X2 : (wr.drewN nq).cell? ⟨b1, o1 + j * 3 + 2, none⟩ = some (.string (bs tt)) := x2
          have F0 : (wr.drewN nq).frozen? ⟨b1, o1 + j * 3, none⟩ = false := f0
          have F1 : (wr.drewN nq).frozen? ⟨b1, o1 + j * 3 + 1, none⟩ = false := f1
          have F2 : (wr.drewN nq).frozen? ⟨b1, o1 + j * 3 + 2, none⟩ = false := f2
          have HG1 : Hid (w3.grownBy (wr.drewN nq) (some b1)) := Lib.hid (by have h := HG.out; exact ⟨h.os, h.tape, h.output, h.size, h.block⟩)
          have HC1 : Hid (∀ b off, (some ⟨b1, o1, none⟩ : Option Addr) = some ⟨b, off, none⟩ → ∀ i x, j ≤ i → d.waits[i]? = some x → ((wr.drewN nq).cell? ⟨b, off + i * 3, none⟩ = some (.int .i64 x.kind) ∧ (wr.drewN nq).frozen? ⟨b, off + i * 3, none⟩ = false) ∧ ((wr.drewN nq).cell? ⟨b, off + i * 3 + 1, none⟩ = some (.string (bs x.fr)) ∧ (wr.drewN nq).frozen? ⟨b, off + i * 3 + 1, none⟩ = false) ∧ ((wr.drewN nq).cell? ⟨b, off + i * 3 + 2, none⟩ = some (.string (bs x.tt)) ∧ (wr.drewN nq).frozen? ⟨b, off + i * 3 + 2, none⟩ = false)) := Lib.hid HC.out
          generalize wr.drewN nq = w4 at *
          clear x0 x1 x2 f0 f1 f2 y0 y1 y2 HG HC
          go_wp2_with fail
          go_roundg (gk - 1)
          case rel =>
            refine ⟨j + 1, by go_num, by have := HJ.out; omega, Lib.hid ?_, Lib.hid fun b off e i x hi hx => ?_⟩
            · have h := HG1.out
              exact ⟨h.os, h.tape, h.output, by simpa using h.size, fun k hk hne => (Below.heap_setCell _ ⟨b1, o1 + j * 3 + 2, none⟩ _ k (fun e => hne (by rw [e]))).trans ((Below.heap_setCell _ ⟨b1, o1 + j * 3 + 1, none⟩ _ k (fun e => hne (by rw [e]))).trans ((Below.heap_setCell w4 ⟨b1, o1 + j * 3, none⟩ _ k (fun e => hne (by rw [e]))).trans (h.block k hk hne)))⟩
            · cases e
              obtain ⟨⟨h1, h2⟩, ⟨h3, h4⟩, ⟨h5, h6⟩⟩ := HC1.out b1 o1 rfl i x (by omega) hx
              have far : ∀ m, m < 3 → ∀ n, n < 3 → (⟨b1, o1 + j * 3 + n, none⟩ : Addr) ≠ ⟨b1, o1 + i * 3 + m, none⟩ := fun m hm n hn e2 => by injection e2 with e3 e4; omega
              refine ⟨⟨?_, ?_⟩, ⟨?_, ?_⟩, ⟨?_, ?_⟩⟩
              · exact (World.cell?_setCell_other _ _ _ _ (far 0 (by decide) 2 (by decide))).trans ((World.cell?_setCell_other _ _ _ _ (far 0 (by decide) 1 (by decide))).trans ((World.cell?_setCell_other _ _ _ _ (far 0 (by decide) 0 (by decide))).trans h1))
              · rw [World.frozen?_setCell, World.frozen?_setCell, World.frozen?_setCell]; exact h2
              · exact (World.cell?_setCell_other _ _ _ _ (far 1 (by decide) 2 (by decide))).trans ((World.cell?_setCell_other _ _ _ _ (far 1 (by decide) 1 (by decide))).trans ((World.cell?_setCell_other _ _ _ _ (far 1 (by decide) 0 (by decide))).trans h3))
              · rw [World.frozen?_setCell, World.frozen?_setCell, World.frozen?_setCell]; exact h4
              · exact (World.cell?_setCell_other _ _ _ _ (far 2 (by decide) 2 (by decide))).trans ((World.cell?_setCell_other _ _ _ _ (far 2 (by decide) 1 (by decide))).trans ((World.cell?_setCell_other _ _ _ _ (far 2 (by decide) 0 (by decide))).trans h5))
              · rw [World.frozen?_setCell, World.frozen?_setCell, World.frozen?_setCell]; exact h6
          case measure => have := HJ.out; omega
        · have hlj1 : ¬ (j : Int) < (np : Int) := by omega
          obtain ⟨w4, hw4⟩ : ∃ w4, w4 = wr := ⟨_, rfl⟩
          subst hw4
          clear HC hj HCA HCP
          have HCB4 : Hid (∀ i x, (tellM d)[i]? = some x → ∃ b off, gb = some b ∧ Ab = some ⟨b, off, none⟩ ∧ b < w4.heap.size ∧ ∀ j, j < 2 → w4.cell? ⟨b, off + i * 2 + j, none⟩ = (tlC x)[j]? ∧ w4.frozen? ⟨b, off + i * 2 + j, none⟩ = false) := Lib.hid fun i x hx => by
            obtain ⟨b, off, h1, h2, h3, h4⟩ := HCB.out i x hx
            have e := HG.out.block b h3 (fun e2 => HAB.out b e2.symm h1)
            exact ⟨b, off, h1, h2, Nat.lt_of_lt_of_le h3 HG.out.size, fun j hj => ⟨(World.cell?_of_block e).trans (h4 j hj).1, (World.frozen?_of_block e).trans (h4 j hj).2⟩⟩
          have HQ4 : Hid (∀ k, gq = some k → w4.heap[k]? = w3.heap[k]? ∧ k < w4.heap.size) := Lib.hid fun k e => ⟨HG.out.block k (HPL.out.2 k e).1 (fun e2 => (HPL.out.2 k e).2.1 e2.symm), Nat.lt_of_lt_of_le (HPL.out.2 k e).1 HG.out.size⟩
          have HB4 := Lib.hid (belowX HB3.out HG.out HGa.out HB3.out.size)
          clear HCB HG
          go_upto_region 30 with fail
          go_loopg [22] mq (fun k s22 wr => ∃ j : Nat, s22 = .int .i64 (j : Int) ∧ j + k = mq ∧ Hid (w4.grownBy wr gb) ∧ Hid (∀ b off, Ab = some ⟨b, off, none⟩ → ∀ i x, j ≤ i → (tellM d)[i]? = some x → (wr.cell? ⟨b, off + i * 2, none⟩ = some (.string (bs x.1)) ∧ wr.frozen? ⟨b, off + i * 2, none⟩ = false) ∧ (wr.cell? ⟨b, off + i * 2 + 1, none⟩ = some (.int .i64 (x.2 : Int)) ∧ wr.frozen? ⟨b, off + i * 2 + 1, none⟩ = false)))
          case atStart =>
            refine ⟨0, rfl, by omega, Lib.hid (World.grownBy.refl w4 _), Lib.hid fun b off e i x _ hx => ?_⟩
            obtain ⟨b', off', -, e2, -, h⟩ := HCB4.out i x hx
            rw [e] at e2; cases e2
            exact ⟨h 0 (by decide), h 1 (by decide)⟩
          case round =>
            obtain ⟨jj, rfl, hjj, HG, HC⟩ := hrel
            by_cases hlk : jj < mq
            · have hlk1 : (jj : Int) < (mq : Int) := by omega
              obtain ⟨x, hx⟩ : ∃ x, (tellM d)[jj]? = some x := ⟨_, List.getElem?_eq_getElem (by rw [← HNB.out]; exact hlk)⟩
              obtain ⟨b1, o1, rfl, rfl, hb1, -⟩ := HCB4.out jj x hx
              obtain ⟨⟨x0, f0⟩, ⟨x1, f1⟩⟩ := HC.out b1 o1 rfl jj x (Nat.le_refl _) hx
              obtain ⟨b2, o2, rfl, y0, y1⟩ := HCQ.out wr (fun k e => (HG.out.block k (HQ4.out k e).2 (fun e2 => (HPL.out.2 k e).2.2 e2.symm)).trans (HQ4.out k e).1) jj x hx
              have HJ := Lib.hid hjj
              obtain ⟨pt, wn⟩ := x
              simp only [] at x0 x1 y0 y1
              clear hx hjj
              go_upto_region 32 with fail
              go_quiet (fail)
              have X0 : (wr.drewN nq).cell? ⟨b1, o1 + jj * 2, none⟩ = some (.string (bs pt)) := x0
              have X1 : (wr.drewN nq).cell? ⟨b1, o1 + jj * 2 + 1, none⟩ = some (.int .i64 (wn : Int)) := x1
              have F0 : (wr.drewN nq).frozen? ⟨b1, o1 + jj * 2, none⟩ = false := f0
              have F1 : (wr.drewN nq).frozen? ⟨b1, o1 + jj * 2 + 1, none⟩ = false := f1
              have HG1 : Hid (w4.grownBy (wr.drewN nq) (some b1)) := Lib.hid (by have h := HG.out; exact ⟨h.os, h.tape, h.output, h.size, h.block⟩)
              have HC1 : Hid (∀ b off, (some ⟨b1, o1, none⟩ : Option Addr) = some ⟨b, off, none⟩ → ∀ i x, jj ≤ i → (tellM d)[i]? = some x → ((wr.drewN nq).cell? ⟨b, off + i * 2, none⟩ = some (.string (bs x.1)) ∧ (wr.drewN nq).frozen? ⟨b, off + i * 2, none⟩ = false) ∧ ((wr.drewN nq).cell? ⟨b, off + i * 2 + 1, none⟩ = some (.int .i64 (x.2 : Int)) ∧ (wr.drewN nq).frozen? ⟨b, off + i * 2 + 1, none⟩ = false)) := Lib.hid HC.out
              generalize wr.drewN nq = w5 at *
              clear x0 x1 f0 f1 y0 y1 HG HC
              go_wp2_with fail
              go_roundg (gk - 1)
              case rel =>
                refine ⟨jj + 1, by go_num, by have := HJ.out; omega, Lib.hid ?_, Lib.hid fun b off e i x hi hx => ?_⟩
                · have h := HG1.out
                  exact ⟨h.os, h.tape, h.output, by simpa using h.size, fun k hk hne => (Below.heap_setCell _ ⟨b1, o1 + jj * 2 + 1, none⟩ _ k (fun e => hne (by rw [e]))).trans ((Below.heap_setCell w5 ⟨b1, o1 + jj * 2, none⟩ _ k (fun e => hne (by rw [e]))).trans (h.block k hk hne))⟩
                · cases e
                  obtain ⟨⟨h1, h2⟩, ⟨h3, h4⟩⟩ := HC1.out b1 o1 rfl i x (by omega) hx
                  have far : ∀ m, m < 2 → ∀ n, n < 2 → (⟨b1, o1 + jj * 2 + n, none⟩ : Addr) ≠ ⟨b1, o1 + i * 2 + m, none⟩ := fun m hm n hn e2 => by injection e2 with e3 e4; omega
                  refine ⟨⟨?_, ?_⟩, ⟨?_, ?_⟩⟩
                  · exact (World.cell?_setCell_other _ _ _ _ (far 0 (by decide) 1 (by decide))).trans ((World.cell?_setCell_other _ _ _ _ (far 0 (by decide) 0 (by decide))).trans h1)
                  · rw [World.frozen?_setCell, World.frozen?_setCell]; exact h2
                  · exact (World.cell?_setCell_other _ _ _ _ (far 1 (by decide) 1 (by decide))).trans ((World.cell?_setCell_other _ _ _ _ (far 1 (by decide) 0 (by decide))).trans h3)
                  · rw [World.frozen?_setCell, World.frozen?_setCell]; exact h4
              case measure => have := HJ.out; omega
            · have hlk1 : ¬ (jj : Int) < (mq : Int) := by omega
              have HB5 := Lib.hid (belowX HB4.out HG.out HGb.out HB4.out.size)
              have KF := Lib.hid (reads_walk (HD.out wr HB5.out) (HR.out wr HB5.out) HK.out p HP.out)
              unfold ptrV at KF
              clear HC hjj
              go_wp2_with fail
              refine KF.out.mono ?_
              rintro e w6 ⟨rfl, hb6⟩
              have HB6 := Lib.hid (HB5.out.trans (hb6.mono HB5.out.size))
              clear hb6 KF
              go_wp2_with fail
              go_ret
              exact ⟨rfl, HB6.out⟩
end
end Go.Proofs.YtbpooaicmjkemaaGreatDoor
