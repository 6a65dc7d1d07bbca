/-
  The walk of record.Encode. No condition but what the message is and the tables of the library.
-/
import Derived.Test.YtfnhaddgdfkmcaaDoorEnc0
import Derived.Test.YtfnhaddgdfkmcaaDoorCrc
import Derived.Test.YtfnhaddgdfkmcaaDoorTabs
import Derived.Test.YtfnhaddgdfkmcaaDoorRight3
namespace Go.Proofs.YtfnhaddgdfkmcaaDoor
open Go.RowKit Go.Sort
set_option linter.unusedVariables false

theorem hex8_len {n : Nat} (h : n < 4294967296) : (hex8 n).length = 8 := by
  unfold hex8
  have := hexD_len 7 n (by omega)
  rw [List.length_append, List.length_replicate]
  omega
set_option maxRecDepth 100000 in
set_option maxHeartbeats 4000000 in
theorem encode_walk (m : Msg) (A1 : Option Addr) (c1 : Nat) (A2 : Option Addr) (c2 : Nat) (w : World) (h : MsgAt w w.heap.size m A1 c1 A2 c2) (T : Tabs w) :
    Calls Tryd.prog 10 #[.agg (mCells m A1 c1 A2 c2)] w fun e w' => Below w.heap.size w w' ∧ ∃ v, e = .returned (.tuple #[v, .int .i64 (rightE m)]) ∧ OwnB w' w.heap.size 5 v (encV m) := by
  have hblk := Blk.new w 25 (mCells m A1 c1 A2 c2)
  generalize hw0 : w.alloc (.cells (mCells m A1 c1 A2 c2) 25) = w0 at hblk
  have hb0 : Below w.heap.size w w0 := by rw [← hw0]; exact (Below.refl _ _).alloc (Nat.le_refl _) _
  have hs0 : w0.heap.size = w.heap.size + 1 := by rw [← hw0]; simp
  have h0 := (h.below hb0).mono hb0.size
  have HR := Lib.hid (mright_walk m A1 c1 A2 c2 w0 h0)
  by_cases hr : rightE m = 0
  · have MB := Lib.hid (right_ok hr)
    have HV : Hid (encV m = encB m) := Lib.hid (if_pos hr)
    rw [HV.out, hr]
    rw [hr] at HR
    clear hr
    have HB0 := Lib.hid hb0
    have HT0 := T.keep hb0
    have HLAY := Lib.hid (fun w' (hb : Below w0.heap.size w0 w') => lay_walk m A1 c1 A2 c2 w' ((h0.below hb).mono hb.size) MB.out.n1 (HT0.keep hb).pow10)
    have HRR := Lib.hid h.rr
    have hl1 := h.l1
    have hm1 := h.m1
    have h200 := MB.out.n1
    have hpos := MB.out.n0
    have HHL := Lib.hid (hdB_len m)
    have hhp : 4 ≤ (hdB m).length := by unfold hdB; simp only [List.length_append, List.length_cons, List.length_nil]; omega
    have HE : Hid (encB m = hdB m ++ recM m.rcpts ++ endB m ++ ([101] ++ hex8 (crc (layB m)) ++ [10])) := Lib.hid rfl
    have HLB : Hid (layB m = hdB m ++ recB m.rcpts ++ endB m) := Lib.hid rfl
    have hel : (endB m).length ≤ 1048601 := by
      have := textB_len m.data
      unfold endB; rw [List.length_append]; simp only [List.length_cons, List.length_nil]; omega
    have hrl := recB_len (L := m.rcpts)
    have hll : (layB m).length ≤ 300000000 := by
      rw [HLB.out, List.length_append, List.length_append]; have := HHL.out; omega
    unfold LayAns at HLAY
    generalize hdB m = hd at *
    generalize endB m = en at *
    generalize encB m = F at *
    generalize layB m = lb at *
    obtain ⟨t, fr, L, d⟩ := m
    unfold mCells at *
    dsimp only at *
    have K : Hid (∀ w', Below w0.heap.size w0 w' → w'.cell? ⟨w.heap.size, 0, none⟩ = some (.int .i64 t) ∧ w'.cell? ⟨w.heap.size, 1, none⟩ = some (.string fr) ∧ w'.cell? ⟨w.heap.size, 2, none⟩ = some (.slice A1 L.length c1) ∧ w'.cell? ⟨w.heap.size, 3, none⟩ = some (.slice A2 d.length c2)) :=
      Lib.hid fun w' hb => ⟨(hblk.keep hb).cell 0, (hblk.keep hb).cell 1, (hblk.keep hb).cell 2, (hblk.keep hb).cell 3⟩
    have KB := Lib.hid hblk
    obtain ⟨k0, k1, k2, k3⟩ := K.out w0 (Below.refl _ _)
    have HS0 := Lib.hid hs0
    have HTK := Lib.hid (fun w' (hb : Below w0.heap.size w0 w') => HT0.keep hb)
    clear hblk h h0 hs0 hb0 HT0 T MB HV hrl
    go_enter Tryd.func10, Tryd.ntmps10
    go_wp2_with fail
    refine HR.out.mono ?_
    rintro e w1 ⟨hb1, rfl⟩
    have HB1 := Lib.hid hb1
    have hw01 := hb1.size
    obtain ⟨k0, k1, k2, k3⟩ := K.out w1 hb1
    have HL1 := Lib.hid (HLAY.out w1 hb1)
    clear hb1 HR HLAY
    go_wp2_with fail
    refine HL1.out.mono ?_
    rintro e w2 ⟨hb2, g, rfl, hg, v, v2, hB2, hO2, hI2⟩
    have HB2 := Lib.hid (HB1.out.trans (hb2.mono HB1.out.size))
    obtain ⟨k0, k1, k2, k3⟩ := K.out w2 HB2.out
    have hML := mksI_len L hd.length
    generalize hMD : mksI hd.length L = M at *
    obtain ⟨A3, c3, rfl, hc3, hm3, hr3⟩ := hO2.out
    obtain ⟨gm, cm, rfl, hcm, hmm, hgm0, hgm1, hcells⟩ := hI2.row (by omega)
    have x0 : w2.cell? ⟨g, 0, none⟩ = some (.slice A3 lb.length c3) := hB2.cell 0
    have x1 : w2.cell? ⟨g, 1, none⟩ = some (.slice (some ⟨gm, 0, none⟩) M.length cm) := hB2.cell 1
    have HX := Lib.hid (sum_any A3 lb c3 w2 _ hr3 (by simp only [maxLen]; omega))
    have HG2 := Lib.hid hB2
    have HO2 := Lib.hid hO2
    have HI2 := Lib.hid hI2
    have HC2 := Lib.hid hcells
    have HY := Lib.hid (hex_any (crc lb) w2 (crc_lt lb) (HTK.out _ HB2.out).cell (HTK.out _ HB2.out).lt)
    have hgs : g < w2.heap.size := hB2.lt
    have hxl := hex8_len (crc_lt lb)
    clear hb2 hB2 hO2 hI2 hcells hr3 HL1 HB1
    go_wp2_with fail
    refine HX.out.mono ?_
    rintro e w3 ⟨rfl, rfl⟩
    go_wp2_with fail
    refine HY.out.mono ?_
    rintro e w3 ⟨hb3, rfl⟩
    have HB3 := Lib.hid (HB2.out.trans (hb3.mono HB2.out.size))
    have O3 := HO2.out.below hb3
    have hlp : 0 < lb.length := by rw [HLB.out, List.length_append, List.length_append]; omega
    obtain ⟨gb, cb, eA, hgb0, hgb1, hcb, hcbm⟩ := O3.form hlp
    injection eA with eA _ eC
    subst eA
    subst eC
    have hne : gm ≠ gb := fun e => (own_ne HI2.out HO2.out (by decide)).elim (fun h => by simp [Value.ownBlock] at h) (fun h => h (by simp [Value.ownBlock, e]))
    have G3 := HG2.out.keep hb3
    have HC3 : Hid (∀ wr, Only gb w3 wr → ∀ i (hi : i < M.length), wr.cell? ⟨gm, i, none⟩ = some (.int .i64 M[i])) := Lib.hid fun wr ho i hi => (ho.cell (p := ⟨gm, i, none⟩) (Nat.lt_of_lt_of_le hgm1 hb3.size) hne).trans ((hb3.cell (p := ⟨gm, i, none⟩) hgm1).trans (HC2.out i hi))
    have HG3 : Hid (∀ wr, Only gb w3 wr → Blk wr g 53 #[.slice (some ⟨gb, 0, none⟩) lb.length c3, .slice (some ⟨gm, 0, none⟩) M.length cm]) := Lib.hid fun wr ho => G3.only ho (by omega)
    have hs3 := hb3.size
    have h30 := HB3.out.size
    have HKM : Hid (∀ wr, Only gb w3 wr → Below w0.heap.size w0 wr) := Lib.hid fun wr ho => HB3.out.trans (ho.to_below hgb1 (by have := HS0.out; omega))
    have HO3 := Lib.hid O3
    have HRB : Hid (Below w.heap.size w w0) := HB0
    obtain ⟨y0, y1⟩ : w3.cell? ⟨g, 0, none⟩ = some (.slice (some ⟨gb, 0, none⟩) lb.length c3) ∧ w3.cell? ⟨g, 1, none⟩ = some (.slice (some ⟨gm, 0, none⟩) M.length cm) := ⟨G3.cell 0, G3.cell 1⟩
    clear O3 G3 hb3 HC2 HG2 HX HY HTK
    have hLI : (M.length : Int) = (L.length : Int) := by omega
    go_wp2
    go_loopg [27] L.length (fun k i wr => ∃ (j : Nat) (P : List UInt8), j + k = L.length ∧ i = .int .i64 j ∧ Hid (Only gb w3 wr) ∧ Hid (OwnB wr (g + 1) 5 (.slice (some ⟨gb, 0, none⟩) lb.length c3) (P ++ recB (L.drop j) ++ en)) ∧
      Hid (M.drop j = mksI P.length (L.drop j)) ∧ Hid (P ++ recM (L.drop j) = hd ++ recM L))
    case atStart => exact ⟨0, hd, by omega, rfl, Lib.hid (Only.refl _), Lib.hid (by rw [List.drop_zero, ← HLB.out]; exact HO3.out), Lib.hid (by rw [List.drop_zero, List.drop_zero, hMD]), Lib.hid (by rw [List.drop_zero])⟩
    case round =>
      obtain ⟨j, P, hj, rfl, HO, HOW, HMJ, HP⟩ := hrel
      have B := HG3.out wr HO.out
      obtain ⟨y0, y1⟩ : wr.cell? ⟨g, 0, none⟩ = some (.slice (some ⟨gb, 0, none⟩) lb.length c3) ∧ wr.cell? ⟨g, 1, none⟩ = some (.slice (some ⟨gm, 0, none⟩) M.length cm) := ⟨B.cell 0, B.cell 1⟩
      obtain ⟨q0, q1, q2, q3⟩ := K.out wr (HKM.out wr HO.out)
      by_cases hlt : j < L.length
      · obtain ⟨b, off, rfl, hB, hcell⟩ := (HRR.out.below (HB0.out.trans ((HKM.out wr HO.out).mono HB0.out.size))).at_ hlt
        obtain ⟨e1, e2⟩ := hcell j hlt
        rw [List.drop_eq_getElem_cons hlt] at HMJ HP HOW
        obtain ⟨hjm, hmj, hmn⟩ := mksI_head HMJ.out
        have x2 := HC3.out wr HO.out j hjm
        rw [hmj] at x2
        have hj1 : (j : Int) < (L.length : Int) := by omega
        have hln := HOW.out.len.1
        have hlc := HOW.out.len.2
        clear hcell hmj
        have HMN := Lib.hid hmn
        generalize L[j] = r at *
        obtain ⟨tx, mk⟩ := r
        dsimp only at *
        rw [recB, List.length_append, List.length_append, List.length_append, List.length_append] at hln
        simp only [List.length_cons, List.length_nil] at hln
        have hcq := HOW.out
        obtain ⟨q, hq⟩ : ∃ q, q = P.length + 1 := ⟨_, rfl⟩
        rw [show (P.length : Int) + 1 = (q : Int) by omega] at x2
        have hqI : (q : Int) < (lb.length : Int) := by omega
        have hXL : (P ++ recB (⟨tx, mk⟩ :: L.drop (j + 1)) ++ en).length = lb.length := HOW.out.len.1.symm
        have z0 : (wr.cell? ⟨gb, q, none⟩).isSome = true := by
          have hc := HOW.out
          rw [HOW.out.len.1] at hc
          rw [OwnB.cell hc (k := q) (by omega)]; rfl
        obtain ⟨zv, z0⟩ := Option.isSome_iff_exists.1 z0
        have z1 : wr.frozen? ⟨gb, q, none⟩ = false := by
          have hc := HOW.out
          rw [HOW.out.len.1] at hc
          exact hc.free q
        have HQ := Lib.hid hq
        clear hq hln hmn HMJ B hcq hXL
        go_wp2
        go_region
        all_goals
          go_wp2
          go_roundg (gk - 1)
          case rel =>
            have hO' := HO.out.set_ q (.int .u8 (mk.toNat : Int))
            refine ⟨j + 1, P ++ ([114, mk] ++ textB tx.data.toList), by omega, by go_num, Lib.hid ⟨hO'.os, hO'.tape, hO'.output, hO'.size, hO'.block⟩, Lib.hid ?_, Lib.hid ?_, Lib.hid ?_⟩
            · have := HOW.out.setN q mk
              rw [HQ.out, recB, mark_set, ← HQ.out] at this
              exact World.ownsRow.drew this
            · rw [HMN.out]; simp
            · rw [← HP.out, recM]; simp
          case measure => omega
      · have hj1 : (L.length : Int) ≤ (j : Int) := by omega
        rw [List.drop_eq_nil_of_le (by omega), recB, List.append_nil] at HOW
        rw [List.drop_eq_nil_of_le (by omega), recM, List.append_nil] at HP
        rw [HP.out] at HOW
        have hln := HOW.out.len.1
        have HXL : Hid ((hd ++ recM L ++ en).length + (⟨#[101]⟩ ++ ⟨(hex8 (crc lb)).toArray⟩ ++ ⟨#[10]⟩ : ByteArray).size ≤ 140737488355328) := Lib.hid (by
          rw [← hln, size_len, app_list, app_list, List.length_append, List.length_append]
          simp only [List.length_cons, List.length_nil]
          omega)
        have HGS : Hid (g + 1 ≤ wr.heap.size) := Lib.hid (by have := HO.out.size; omega)
        clear hln B
        go_wp2_with (at_builtin; go_loud (refine wpList_appS _ isU8 Tryd.underlying9 (.tmp 48) (.tmp 51) rfl rfl (g + 1) rfl HOW.out (⟨#[101]⟩ ++ ⟨(hex8 (crc lb)).toArray⟩ ++ ⟨#[10]⟩) rfl HXL.out HGS.out ?_; intro v5 w5 ho5 hb5))
        go_ret2
        have hb6 := (HKM.out wr HO.out).trans (hb5.mono (show w0.heap.size ≤ g + 1 by omega))
        refine ⟨HB0.out.trans (hb6.mono HB0.out.size), _, rfl, ?_⟩
        have ho6 := ho5.mono (show w.heap.size ≤ g + 1 by have := HS0.out; omega)
        rw [HE.out]
        rw [app_list, app_list] at ho6
        exact ho6
  · have HV : Hid (encV m = []) := Lib.hid (if_neg hr)
    rw [HV.out]
    have hr1 : (rightE m == 0) = false := beq_eq_false_iff_ne.2 hr
    have hr2 : (rightE m != 0) = true := bne_iff_ne.2 hr
    generalize rightE m = E at *
    unfold mCells at *
    have k0 : w0.cell? ⟨w.heap.size, 0, none⟩ = some (.int .i64 m.time) := hblk.cell 0
    have k1 : w0.cell? ⟨w.heap.size, 1, none⟩ = some (.string m.frm) := hblk.cell 1
    have k2 : w0.cell? ⟨w.heap.size, 2, none⟩ = some (.slice A1 m.rcpts.length c1) := hblk.cell 2
    have k3 : w0.cell? ⟨w.heap.size, 3, none⟩ = some (.slice A2 m.data.length c2) := hblk.cell 3
    have HS0 := Lib.hid hs0
    clear hblk hr h h0 hs0
    go_enter Tryd.func10, Tryd.ntmps10
    go_wp2_with fail
    refine HR.out.mono ?_
    rintro e w1 ⟨hb1, rfl⟩
    go_wp2
    go_ret2
    exact ⟨hb0.trans (hb1.mono (by have := HS0.out; omega)), _, rfl, OwnB.nil _ _ _⟩
end Go.Proofs.YtfnhaddgdfkmcaaDoor
