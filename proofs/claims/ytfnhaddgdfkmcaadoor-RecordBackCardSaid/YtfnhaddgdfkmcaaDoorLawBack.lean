/-
  The walk of the law RecordBack. Its conditions: what the form gives (the tables of the library, the message's reading).
-/
import Derived.Test.YtfnhaddgdfkmcaaDoorSpoil
import Derived.Test.YtfnhaddgdfkmcaaDoorSame
import Derived.Test.YtfnhaddgdfkmcaaDoorShown
namespace Go.Proofs.YtfnhaddgdfkmcaaDoor
open Go.RowKit Go.Sort
set_option linter.unusedVariables false

theorem rcCells_mod (mk : UInt8) : ∀ (L : List Rc) (d : Nat), d < L.length → rcCells (L.modify d (fun r => ⟨r.to, mk⟩)) = (rcCells L).set (d * 2 + 1) (.int .u8 (mk.toNat : Int))
  | [], d, h => by simp at h
  | r :: L, 0, h => rfl
  | r :: L, d + 1, h => by
    rw [List.modify_succ_cons]
    show [Value.string r.to, .int .u8 (r.mark.toNat : Int)] ++ rcCells (L.modify d _) = ([Value.string r.to, .int .u8 (r.mark.toNat : Int)] ++ rcCells L).set _ _
    rw [rcCells_mod mk L d (by simpa using h), List.set_append_right _ _ (by simp; omega)]
    congr 2
    simp; omega
theorem MsgOwn.setMk_ {w : World} {base : Nat} {m : Msg} {A1 A2 : Option Addr} {n1 c1 n2 c2 d : Nat} (h : MsgOwn w base m (.slice A1 n1 c1) (.slice A2 n2 c2)) (hd : d < m.rcpts.length) :
    ∃ g, A1 = some ⟨g, 0, none⟩ ∧ base ≤ g ∧ g < w.heap.size ∧ (∃ u, w.cell? ⟨g, d * 2 + 1, none⟩ = some u) ∧ w.frozen? ⟨g, d * 2 + 1, none⟩ = false ∧
      ∀ mk : UInt8, MsgOwn (w.setCell ⟨g, d * 2 + 1, none⟩ (.int .u8 (mk.toNat : Int))) base (setMk m d mk) (.slice A1 n1 c1) (.slice A2 n2 c2) := by
  obtain ⟨h1, h2⟩ := h
  obtain ⟨_, _, en, _⟩ := h1.out
  injection en with _ en _
  subst en
  obtain ⟨g, e, hg1, hg2, hc⟩ := (OwnR.wrt h1).at_ (i := d * 2 + 1) (by omega)
  subst e
  refine ⟨g, rfl, hg1, hg2, (hc _ (by omega)).1, (hc _ (by omega)).2, fun mk => ⟨?_, ?_⟩⟩
  · have := (World.ownsRow.stored h1 (d * 2 + 1) (.int .u8 (mk.toNat : Int))).1
    unfold OwnR setMk
    dsimp only
    rw [List.length_modify, rcCells_mod mk _ _ hd]
    exact this
  · show OwnW _ base _ m.data
    rcases Nat.eq_zero_or_pos m.data.length with h0 | h0
    · rw [List.eq_nil_of_length_eq_zero h0] at h2 ⊢
      exact h2.nilv _ _
    · refine OwnW.blocks h2 (by simp) fun g2 hg => ?_
      obtain ⟨g3, c3, hv, _, _, _, _, hc3⟩ := h2.lt h0
      injection hv with hv
      subst hv
      have e2 : g3 = g2 := by injection hg
      subst e2
      refine Below.heap_setCell w _ _ _ fun e => ?_
      have x3 := (hc3 0 h0).1
      have x1 := World.ownsRow.cells h1 (g := g) rfl 0 (.string m.rcpts[0].to) ((rcCells_at m.rcpts 0 (by omega)).1)
      rw [Addr.add_lit] at x1
      simp only at e
      subst e
      rw [Nat.zero_add, x3] at x1
      cases x1
theorem setMk_len (m : Msg) (d : Nat) (mk : UInt8) : (setMk m d mk).rcpts.length = m.rcpts.length := by simp [setMk]
theorem setMk_sz {m : Msg} (h : MsgSz m) (d : Nat) (mk : UInt8) : MsgSz (setMk m d mk) := by
  refine ⟨by rw [setMk_len]; exact h.m1, h.m2, h.t0, h.t1, h.sf, fun r hr => ?_⟩
  obtain ⟨i, hi, rfl⟩ := List.mem_iff_getElem.1 hr
  simp only [setMk, List.length_modify] at hi
  have h0 := h.st _ (List.getElem_mem hi)
  simp only [setMk, List.getElem_modify]
  split <;> exact h0
theorem at_pos (m : Msg) {d : Nat} (hd : d < m.rcpts.length) : atI m (d : Int) = (((hdB m).length + (recM (m.rcpts.take d)).length + 1 : Nat) : Int) := by
  unfold atI
  rw [Int.toNat_natCast, List.getD_eq_getElem?_getD, mksI_at _ _ _ hd]
  simp only [Option.getD_some]
  omega
set_option maxRecDepth 100000 in
set_option maxHeartbeats 4000000 in
theorem lawBack (m : Msg) (A1 : Option Addr) (c1 : Nat) (A2 : Option Addr) (c2 : Nat) (i : Int) (mk : UInt8) (w : World) (T : Tabs w) (h : MsgAt w w.heap.size m A1 c1 A2 c2) :
    Calls Tryd.prog 5 #[.agg (mCells m A1 c1 A2 c2), .int .i64 i, .int .u8 (mk.toNat : Int)] w fun e w' => Below w.heap.size w w' ∧ e = .returned (.bool true) := by
  have HSZ := Lib.hid h.sz
  have bk0 := Blk.new w 25 (mCells m A1 c1 A2 c2)
  have hb0 : Below w.heap.size w (w.alloc (.cells (mCells m A1 c1 A2 c2) 25)) := (Below.refl _ _).alloc (Nat.le_refl _) _
  have hs0 : (w.alloc (.cells (mCells m A1 c1 A2 c2) 25)).heap.size = w.heap.size + 1 := by simp
  generalize hw0 : w.alloc (.cells (mCells m A1 c1 A2 c2) 25) = w0 at *
  have h0 := (h.below hb0).mono hb0.size
  have K : Hid (∀ w', Below w0.heap.size w0 w' → w'.cell? ⟨w.heap.size, 0, none⟩ = some (.int .i64 m.time) ∧ w'.cell? ⟨w.heap.size, 1, none⟩ = some (.string m.frm) ∧ w'.cell? ⟨w.heap.size, 2, none⟩ = some (.slice A1 m.rcpts.length c1) ∧ w'.cell? ⟨w.heap.size, 3, none⟩ = some (.slice A2 m.data.length c2)) :=
    Lib.hid fun w' hb => ⟨(bk0.keep hb).cell 0, (bk0.keep hb).cell 1, (bk0.keep hb).cell 2, (bk0.keep hb).cell 3⟩
  have M : Hid (∀ w', Below w0.heap.size w0 w' → MsgAt w' w'.heap.size m A1 c1 A2 c2) := Lib.hid fun w' hb => (h0.below hb).mono hb.size
  have TT : Hid (∀ w', Below w0.heap.size w0 w' → Tabs w') := Lib.hid fun w' hb => (T.keep (hb0.mono (Nat.le_refl _))).keep hb
  have HEN := Lib.hid (fun w' h T => encode_walk m A1 c1 A2 c2 w' h T)
  have HB0 := Lib.hid hb0
  have HW := Lib.hid hw0
  by_cases hr : rightE m = 0
  · have MB := Lib.hid (right_ok hr)
    have HR := Lib.hid hr
    unfold encV at HEN
    rw [hr, if_pos rfl] at HEN
    have HDC := Lib.hid (fun A c w' h hc hm T => decode_walk A (encB m) c w' h hc hm T)
    rw [dec_back MB.out] at HDC
    have HSA := Lib.hid (fun B1 d1 B2 d2 w' h h2 => same_walk m B1 d1 B2 d2 A1 c1 A2 c2 w' h h2)
    have HSP := Lib.hid (fun B1 d1 B2 d2 base w' h hb => spoil_walk m B1 d1 B2 d2 base w' h HSZ.out hb)
    have HMA := Lib.hid (fun w' h T => markAt_walk m A1 c1 A2 c2 i w' h T)
    have HCP := Lib.hid (fun w' h => copy_walk m A1 c1 A2 c2 w' h)
    unfold mCells at *
    obtain ⟨k0, k1, k2, k3⟩ := K.out w0 (Below.refl _ _)
    clear h h0 bk0 hb0 hw0 T hr
    have hw0 := HW.out
    go_enter Tryd.func5, Tryd.ntmps5
    go_wp2_with fail
    refine (shown_walk w0 (TT.out w0 (Below.refl _ _))).mono ?_
    rintro e w1 ⟨hb1, rfl⟩
    obtain ⟨k0, k1, k2, k3⟩ := K.out w1 hb1
    have HB1 := Lib.hid hb1
    clear hb1
    go_wp2_with fail
    refine (HEN.out w1 (M.out w1 HB1.out) (TT.out w1 HB1.out)).mono ?_
    rintro e w2 ⟨hb2, v, rfl, ho2⟩
    obtain ⟨Av, cv, rfl, hvc, hvm, hvr⟩ := ho2.out
    have HB2 := Lib.hid (HB1.out.trans (hb2.mono HB1.out.size))
    have HO2 := Lib.hid ho2
    have HC1 := Lib.hid (HDC.out Av cv w2 hvr hvc hvm (TT.out w2 HB2.out))
    clear hb2 ho2 hvr HEN
    go_wp2_with fail
    refine HC1.out.mono ?_
    rintro e w3 ⟨hb3, he3⟩
    unfold DecP at he3
    dsimp only at he3
    obtain ⟨v1, v2, rfl, hx3⟩ := he3
    obtain ⟨B1, d1, B2, d2, rfl, rfl, -⟩ := MsgOwn.out hx3 HSZ.out
    have bk3 := Blk.new w3 25 #[.int .i64 m.time, .string m.frm, .slice B1 m.rcpts.length d1, .slice B2 m.data.length d2]
    have hb4 := hb3.alloc hb3.size (.cells #[.int .i64 m.time, .string m.frm, .slice B1 m.rcpts.length d1, .slice B2 m.data.length d2] 25)
    have ho4 := MsgOwn.below hx3 ((Below.refl _ _).alloc (Nat.le_refl _) (.cells #[.int .i64 m.time, .string m.frm, .slice B1 m.rcpts.length d1, .slice B2 m.data.length d2] 25))
    generalize hw4 : w3.alloc (.cells #[.int .i64 m.time, .string m.frm, .slice B1 m.rcpts.length d1, .slice B2 m.data.length d2] 25) = w4 at *
    have q0 : w4.cell? ⟨w3.heap.size, 0, none⟩ = some (.int .i64 m.time) := bk3.cell 0
    have q1 : w4.cell? ⟨w3.heap.size, 1, none⟩ = some (.string m.frm) := bk3.cell 1
    have q2 : w4.cell? ⟨w3.heap.size, 2, none⟩ = some (.slice B1 m.rcpts.length d1) := bk3.cell 2
    have q3 : w4.cell? ⟨w3.heap.size, 3, none⟩ = some (.slice B2 m.data.length d2) := bk3.cell 3
    have HB4 := Lib.hid (HB2.out.trans (hb4.mono HB2.out.size))
    have HC4 := Lib.hid hb4
    obtain ⟨k0, k1, k2, k3⟩ := K.out w4 HB4.out
    have HO4 := Lib.hid ho4
    have BK4 := Lib.hid bk3
    clear hb3 hx3 bk3 hb4 ho4 HC1
    go_wp2_with fail
    refine (HSA.out B1 d1 B2 d2 w4 (HO4.out.at_ HSZ.out) (M.out w4 HB4.out)).mono ?_
    rintro e w5 ⟨hb5, rfl⟩
    have HB5 := Lib.hid (HB4.out.trans (hb5.mono HB4.out.size))
    have HC5 := Lib.hid (HC4.out.trans (hb5.mono HC4.out.size))
    have HO5 := Lib.hid (HO4.out.below hb5)
    have bk5 := BK4.out.keep hb5
    have q0 : w5.cell? ⟨w3.heap.size, 0, none⟩ = some (.int .i64 m.time) := bk5.cell 0
    have q1 : w5.cell? ⟨w3.heap.size, 1, none⟩ = some (.string m.frm) := bk5.cell 1
    have q2 : w5.cell? ⟨w3.heap.size, 2, none⟩ = some (.slice B1 m.rcpts.length d1) := bk5.cell 2
    have q3 : w5.cell? ⟨w3.heap.size, 3, none⟩ = some (.slice B2 m.data.length d2) := bk5.cell 3
    have hs25 := HC5.out.size
    clear hb5 bk5 HO4 BK4 HC4
    go_wp2_with fail
    refine (HSP.out B1 d1 B2 d2 w2.heap.size w5 HO5.out hs25).mono ?_
    rintro e w6 ⟨hb6, rfl⟩
    have hb26 := HC5.out.trans hb6
    have HB6 := Lib.hid (HB2.out.trans (hb26.mono HB2.out.size))
    have HO6 := Lib.hid (HO2.out.below hb26)
    have hs26 := hb26.size
    obtain ⟨k0, k1, k2, k3⟩ := K.out w6 HB6.out
    clear hb6 hb26 HC5 HO5 HO2 q0 q1 q2 q3
    go_wp2_with fail
    refine (HMA.out w6 (M.out w6 HB6.out) (TT.out w6 HB6.out)).mono ?_
    rintro e w7 ⟨hb7, he7⟩
    have HB7 := Lib.hid (HB6.out.trans (hb7.mono HB6.out.size))
    have HO7 := Lib.hid (HO6.out.below hb7)
    have hs67 := hb7.size
    obtain ⟨k0, k1, k2, k3⟩ := K.out w7 HB7.out
    clear hb7 HO6 HMA
    by_cases hi : 0 ≤ i ∧ i < (m.rcpts.length : Int)
    · rw [at_ok HR.out hi] at he7
      obtain ⟨hi2, hi3⟩ := hi
      obtain ⟨d, rfl⟩ := Int.eq_ofNat_of_zero_le hi2
      have hd : d < m.rcpts.length := by omega
      rw [at_pos m hd] at he7
      obtain ⟨HEM, hlt⟩ := enc_mark m hd mk
      have HEMH := Lib.hid HEM
      generalize (hdB m).length + (recM (m.rcpts.take d)).length + 1 = pos at *
      subst he7
      clear HEM
      go_upto_region 11 with fail
      go_cut [76] from 59 to 75 (fun x wr => w7 = wr ∧ x = .bool (!markOk (mk.toNat : Int)))
      case first =>
        have hz0 : (0 : Int) ≤ (mk.toNat : Int) := by omega
        have hz1 : (mk.toNat : Int) ≤ 255 := by have := mk.toNat_lt; omega
        generalize (mk.toNat : Int) = z at *
        clear HEMH
        by_cases h1 : z = 80
        · subst h1
          go_wp2_with fail
          go_meet
          exact ⟨rfl, rfl⟩
        · by_cases h2 : z = 68
          · subst h2
            go_wp2_with fail
            go_meet
            exact ⟨rfl, rfl⟩
          · by_cases h3 : z = 66
            · subst h3
              go_wp2_with fail
              go_meet
              exact ⟨rfl, rfl⟩
            · by_cases h4 : z = 88
              · subst h4
                go_wp2_with fail
                go_meet
                exact ⟨rfl, rfl⟩
              · have n1 : (z != 80) = true := bne_iff_ne.2 h1
                have n2 : (z != 68) = true := bne_iff_ne.2 h2
                have n3 : (z != 66) = true := bne_iff_ne.2 h3
                have n4 : (z != 88) = true := bne_iff_ne.2 h4
                have n5 : Hid (markOk z = false) := Lib.hid (decide_eq_false (by omega))
                clear h1 h2 h3 h4
                go_wp2_with fail
                go_meet
                exact ⟨rfl, by rw [n5.out]; rfl⟩
      case rest =>
        obtain ⟨rfl, rfl⟩ := hcut
        by_cases hmk : markOk (mk.toNat : Int) = true
        · have HMK := Lib.hid hmk
          rw [hmk]
          clear hmk
          have MB2 := Lib.hid (setMk_may MB.out d HMK.out)
          have HSZ2 := Lib.hid (setMk_sz HSZ.out d mk)
          obtain ⟨g, cv', hgv, hg1, hg2, hgl, hgm⟩ := HO7.out.form (by omega)
          injection hgv with hgv _ hgc
          subst hgv
          subst hgc
          obtain ⟨kc, kf⟩ := HO7.out.cellM hlt
          have hp1 : (pos : Int) < ((encB m).length : Int) := by omega
          have HO8 : Hid (OwnB (w7.setCell ⟨g, pos, none⟩ (.int .u8 (mk.toNat : Int))) w1.heap.size 5 (.slice (some ⟨g, 0, none⟩) (encB m).length cv) (encB (setMk m d mk))) := Lib.hid (by rw [HEMH.out]; exact HO7.out.setN pos mk)
          have HB8 := Lib.hid (HB7.out.setCell (p := ⟨g, pos, none⟩) (by have := HB1.out.size; simp only; omega) (.int .u8 (mk.toNat : Int)))
          have hle : (encB (setMk m d mk)).length = (encB m).length := by rw [HEMH.out, List.length_set]
          obtain ⟨Ax, cx, ev, hxc, hxm, hxr⟩ := HO8.out.out
          injection ev with ev1 ev2 ev3
          subst ev1
          subst ev3
          have HC2 := Lib.hid (decode_walk (some ⟨g, 0, none⟩) (encB (setMk m d mk)) cv _ hxr hxc hxm (TT.out _ HB8.out))
          rw [hle, dec_back MB2.out] at HC2
          have hgw : w0.heap.size ≤ g := by have := HB1.out.size; omega
          have hs78 : w7.heap.size = (w7.setCell ⟨g, pos, none⟩ (.int .u8 (mk.toNat : Int))).heap.size := by simp
          clear ev2 hxr hxc hxm hle HO7
          generalize hw8 : w7.setCell ⟨g, pos, none⟩ (.int .u8 (mk.toNat : Int)) = w8 at *
          go_wp2_with fail
          refine HC2.out.mono ?_
          rintro e w9 ⟨hb9, he9⟩
          unfold DecP at he9
          dsimp only at he9
          obtain ⟨v1, v2, he9, hx9⟩ := he9
          obtain ⟨E1, e1, E2, e2, rfl, rfl, -⟩ := MsgOwn.out hx9 HSZ2.out
          rw [show (setMk m d mk).time = m.time from rfl, show (setMk m d mk).frm = m.frm from rfl, show (setMk m d mk).data = m.data from rfl, setMk_len] at he9
          rw [show (setMk m d mk).data.length = m.data.length from rfl, setMk_len] at hx9
          subst he9
          have hX9 : MsgOwn w9 w8.heap.size (setMk m d mk) (.slice E1 m.rcpts.length e1) (.slice E2 m.data.length e2) := hx9
          have bk9 := Blk.new w9 25 #[.int .i64 m.time, .string m.frm, .slice E1 m.rcpts.length e1, .slice E2 m.data.length e2]
          have hb10 := hb9.alloc hb9.size (.cells #[.int .i64 m.time, .string m.frm, .slice E1 m.rcpts.length e1, .slice E2 m.data.length e2] 25)
          have ho10 := hX9.below ((Below.refl _ _).alloc (Nat.le_refl _) (.cells #[.int .i64 m.time, .string m.frm, .slice E1 m.rcpts.length e1, .slice E2 m.data.length e2] 25))
          have hs10 : (w9.alloc (.cells #[.int .i64 m.time, .string m.frm, .slice E1 m.rcpts.length e1, .slice E2 m.data.length e2] 25)).heap.size = w9.heap.size + 1 := by simp
          generalize hw10 : w9.alloc (.cells #[.int .i64 m.time, .string m.frm, .slice E1 m.rcpts.length e1, .slice E2 m.data.length e2] 25) = w10 at *
          have hs89 := hb9.size
          have HB10 := Lib.hid (HB8.out.trans (hb10.mono HB8.out.size))
          have HO10 := Lib.hid ho10
          have BK10 := Lib.hid bk9
          obtain ⟨k0, k1, k2, k3⟩ := K.out w10 HB10.out
          clear hb9 hx9 hX9 bk9 hb10 ho10 HC2 HO8 kc kf
          go_wp2_with fail
          refine (HCP.out w10 (M.out w10 HB10.out)).mono ?_
          rintro e w11 ⟨hb11, v3, v4, rfl, hx11⟩
          obtain ⟨F1, f1, F2, f2, rfl, rfl, -⟩ := MsgOwn.out hx11 HSZ.out
          obtain ⟨g2, hF1, hg3, hg4, -, -, -⟩ := hx11.setMk_ hd
          subst hF1
          have bk11 := Blk.new w11 25 #[.int .i64 m.time, .string m.frm, .slice (some ⟨g2, 0, none⟩) m.rcpts.length f1, .slice F2 m.data.length f2]
          have hb12 := hb11.alloc hb11.size (.cells #[.int .i64 m.time, .string m.frm, .slice (some ⟨g2, 0, none⟩) m.rcpts.length f1, .slice F2 m.data.length f2] 25)
          have ho12 := hx11.below ((Below.refl _ _).alloc (Nat.le_refl _) (.cells #[.int .i64 m.time, .string m.frm, .slice (some ⟨g2, 0, none⟩) m.rcpts.length f1, .slice F2 m.data.length f2] 25))
          have hs12 : (w11.alloc (.cells #[.int .i64 m.time, .string m.frm, .slice (some ⟨g2, 0, none⟩) m.rcpts.length f1, .slice F2 m.data.length f2] 25)).heap.size = w11.heap.size + 1 := by simp
          generalize hw12 : w11.alloc (.cells #[.int .i64 m.time, .string m.frm, .slice (some ⟨g2, 0, none⟩) m.rcpts.length f1, .slice F2 m.data.length f2] 25) = w12 at *
          obtain ⟨g3, hF3, -, -, ⟨u0, ku⟩, kuf, HSET⟩ := ho12.setMk_ hd
          injection hF3 with hF3
          injection hF3 with hF3
          subst hF3
          have hs1011 := hb11.size
          have HB12 := Lib.hid (HB10.out.trans (hb12.mono HB10.out.size))
          have HX := Lib.hid (HSET mk)
          have HO12 := Lib.hid (HO10.out.below hb12)
          have BK12 := Lib.hid (BK10.out.keep hb12)
          have BK11 := Lib.hid bk11
          have q2 : w12.cell? ⟨w11.heap.size, 2, none⟩ = some (.slice (some ⟨g2, 0, none⟩) m.rcpts.length f1) := bk11.cell 2
          have HBX := Lib.hid (HB12.out.setCell (p := ⟨g2, d * 2 + 1, none⟩) (by have := HB8.out.size; simp only; omega) (.int .u8 (mk.toNat : Int)))
          have b1 := BK12.out.far (p := ⟨g2, d * 2 + 1, none⟩) (by simp only; omega) (.int .u8 (mk.toNat : Int))
          have b2 := BK11.out.far (p := ⟨g2, d * 2 + 1, none⟩) (by simp only; omega) (.int .u8 (mk.toNat : Int))
          have HY := Lib.hid (MsgOwn.below (w' := w12.setCell ⟨g2, d * 2 + 1, none⟩ (.int .u8 (mk.toNat : Int))) HO10.out ⟨(hb12.setCell (p := ⟨g2, d * 2 + 1, none⟩) (by simp only; omega) _).os, (hb12.setCell (p := ⟨g2, d * 2 + 1, none⟩) (by simp only; omega) _).tape, (hb12.setCell (p := ⟨g2, d * 2 + 1, none⟩) (by simp only; omega) _).output, (hb12.setCell (p := ⟨g2, d * 2 + 1, none⟩) (by simp only; omega) _).size, (hb12.setCell (p := ⟨g2, d * 2 + 1, none⟩) (by simp only; omega) _).block⟩)
          have y0 : (w12.setCell ⟨g2, d * 2 + 1, none⟩ (.int .u8 (mk.toNat : Int))).cell? ⟨w9.heap.size, 0, none⟩ = some (.int .i64 m.time) := b1.cell 0
          have y1 : (w12.setCell ⟨g2, d * 2 + 1, none⟩ (.int .u8 (mk.toNat : Int))).cell? ⟨w9.heap.size, 1, none⟩ = some (.string m.frm) := b1.cell 1
          have y2 : (w12.setCell ⟨g2, d * 2 + 1, none⟩ (.int .u8 (mk.toNat : Int))).cell? ⟨w9.heap.size, 2, none⟩ = some (.slice E1 m.rcpts.length e1) := b1.cell 2
          have y3 : (w12.setCell ⟨g2, d * 2 + 1, none⟩ (.int .u8 (mk.toNat : Int))).cell? ⟨w9.heap.size, 3, none⟩ = some (.slice E2 m.data.length e2) := b1.cell 3
          have z0 : (w12.setCell ⟨g2, d * 2 + 1, none⟩ (.int .u8 (mk.toNat : Int))).cell? ⟨w11.heap.size, 0, none⟩ = some (.int .i64 m.time) := b2.cell 0
          have z1 : (w12.setCell ⟨g2, d * 2 + 1, none⟩ (.int .u8 (mk.toNat : Int))).cell? ⟨w11.heap.size, 1, none⟩ = some (.string m.frm) := b2.cell 1
          have z2 : (w12.setCell ⟨g2, d * 2 + 1, none⟩ (.int .u8 (mk.toNat : Int))).cell? ⟨w11.heap.size, 2, none⟩ = some (.slice (some ⟨g2, 0, none⟩) m.rcpts.length f1) := b2.cell 2
          have z3 : (w12.setCell ⟨g2, d * 2 + 1, none⟩ (.int .u8 (mk.toNat : Int))).cell? ⟨w11.heap.size, 3, none⟩ = some (.slice F2 m.data.length f2) := b2.cell 3
          have HSB := Lib.hid (same_walk (setMk m d mk) E1 e1 E2 e2 (some ⟨g2, 0, none⟩) f1 F2 f2 _ (HY.out.at_ HSZ2.out) (HX.out.at_ HSZ2.out))
          unfold mCells at HSB
          rw [show (setMk m d mk).time = m.time from rfl, show (setMk m d mk).frm = m.frm from rfl, show (setMk m d mk).data = m.data from rfl, setMk_len] at HSB
          clear hb11 hx11 bk11 hb12 ho12 HSET BK11 BK12 BK10 HO10 HO12 b1 b2 HX HY
          generalize hw13 : w12.setCell ⟨g2, d * 2 + 1, none⟩ (.int .u8 (mk.toNat : Int)) = w13 at *
          go_wp2_with fail
          refine HSB.out.mono ?_
          rintro e w14 ⟨hb14, rfl⟩
          go_wp2
          go_ret
          exact ⟨HB0.out.trans ((HBX.out.trans (hb14.mono HBX.out.size)).mono HB0.out.size), rfl⟩
        · have hmk2 : markOk (mk.toNat : Int) = false := by simpa using hmk
          rw [hmk2]
          clear hmk hmk2
          go_wp2
          go_ret
          exact ⟨HB0.out.trans (HB7.out.mono HB0.out.size), rfl⟩
    · rw [at_arg HR.out hi] at he7
      subst he7
      clear hi
      go_wp2
      go_ret
      exact ⟨HB0.out.trans (HB7.out.mono HB0.out.size), rfl⟩
  · have hv : Hid (encV m = []) := Lib.hid (if_neg hr)
    have hr1 : (rightE m == 0) = false := beq_eq_false_iff_ne.2 hr
    have hr2 : (rightE m != 0) = true := bne_iff_ne.2 hr
    rw [hv.out] at HEN
    generalize rightE m = E at *
    unfold mCells at *
    obtain ⟨k0, k1, k2, k3⟩ := K.out w0 (Below.refl _ _)
    clear h h0 bk0 hb0 hw0 T hr
    have hw0 := HW.out
    go_enter Tryd.func5, Tryd.ntmps5
    go_wp2_with fail
    refine (shown_walk w0 (TT.out w0 (Below.refl _ _))).mono ?_
    rintro e w1 ⟨hb1, rfl⟩
    obtain ⟨k0, k1, k2, k3⟩ := K.out w1 hb1
    have HB1 := Lib.hid hb1
    clear hb1
    go_wp2_with fail
    refine (HEN.out w1 (M.out w1 HB1.out) (TT.out w1 HB1.out)).mono ?_
    rintro e w2 ⟨hb2, v, rfl, ho2⟩
    obtain ⟨Av, cv, rfl, hvc, hvm, hvr⟩ := ho2.out
    clear hvr ho2
    go_wp2
    go_ret
    exact ⟨HB0.out.trans ((HB1.out.trans (hb2.mono HB1.out.size)).mono HB0.out.size), rfl⟩
theorem lawBackI (m : Msg) (A1 : Option Addr) (c1 : Nat) (A2 : Option Addr) (c2 : Nat) (i mk : Int) (w : World) (T : Tabs w) (h : MsgAt w w.heap.size m A1 c1 A2 c2) (hk : 0 ≤ mk ∧ mk ≤ 255) :
    Calls Tryd.prog 5 #[.agg (mCells m A1 c1 A2 c2), .int .i64 i, .int .u8 mk] w fun e w' => Below w.heap.size w w' ∧ e = .returned (.bool true) := by
  obtain ⟨k, rfl⟩ : ∃ k : UInt8, mk = (k.toNat : Int) := ⟨UInt8.ofNat mk.toNat, by rw [UInt8.toNat_ofNat']; omega⟩
  exact lawBack m A1 c1 A2 c2 i k w T h
end Go.Proofs.YtfnhaddgdfkmcaaDoor
