/-
  The walk of the law RecordTorn. Its conditions: what the form gives (the tables of the library, the message's reading).
-/
import Derived.Test.YtfnhaddgdfkmcaaDoorSpoil
import Derived.Test.YtfnhaddgdfkmcaaDoorShown
import Derived.BigQuiet
import Derived.Deep.QuietTactic
namespace Go.Proofs.YtfnhaddgdfkmcaaDoor
open Go.RowKit Go.Sort
set_option linter.unusedVariables false

theorem enc_len {m : Msg} (h : MayBe m) : (encB m).length ≤ 310000000 := by
  rw [encB_len11]
  have h1 : (recM m.rcpts).length = (recB m.rcpts).length := by
    have : ∀ L : List Rc, (recM L).length = (recB L).length := fun L => by
      induction L with
      | nil => rfl
      | cons r L ih => rw [recM, recB]; simp only [List.length_append, List.length_cons, ih]
    exact this _
  have h2 := recB_len (L := m.rcpts)
  have h3 := hdB_len m
  have h4 := textB_len m.data
  have h5 := h.n1
  have h6 := h.d
  simp only [List.length_append, List.length_cons, List.length_nil]
  omega
set_option maxRecDepth 100000 in
set_option maxHeartbeats 4000000 in
theorem lawTorn (m : Msg) (A1 : Option Addr) (c1 : Nat) (A2 : Option Addr) (c2 : Nat) (cut : Int) (by8 : UInt8) (w : World) (T : Tabs w) (h : MsgAt w w.heap.size m A1 c1 A2 c2) :
    Calls Tryd.prog 6 #[.agg (mCells m A1 c1 A2 c2), .int .i64 cut, .int .u8 (by8.toNat : Int)] w fun e w' => Below w.heap.size w w' ∧ e = .returned (.bool true) := by
  have HSZ := Lib.hid h.sz
  have bk0 := Blk.new w 25 (mCells m A1 c1 A2 c2)
  have hb0 : Below w.heap.size w (w.alloc (.cells (mCells m A1 c1 A2 c2) 25)) := (Below.refl _ _).alloc (Nat.le_refl _) _
  have hs0 : (w.alloc (.cells (mCells m A1 c1 A2 c2) 25)).heap.size = w.heap.size + 1 := by simp
  generalize hw0 : w.alloc (.cells (mCells m A1 c1 A2 c2) 25) = w0 at *
  have h0 := (h.below hb0).mono hb0.size
  have K : Hid (∀ w', Below w0.heap.size w0 w' → w'.cell? ⟨w.heap.size, 0, none⟩ = some (.int .i64 m.time) ∧ w'.cell? ⟨w.heap.size, 1, none⟩ = some (.string m.frm) ∧ w'.cell? ⟨w.heap.size, 2, none⟩ = some (.slice A1 m.rcpts.length c1) ∧ w'.cell? ⟨w.heap.size, 3, none⟩ = some (.slice A2 m.data.length c2)) :=
    Lib.hid fun w' hb => ⟨(bk0.keep hb).cell 0, (bk0.keep hb).cell 1, (bk0.keep hb).cell 2, (bk0.keep hb).cell 3⟩
  have M : Hid (∀ w', Below w0.heap.size w0 w' → MsgAt w' w'.heap.size m A1 c1 A2 c2) := Lib.hid fun w' hb => (h0.below hb).mono hb.size
  have TT : Hid (∀ w', Below w0.heap.size w0 w' → Tabs w') := Lib.hid fun w' hb => (T.keep (hb0.mono (Nat.le_refl _))).keep hb
  have HEN := Lib.hid (fun w' h T => encode_walk m A1 c1 A2 c2 w' h T)
  have HB0 := Lib.hid hb0
  have HW := Lib.hid hw0
  by_cases hr : rightE m = 0
  · have MB := Lib.hid (right_ok hr)
    have HR := Lib.hid hr
    unfold encV at HEN
    rw [hr, if_pos rfl] at HEN
    have HDC := Lib.hid (fun A l c w' h hc hm T => decode_walk A l c w' h hc hm T)
    unfold mCells at *
    obtain ⟨k0, k1, k2, k3⟩ := K.out w0 (Below.refl _ _)
    clear h h0 bk0 hb0 hw0 T hr
    have hw0 := HW.out
    go_enter Tryd.func6, Tryd.ntmps6
    go_wp2_with fail
    refine (shown_walk w0 (TT.out w0 (Below.refl _ _))).mono ?_
    rintro e w1 ⟨hb1, rfl⟩
    obtain ⟨k0, k1, k2, k3⟩ := K.out w1 hb1
    have HB1 := Lib.hid hb1
    clear hb1
    go_wp2_with fail
    refine (HEN.out w1 (M.out w1 HB1.out) (TT.out w1 HB1.out)).mono ?_
    rintro e w2 ⟨hb2, v, rfl, ho2⟩
    obtain ⟨Av, cv, rfl, hvc, hvm, hvr⟩ := ho2.out
    have HB2 := Lib.hid (HB1.out.trans (hb2.mono HB1.out.size))
    have HO2 := Lib.hid ho2
    have hn0 : 0 < (encB m).length := by rw [encB_len11]; omega
    have hn1 : (((encB m).length : Int) == 0) = false := beq_eq_false_iff_ne.2 (by omega)
    by_cases hc0 : cut < 0
    · go_wp2
      go_ret
      exact ⟨HB0.out.trans ((HB1.out.trans (hb2.mono HB1.out.size)).mono HB0.out.size), rfl⟩
    · by_cases hb0 : by8 = 0
      · subst hb0
        have hc1 : 0 ≤ cut := by omega
        go_wp2
        go_ret
        exact ⟨HB0.out.trans ((HB1.out.trans (hb2.mono HB1.out.size)).mono HB0.out.size), rfl⟩
      · obtain ⟨c, rfl⟩ := Int.eq_ofNat_of_zero_le (show 0 ≤ cut by omega)
        have hby : ((by8.toNat : Int) == 0) = false := beq_eq_false_iff_ne.2 (fun e => hb0 (UInt8.toNat_inj.1 (by simpa using e)))
        have HBY := Lib.hid hb0
        have hc1 : (0 : Int) ≤ (c : Int) := by omega
        have HVR := Lib.hid hvr
        have HO2 := Lib.hid ho2
        have HB2 := Lib.hid (HB1.out.trans (hb2.mono HB1.out.size))
        have HC2 := Lib.hid hb2
        clear hc0 hb0 hvr ho2 hb2 HEN
        have hm0 : c % (encB m).length < (encB m).length := Nat.mod_lt _ hn0
        have hm1 : (0 : Int) ≤ (c : Int) % ((encB m).length : Int) := by omega
        have hm2 : (c : Int) % ((encB m).length : Int) ≤ (cv : Int) := by omega
        have HT := Lib.hid (HDC.out Av ((encB m).take (c % (encB m).length)) cv w2 (HVR.out.take _) (by rw [List.length_take]; omega) hvm (TT.out w2 HB2.out))
        rw [dec_torn MB.out hm0, show ((encB m).take (c % (encB m).length)).length = c % (encB m).length by rw [List.length_take]; omega] at HT
        go_wp2_with fail
        refine HT.out.mono ?_
        rintro e w3 ⟨hb3, he3⟩
        unfold DecP at he3
        dsimp only at he3
        subst he3
        have hb4 := hb3.alloc hb3.size (.cells #[.int .i64 0, .string ⟨#[]⟩, .slice none 0 0, .slice none 0 0] 25)
        go_upto_region 8 with fail
        generalize hw4 : w3.alloc (.cells #[.int .i64 0, .string ⟨#[]⟩, .slice none 0 0, .slice none 0 0] 25) = w4 at *
        clear hw4
        have hs24 := hb4.size
        have hs12 := HC2.out.size
        have HB4 := Lib.hid (HB2.out.trans (hb4.mono HB2.out.size))
        have HO4 := Lib.hid (HO2.out.below hb4)
        have HVR4 := Lib.hid ((HVR.out.below hb4).mono hb4.size)
        have HRA := Lib.hid (HVR4.out.alloc (Nat.le_refl _) (.cells #[] 5))
        have HM := Lib.hid (OwnB.made w4 w4.heap.size 5 (Nat.le_refl _))
        have hlen := enc_len MB.out
        clear hb3 hb4 HT hm1 hm2 HVR HO2
        go_wp2_with (first
          | (at_builtin; refine wpList_appB _ isU8 (.tmp 52) (.tmp 53) rfl rfl w4.heap.size rfl HM.out (k := encB m) _ _ rfl rfl HRA.out (by simp only [List.length_nil]; omega) (by simp) ?_; intro v5 w5 hv5 hb5; have hs5 := hb5.size; simp only [World.size_alloc] at hs5; have HV5 : Hid (OwnB w5 w4.heap.size 5 v5 (encB m)) := Lib.hid hv5; have HB5 := Lib.hid ((((Below.refl w4.heap.size w4).alloc (Nat.le_refl _) (.cells #[] 5)).trans hb5)); obtain ⟨A5, n5, c5, rfl⟩ := hv5.sl; clear hv5 hb5)
          | (at_builtin; go_loud (refine wpList_appB _ isU8 (.tmp 54) (.tmp 56) rfl rfl w4.heap.size rfl (HV5.out.alloc _) (k := [by8]) _ _ rfl rfl (RB.one _ _ by8 _ rfl) (by simp only [List.length_singleton]; omega) (by simp; omega) ?_; intro v6 w6 hv6 hb6; have hs6 := hb6.size; simp only [World.size_alloc] at hs6; have HV6 := Lib.hid hv6; have HB6 := Lib.hid (HB5.out.trans (((Below.refl w4.heap.size w5).alloc (by omega) (.cells #[.int .u8 (by8.toNat : Int)] 5)).trans hb6)); obtain ⟨A6, c6, rfl, h6a, h6b, h6c⟩ := hv6.out; have HT6 := Lib.hid (HDC.out A6 (encB m ++ [by8]) c6 w6 h6c h6a h6b (TT.out w6 (HB4.out.trans (HB6.out.mono HB4.out.size)))); clear hv6 hb6 h6c)))
        rw [dec_more MB.out, List.length_append, List.length_singleton] at HT6
        refine HT6.out.mono ?_
        rintro e w7 ⟨hb7, he7⟩
        unfold DecP at he7
        dsimp only at he7
        subst he7
        have hb8 := HB6.out.trans (hb7.alloc hb7.size (.cells #[.int .i64 0, .string ⟨#[]⟩, .slice none 0 0, .slice none 0 0] 25) |>.mono (by omega))
        go_upto_region 9 with fail
        generalize hw8 : w7.alloc (.cells #[.int .i64 0, .string ⟨#[]⟩, .slice none 0 0, .slice none 0 0] 25) = w8 at *
        clear hw8
        have HB8 := Lib.hid (HB4.out.trans (hb8.mono HB4.out.size))
        have HO8 := Lib.hid (HO4.out.below hb8)
        obtain ⟨k0, k1, k2, k3⟩ := K.out w8 HB8.out
        clear hb7 hb8 HT6 HV6 HB6 HB5 HV5 HM HRA HVR4 HO4
        by_cases hd0 : m.data.length = 0
        · have hd1 : ((m.data.length : Int) == 0) = true := beq_iff_eq.2 (by omega)
          clear hd0
          go_wp2
          go_ret
          exact ⟨HB0.out.trans (HB8.out.mono HB0.out.size), rfl⟩
        · have hd1 : ((m.data.length : Int) == 0) = false := beq_eq_false_iff_ne.2 (by omega)
          have hd2 : 0 < m.data.length := by omega
          clear hd0
          have hkd : c % m.data.length < m.data.length := Nat.mod_lt _ hd2
          have hxz : (m.data[c % m.data.length]).toNat ^^^ by8.toNat < 256 := Nat.xor_lt_two_pow (n := 8) (m.data[c % m.data.length]).toNat_lt by8.toNat_lt
          obtain ⟨z, hz⟩ : ∃ z : UInt8, z.toNat = (m.data[c % m.data.length]).toNat ^^^ by8.toNat := ⟨UInt8.ofNat ((m.data[c % m.data.length]).toNat ^^^ by8.toNat), by rw [UInt8.toNat_ofNat']; omega⟩
          have hzne : z ≠ m.data[c % m.data.length] := by
            rintro rfl
            have h2 : (m.data[c % m.data.length]).toNat ^^^ 0 = (m.data[c % m.data.length]).toNat ^^^ by8.toNat := by rw [Nat.xor_zero]; exact hz
            have h3 := xor_inj' h2
            exact HBY.out (UInt8.toNat_inj.1 (by simpa using h3.symm))
          have hxor : bits .xor .u8 ((m.data[c % m.data.length]).toNat : Int) (by8.toNat : Int) = (z.toNat : Int) := by rw [hz]; exact u8_xor_nat _ _ (m.data[c % m.data.length]).toNat_lt by8.toNat_lt
          obtain ⟨hp1, hp2, hp3⟩ := dec_turn MB.out hkd hzne
          have hN : 11 + m.data.length ≤ (encB m).length := by
            rw [encB_len11, textB_form MB.out.d]; simp only [List.length_append, List.length_cons, List.length_nil]; omega
          have HP3 := Lib.hid hp3
          have hpe : Hid (((encB m).length : Int) - 11 - (m.data.length : Int) + (c : Int) % (m.data.length : Int) = (((encB m).length - 11 - m.data.length + c % m.data.length : Nat) : Int)) := Lib.hid (by omega)
          have hdl : (m.data.length : Int) ≤ 1048576 := by have := MB.out.d; omega
          have hr0 : (0 : Int) ≤ (c : Int) % (m.data.length : Int) := by omega
          have hr1 : (c : Int) % (m.data.length : Int) ≤ 1048576 := by omega
          have hNi : (11 : Int) + (m.data.length : Int) ≤ ((encB m).length : Int) := by omega
          have hNl : ((encB m).length : Int) ≤ 310000000 := by omega
          clear hp3 hz hxz hzne
          generalize (encB m).length - 11 - m.data.length + c % m.data.length = pos at *
          go_upto_region 13 with fail
          go_cut [14] from 71 to 83 (fun x wr => (∃ n, w8.drewN n = wr) ∧ x = .int .i64 (pos : Int))
          case first =>
            go_quiet (fail)
            go_wp2_with fail
            go_meet
            exact ⟨⟨_, rfl⟩, by rw [hpe.out]⟩
          case rest =>
            obtain ⟨⟨n, hwn⟩, rfl⟩ := hcut
            have HB9 : Hid (Below w0.heap.size w0 wc) := Lib.hid (by rw [← hwn]; exact bdrewN HB8.out n)
            have HO9 : Hid (OwnB wc w1.heap.size 5 (.slice Av (encB m).length cv) (encB m)) := Lib.hid (by rw [← hwn]; exact HO8.out)
            generalize hw9 : wc = w9 at *
            clear hwn hw9 HB8 HO8 k0 k1 k2 k3
            obtain ⟨g, cv', hgv, hg1, hg2, hgl, hgm⟩ := HO9.out.form hn0
            injection hgv with hgv _ hgc
            subst hgv
            subst hgc
            obtain ⟨kc, kf⟩ := HO9.out.cellM hp1
            have hbt : bt (encB m) pos = ((m.data[c % m.data.length]).toNat : Int) := by
              unfold bt
              rw [List.getD_eq_getElem?_getD, hp2]; rfl
            rw [hbt] at kc
            generalize (m.data[c % m.data.length]).toNat = dz at *
            have hpi : (pos : Int) < ((encB m).length : Int) := by omega
            have HO10 := Lib.hid (HO9.out.setN pos z)
            have HB10 := Lib.hid (HB9.out.setCell (p := ⟨g, pos, none⟩) (by have := HB1.out.size; simp only; omega) (.int .u8 (z.toNat : Int)))
            obtain ⟨Ax, cx, ev, hxc, hxm, hxr⟩ := HO10.out.out
            injection ev with ev1 ev2 ev3
            subst ev1
            subst ev3
            have HT := Lib.hid (HDC.out (some ⟨g, 0, none⟩) ((encB m).set pos z) cv _ hxr hxc hxm (TT.out _ HB10.out))
            rw [List.length_set, HP3.out] at HT
            clear ev2 hxr hxc hxm HO10 HO9 hbt hp2 hr0 hr1 hpe hN hNi hNl hdl hkd hm0 hd1 hd2 hs5 hs6 hs24 hs12 h6a h6b hgl hgm hg1 hg2 hlen hvc hvm
            go_upto_region 16 with fail
            go_wp2_with fail
            refine HT.out.mono ?_
            rintro e w11 ⟨hb11, he11⟩
            unfold DecP at he11
            dsimp only at he11
            subst he11
            go_wp2
            go_ret
            exact ⟨HB0.out.trans (((HB10.out.trans (hb11.mono HB10.out.size)).alloc (Nat.le_trans HB10.out.size hb11.size) _).mono HB0.out.size), rfl⟩
  · have hv : Hid (encV m = []) := Lib.hid (if_neg hr)
    have hr1 : (rightE m == 0) = false := beq_eq_false_iff_ne.2 hr
    have hr2 : (rightE m != 0) = true := bne_iff_ne.2 hr
    rw [hv.out] at HEN
    generalize rightE m = E at *
    unfold mCells at *
    obtain ⟨k0, k1, k2, k3⟩ := K.out w0 (Below.refl _ _)
    clear h h0 bk0 hb0 hw0 T hr
    have hw0 := HW.out
    go_enter Tryd.func6, Tryd.ntmps6
    go_wp2_with fail
    refine (shown_walk w0 (TT.out w0 (Below.refl _ _))).mono ?_
    rintro e w1 ⟨hb1, rfl⟩
    obtain ⟨k0, k1, k2, k3⟩ := K.out w1 hb1
    have HB1 := Lib.hid hb1
    clear hb1
    go_wp2_with fail
    refine (HEN.out w1 (M.out w1 HB1.out) (TT.out w1 HB1.out)).mono ?_
    rintro e w2 ⟨hb2, v, rfl, ho2⟩
    obtain ⟨Av, cv, rfl, hvc, hvm, hvr⟩ := ho2.out
    clear hvr ho2
    go_wp2
    go_ret
    exact ⟨HB0.out.trans ((HB1.out.trans (hb2.mono HB1.out.size)).mono HB0.out.size), rfl⟩
theorem lawTornI (m : Msg) (A1 : Option Addr) (c1 : Nat) (A2 : Option Addr) (c2 : Nat) (cut b : Int) (w : World) (T : Tabs w) (h : MsgAt w w.heap.size m A1 c1 A2 c2) (hk : 0 ≤ b ∧ b ≤ 255) :
    Calls Tryd.prog 6 #[.agg (mCells m A1 c1 A2 c2), .int .i64 cut, .int .u8 b] w fun e w' => Below w.heap.size w w' ∧ e = .returned (.bool true) := by
  obtain ⟨k, rfl⟩ : ∃ k : UInt8, b = (k.toNat : Int) := ⟨UInt8.ofNat b.toNat, by rw [UInt8.toNat_ofNat']; omega⟩
  exact lawTorn m A1 c1 A2 c2 cut k w T h
end Go.Proofs.YtfnhaddgdfkmcaaDoor
