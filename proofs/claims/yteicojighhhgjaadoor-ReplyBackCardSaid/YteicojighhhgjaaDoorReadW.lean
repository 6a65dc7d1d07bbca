/-
  The walk of reply.Read. No condition but the sizes that the form gives, and what the library's variables hold.
-/
import Derived.Test.YteicojighhhgjaaDoorRead
import Derived.Test.YteicojighhhgjaaDoorRRead
namespace Go.Proofs.YteicojighhhgjaaDoor
open Go.RowKit Go.Sort
set_option linter.unusedVariables false

set_option maxRecDepth 100000 in
set_option maxHeartbeats 2000000 in
theorem read_walk (A : Option Addr) (l : List UInt8) (cp : Nat) (w : World) (h : RB w w.heap.size A l) (hl : l.length ≤ cp) (hl2 : l.length ≤ 200000000000000) (hc : cp ≤ maxLen) (TE : Errs w) :
    Calls Tryd.prog 15 #[.slice A l.length cp] w fun e w' => Below w.heap.size w w' ∧ ReadAns (readP l) w' e := by
  unfold maxLen at hc
  obtain ⟨T, hT⟩ : ∃ T, readP l = T := ⟨_, rfl⟩
  have HT := Lib.hid hT
  rw [hT]; clear hT
  go_enter Tryd.func15, Tryd.ntmps15
  go_wp2
  go_loopg [6] (l.length + 1) (fun k ia wr => ∃ (a : Nat) (c : Int) (L : List ByteArray) (v : Value), ia = .int .i64 a ∧ a ≤ l.length ∧ Hid (RdRel w wr l T k a c L v))
  case atStart =>
    refine ⟨0, 0, [], .slice none 0 0, rfl, by omega, Lib.hid ⟨(Blk.new w _ _).alloc _, ?_, OwnS.nil _ _ _, ((Below.refl _ _).alloc (Nat.le_refl _) _).alloc (by simp) _, by simp, by omega, by rw [List.drop_zero]; exact HT.out⟩⟩
    have := Blk.new (w.alloc (.cells #[.int .i64 0, .slice none 0 0] 24)) 24 #[.int .i64 0, .slice none 0 0]
    simpa using this
  case round =>
    obtain ⟨a, c, L, v, rfl, ha, HR⟩ := hrel
    obtain ⟨r, hr⟩ : ∃ r, l.drop a = r := ⟨_, rfl⟩
    have hrl : r.length = l.length - a := by rw [← hr, List.length_drop]
    have HRL := Lib.hid hrl; clear hrl
    have hg : 0 < gk := by have := HR.out.fuel; omega
    have ha2 : (a : Int) ≤ (l.length : Int) := by omega
    have ha3 : (a : Int) ≤ (cp : Int) := by omega
    have hrr := h.below HR.out.bel
    have B0 := HR.out.b0
    have k0 : wr.cell? ⟨w.heap.size, 0, none⟩ = some (.int .i64 0) := B0.cell 0
    have k1 : wr.cell? ⟨w.heap.size, 1, none⟩ = some (.slice none 0 0) := B0.cell 1
    have f0 := B0.frozen 0
    have f1 := B0.frozen 1
    have bel0 := HR.out.bel
    by_cases hend : a = l.length
    · -- nothing is left
      have hr0 : r = [] := by rw [← hr, hend, List.drop_length]
      have he : eol r < 0 := by rw [hr0]; decide
      have HB : Hid (T = bad (short r)) := Lib.hid (HR.out.eq.symm.trans ((congrArg (fun z => rd gk z a c L) hr).trans (rd_short hg he)))
      have hcw := Lib.hid (fun A' cp' (hz : cp' ≤ maxLen) => cut_walk (B := w.heap.size) A' [] cp' wr (.inl rfl) (by simp) hz)
      rw [show cutS [] = [] from by decide, show cutE [] = 140 from by decide] at hcw
      have hsr : short r = 140 := by rw [hr0]; decide
      rw [hsr] at HB
      have HL : Hid (l.length - a = 0) := Lib.hid (by omega)
      have HEND := Lib.hid hend
      clear hr hr0 he hsr HR HRL h hrr HT hend
      by_cases hca : cp = a
      · rcases A with _ | ⟨ab, ao, asp⟩
        all_goals
          go_wp2_with fail
          rw [HL.out]
          refine (hcw.out _ _ (by unfold maxLen; omega)).mono ?_
          rintro e w1 ⟨rfl, rfl⟩
          go_wp2
          have B0' : Blk _ w.heap.size 24 #[.int .i64 0, .slice none 0 0] := (B0.set_ 0 (.int .i64 0)).set_ 1 (.slice none 0 0)
          refine bodyPost_ret (res_read rfl B0' rfl rfl rfl) rfl ⟨(bel0.setCell (Nat.le_refl _) _).setCell (Nat.le_refl _) _, ?_⟩
          rw [HB.out]
          exact ⟨_, _, rfl, .inl rfl⟩
      · rcases A with _ | ⟨ab, ao, asp⟩
        all_goals
          go_wp2_with fail
          rw [HL.out]
          refine (hcw.out _ _ (by unfold maxLen; omega)).mono ?_
          rintro e w1 ⟨rfl, rfl⟩
          go_wp2
          have B0' : Blk _ w.heap.size 24 #[.int .i64 0, .slice none 0 0] := (B0.set_ 0 (.int .i64 0)).set_ 1 (.slice none 0 0)
          refine bodyPost_ret (res_read rfl B0' rfl rfl rfl) rfl ⟨(bel0.setCell (Nat.le_refl _) _).setCell (Nat.le_refl _) _, ?_⟩
          rw [HB.out]
          exact ⟨_, _, rfl, .inl rfl⟩
    · have halt : a < l.length := by omega
      have hca : ¬ cp = a := by omega
      obtain ⟨b, off, rfl, hB, hcell⟩ := hrr.at_ halt
      have hx := RB.sub hB hcell a (l.length - a) (by omega)
      rw [List.take_of_length_le (by simp), hr] at hx
      have hcw := cut_walk _ r (cp - a) wr hx (by have := HRL.out; omega) (by unfold maxLen; omega)
      rw [HRL.out] at hcw
      by_cases he : eol r < 0
      · have HB : Hid (T = bad (short r)) := Lib.hid (HR.out.eq.symm.trans ((congrArg (fun z => rd gk z a c L) hr).trans (rd_short hg he)))
        have hs : cutS r = [] := by unfold cutS; rw [if_pos he]
        have hE : cutE r = short r := by unfold cutE; rw [if_pos he]
        have hne : (short r == 0) = false ∧ (short r != 0) = true := by unfold short; split <;> decide
        rw [hs, hE] at hcw
        obtain ⟨hne1, hne2⟩ := hne
        have HCW := Lib.hid hcw
        clear hr HR HRL h hrr HT hend hcell hx hcw he hs hE
        generalize short r = sr at *
        go_wp2_with fail
        refine HCW.out.mono ?_
        rintro e w1 ⟨rfl, rfl⟩
        go_wp2
        have B0' : Blk _ w.heap.size 24 #[.int .i64 0, .slice none 0 0] := (B0.set_ 0 (.int .i64 0)).set_ 1 (.slice none 0 0)
        refine bodyPost_ret (res_read rfl B0' rfl rfl rfl) rfl ⟨(bel0.setCell (Nat.le_refl _) _).setCell (Nat.le_refl _) _, ?_⟩
        rw [HB.out]
        exact ⟨_, _, rfl, .inl rfl⟩
      · have hs : cutS r = fst r := by unfold cutS; rw [if_neg he]; rfl
        have hE : cutE r = 0 := by unfold cutE; rw [if_neg he]
        rw [hs, hE] at hcw
        have HCW := Lib.hid hcw
        have hfl := fst_len he
        have hm : (fst r).length ≤ l.length - a := by have := (eol_at he).2.1; have := HRL.out; omega
        have hm5 : (fst r).length ≤ 512 := by have := (eol_at he).1; omega
        have hm1 : 1 ≤ (fst r).length := by omega
        have HLW := Lib.hid (fun w' T' => line_walk (fst r) w' (by omega) T')
        have HM : Hid (r.drop (fst r).length = l.drop (a + (fst r).length)) := Lib.hid (by rw [← hr, List.drop_drop])
        have H1 := Lib.hid (fun h => HR.out.eq.symm.trans ((congrArg (fun z => rd gk z a c L) hr).trans (rd_form hg he h)))
        have H2 := Lib.hid (fun h h5 => HR.out.eq.symm.trans ((congrArg (fun z => rd gk z a c L) hr).trans (rd_long hg he h h5)))
        have H3 := Lib.hid (fun h h5 h6 => HR.out.eq.symm.trans ((congrArg (fun z => rd gk z a c L) hr).trans (rd_more hg he h h5 h6)))
        have H4 := Lib.hid (fun h h5 h6 => HR.out.eq.symm.trans ((congrArg (fun z => rd gk z a c L) hr).trans (rd_last hg he h h5 h6)))
        rw [← hfl] at H3 H4
        have TE1 := TE.keep bel0
        have b1 := HR.out.b1
        have own1 := HR.out.own
        have len1 := HR.out.len
        have fu1 := HR.out.fuel
        clear hr HR HRL h hrr HT hend hcell hx hcw he hs hE hfl
        generalize hX : fst r = x at *
        clear hX
        have h6 : (a : Int) + (x.length : Int) ≤ (l.length : Int) := by omega
        have h8 : (x.length : Int) ≤ 512 := by omega
        go_wp2_with fail
        refine HCW.out.mono ?_
        rintro e w1 ⟨rfl, rfl⟩
        go_wp2_with fail
        refine (HLW.out _ TE1).mono ?_
        rintro e w1 ⟨hb1, n, t, more, rfl, hans⟩
        have B0n := B0.keep hb1
        have B1n := b1.keep hb1
        have O1 := own1.below hb1
        have bel1 := bel0.trans (hb1.mono bel0.size)
        have hs1 := hb1.size
        have hs0 : w.heap.size + 2 ≤ wr.heap.size := by have := b1.lt; omega
        clear hb1 HCW HLW B0 b1 own1 TE1 k0 k1 f0 f1
        obtain ⟨A1, cp1, rfl, -, -, hr1⟩ := O1.out
        have k0 : w1.cell? ⟨w.heap.size, 0, none⟩ = some (.int .i64 0) := B0n.cell 0
        have k1 : w1.cell? ⟨w.heap.size, 1, none⟩ = some (.slice none 0 0) := B0n.cell 1
        have k2 : w1.cell? ⟨w.heap.size + 1, 0, none⟩ = some (.int .i64 c) := B1n.cell 0
        have k3 : w1.cell? ⟨w.heap.size + 1, 1, none⟩ = some (.slice A1 L.length cp1) := B1n.cell 1
        have f0 := B0n.frozen 0
        have f1 := B0n.frozen 1
        have f2 := B1n.frozen 0
        have f3 := B1n.frozen 1
        generalize lOk x = ok at *
        have HA := Lib.hid hans
        clear hans bel0
        cases ok
        · have HB := Lib.hid (H1.out (.inl rfl))
          clear H1 H2 H3 H4 HM
          go_wp2
          have B0' : Blk _ w.heap.size 24 #[.int .i64 0, .slice none 0 0] := (B0n.set_ 0 (.int .i64 0)).set_ 1 (.slice none 0 0)
          refine bodyPost_ret (res_read rfl B0' rfl rfl rfl) rfl ⟨(bel1.setCell (Nat.le_refl _) _).setCell (Nat.le_refl _) _, ?_⟩
          rw [HB.out]
          exact ⟨_, _, rfl, .inl rfl⟩
        · obtain ⟨rfl, rfl, rfl⟩ := HA.out rfl
          clear HA
          generalize lN x = n at *
          generalize lM x = more at *
          generalize lT x = t at *
          by_cases hbad : 0 < (a : Int) ∧ n ≠ c
          · have HB := Lib.hid (H1.out (.inr hbad))
            obtain ⟨ha1, hnc⟩ := hbad
            have hnc1 : (n != c) = true := by simpa using hnc
            have hnc2 : (n == c) = false := by simpa using hnc
            clear H1 H2 H3 H4 HM hnc
            go_wp2
            have B0' : Blk _ w.heap.size 24 #[.int .i64 0, .slice none 0 0] := (B0n.set_ 0 (.int .i64 0)).set_ 1 (.slice none 0 0)
            refine bodyPost_ret (res_read rfl B0' rfl rfl rfl) rfl ⟨(bel1.setCell (Nat.le_refl _) _).setCell (Nat.le_refl _) _, ?_⟩
            rw [HB.out]
            exact ⟨_, _, rfl, .inl rfl⟩
          · have hno : ¬ (true = false ∨ 0 < (a : Int) ∧ n ≠ c) := by rintro (h | h); cases h; exact hbad h
            have H2' := Lib.hid (H2.out hno)
            have H3' := Lib.hid (H3.out hno)
            have H4' := Lib.hid (H4.out hno)
            clear H1 H2 H3 H4 hno
            have hal : (0 : Int) ≤ (a : Int) := by omega
            have htst : (a : Int) = 0 ∨ (0 < (a : Int) ∧ n = c) := by
              by_cases h : (a : Int) = 0
              · exact .inl h
              · exact .inr ⟨by omega, by by_cases h2 : n = c; exact h2; exact absurd ⟨by omega, h2⟩ hbad⟩
            clear hbad
            go_upto_region 7 with fail
            go_cut [31] from 32 to 43 (fun t w2 => w1 = w2 ∧ t = .bool false)
            case first =>
              rcases htst with ha0 | ⟨ha1, hnc⟩
              · go_wp2
                go_meet
                exact ⟨rfl, rfl⟩
              · have hnc1 : (n != c) = false := by simpa using hnc
                have hnc2 : (n == c) = true := by simpa using hnc
                clear hnc
                go_wp2
                go_meet
                exact ⟨rfl, rfl⟩
            case rest =>
              obtain ⟨rfl, rfl⟩ := hcut
              by_cases h50 : L.length = 50
              · have HB := Lib.hid (H2'.out h50)
                have h51 : ((L.length : Int) == 50) = true := beq_iff_eq.2 (by omega)
                clear H2' H3' H4' h50
                go_wp2
                have B0' : Blk _ w.heap.size 24 #[.int .i64 0, .slice none 0 0] := (B0n.set_ 0 (.int .i64 0)).set_ 1 (.slice none 0 0)
                refine bodyPost_ret (res_read rfl B0' rfl rfl rfl) rfl ⟨(bel1.setCell (Nat.le_refl _) _).setCell (Nat.le_refl _) _, ?_⟩
                rw [HB.out]
                exact ⟨_, _, rfl, .inl rfl⟩
              · have h51 : ((L.length : Int) == 50) = false := beq_eq_false_iff_ne.2 (by omega)
                have h52 : L.length ≤ 49 := by omega
                have HM' := Lib.hid (H3'.out h50)
                have HL' := Lib.hid (H4'.out h50)
                clear H2' H3' H4' h50
                have OAH := Lib.hid (O1.alloc (.cells #[.string ⟨t.toArray⟩] 9))
                have B0H := Lib.hid (B0n.alloc (.cells #[.string ⟨t.toArray⟩] 9))
                have B1H := Lib.hid (B1n.alloc (.cells #[.string ⟨t.toArray⟩] 9))
                have BLH := Lib.hid (bel1.alloc (Nat.le_of_lt B0n.lt) (.cells #[.string ⟨t.toArray⟩] 9))
                clear B0n B1n O1 hr1 bel1
                cases more
                all_goals
                  go_wp2_with (at_builtin; refine wpList_appOneS _ ueS _ _ rfl rfl (w.heap.size + 2) (by rfl) OAH.out w1.heap.size 1 (by rfl) ⟨t.toArray⟩ (cell_new _ _ _ (by simp)) (by omega) (by simp; omega) ?_; intro v3 w3 hown3 hbel3; obtain ⟨A3, c3, rfl, -, -, hr3⟩ := hown3.out; have HO3 := Lib.hid hown3; clear hown3; have HR3 := Lib.hid hr3; clear hr3; have B0' := B0H.out.below hbel3 (by omega); have B1' := B1H.out.below hbel3 (by omega); have q0 : w3.cell? ⟨w.heap.size, 0, none⟩ = some (.int .i64 0) := B0'.cell 0; have q1 : w3.cell? ⟨w.heap.size, 1, none⟩ = some (.slice none 0 0) := B0'.cell 1; have q2 : w3.cell? ⟨w.heap.size + 1, 0, none⟩ = some (.int .i64 c) := B1'.cell 0; have q3 : w3.cell? ⟨w.heap.size + 1, 1, none⟩ = some (.slice A1 L.length cp1) := B1'.cell 1; have g0 := B0'.frozen 0; have g1 := B0'.frozen 1; have g2 := B1'.frozen 0; have g3 := B1'.frozen 1)
                · have hL3 : (L ++ [(⟨t.toArray⟩ : ByteArray)]).length = L.length + 1 := by simp
                  have BF : Blk _ w.heap.size 24 #[.int .i64 n, .slice A3 (L.length + 1) c3] := (((B0'.far (p := ⟨w.heap.size + 1, 0, none⟩) (show w.heap.size ≠ w.heap.size + 1 by omega) (.int .i64 n)).far (p := ⟨w.heap.size + 1, 1, none⟩) (show w.heap.size ≠ w.heap.size + 1 by omega) (.slice A3 (L.length + 1) c3)).set_ 0 (.int .i64 n)).set_ 1 (.slice A3 (L.length + 1) c3)
                  refine bodyPost_ret (res_read rfl BF rfl rfl rfl) rfl ⟨?_, ?_⟩
                  · exact ((((BLH.out.trans (hbel3.mono (by omega))).setCell (Nat.le_succ _) _).setCell (Nat.le_succ _) _).setCell (Nat.le_refl _) _).setCell (Nat.le_refl _) _
                  · rw [HL'.out (by simp)]
                    refine ⟨A3, c3, ?_, ?_⟩
                    · show _ = Ending.returned (.tuple #[.agg #[.int .i64 n, .slice A3 (L ++ [(⟨t.toArray⟩ : ByteArray)]).length c3], .int .i64 ((a : Int) + (x.length : Int)), .int .i64 0])
                      rw [hL3]
                      rfl
                    · exact ((((HO3.out.far (p := ⟨w.heap.size + 1, 0, none⟩) (Nat.lt_succ_self _) _).far (p := ⟨w.heap.size + 1, 1, none⟩) (Nat.lt_succ_self _) _).far (p := ⟨w.heap.size, 0, none⟩) (show w.heap.size < w.heap.size + 2 by omega) _).far (p := ⟨w.heap.size, 1, none⟩) (show w.heap.size < w.heap.size + 2 by omega) _).rs
                · go_roundg (gk - 1)
                  case rel =>
                    have hL3 : (L ++ [(⟨t.toArray⟩ : ByteArray)]).length = L.length + 1 := by simp
                    have HO4 := HO3.out
                    rw [hL3] at HO4
                    refine ⟨a + x.length, n, L ++ [(⟨t.toArray⟩ : ByteArray)], .slice A3 (L.length + 1) c3, by go_num, by omega, Lib.hid ⟨?_, ?_, ?_, ?_, ?_, ?_, ?_⟩⟩
                    · exact (B0'.far (p := ⟨w.heap.size + 1, 0, none⟩) (show w.heap.size ≠ w.heap.size + 1 by omega) _).far (p := ⟨w.heap.size + 1, 1, none⟩) (show w.heap.size ≠ w.heap.size + 1 by omega) _
                    · exact (B1'.set_ 0 (.int .i64 n)).set_ 1 (.slice A3 (L.length + 1) c3)
                    · exact (HO4.far (p := ⟨w.heap.size + 1, 0, none⟩) (Nat.lt_succ_self _) _).far (p := ⟨w.heap.size + 1, 1, none⟩) (Nat.lt_succ_self _) _
                    · exact ((BLH.out.trans (hbel3.mono (by omega))).setCell (Nat.le_succ _) _).setCell (Nat.le_succ _) _
                    · simp; omega
                    · omega
                    · rw [HM'.out (by simp), HM.out, Int.natCast_add]
                  case measure => omega
end Go.Proofs.YteicojighhhgjaaDoor
