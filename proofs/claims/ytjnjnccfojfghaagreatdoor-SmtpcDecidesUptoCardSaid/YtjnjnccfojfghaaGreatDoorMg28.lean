/-
  Several texts in one: RRead, ScReadN. Conditions: each part names its own.
-/
import Derived.Test.YtjnjnccfojfghaaGreatDoorMg15
import Derived.Test.YtjnjnccfojfghaaGreatDoorMg1
import Derived.Deep.CutBlock
import Derived.Deep.DeepCutAuto
import Derived.Test.YtjnjnccfojfghaaGreatDoorMg27
set_option linter.unusedSimpArgs false
/-! The walk of waybillref14.Read. No condition but the sizes that the form gives. -/
namespace Go.Proofs.YtjnjnccfojfghaaGreatDoor
open Go.RowKit Go.Sort
set_option linter.unusedVariables false

theorem ueS : UE Tryz.prog 41 9 := by
  obtain ⟨i, h1, h2, h3, h4⟩ := info_parts (show (Tryz.prog.info? 9).map (fun i => (i.zero, i.size, i.bytes)) = some (some (.string ⟨#[]⟩), 1, 16) by kernel_rfl)
  exact ⟨Tryz.underlying41, i, _, h1, h2, rfl, h3, by omega⟩
theorem eol_step {r : List UInt8} {j : Nat} {e : Int} (hj : j < r.length) (h5 : j < 512) (h : e = if Lib.indexByte ((r.take 512).drop j) 10 < 0 then -1 else Lib.indexByte ((r.take 512).drop j) 10 + j) :
    (bt r j = 10 → e = j) ∧ (bt r j ≠ 10 → e = if Lib.indexByte ((r.take 512).drop (j + 1)) 10 < 0 then -1 else Lib.indexByte ((r.take 512).drop (j + 1)) 10 + ((j + 1 : Nat) : Int)) := by
  have hlen : j < (r.take 512).length := by rw [List.length_take]; omega
  have hg : (r.take 512)[j] = r[j] := List.getElem_take
  rw [List.drop_eq_getElem_cons hlen, hg] at h
  rw [bt_getElem hj]
  have hge := Lib.indexByte_ge ((r.take 512).drop (j + 1)) 10
  unfold Lib.indexByte at h
  refine ⟨fun hx => ?_, fun hx => ?_⟩
  · have : r[j] = 10 := UInt8.toNat_inj.1 (by show _ = 10; omega)
    rw [this] at h
    simp at h
    exact h
  · have hne : (r[j] == 10) = false := beq_eq_false_iff_ne.2 fun hh => hx (by rw [hh]; rfl)
    rw [hne] at h
    simp only [Bool.false_eq_true, if_false, beq_iff_eq] at h
    generalize Lib.indexByte ((r.take 512).drop (j + 1)) 10 = z at *
    by_cases hz : z = -1
    · rw [if_pos hz, if_pos (by omega)] at h
      rw [if_pos (by omega)]
      exact h
    · rw [if_neg hz, if_neg (by omega)] at h
      rw [if_neg (by omega)]
      omega
theorem eol_end {r : List UInt8} {j : Nat} {e : Int} (hj : r.length ≤ j ∨ 512 ≤ j) (h : e = if Lib.indexByte ((r.take 512).drop j) 10 < 0 then -1 else Lib.indexByte ((r.take 512).drop j) 10 + j) : e = -1 := by
  rw [List.drop_eq_nil_of_le (by rw [List.length_take]; omega)] at h
  exact h
/-- what Read answers -/
def ReadAns (r : RR) (w' : World) (e : Ending) : Prop :=
  ∃ A cp, e = .returned (.tuple #[.agg #[.int .i64 r.c, .slice A r.L.length cp], .int .i64 r.n, .int .i64 r.e]) ∧ RS w' w'.heap.size A r.L
theorem res_read {fn : Func} (hfn : fn.results = #[.cell 2 57, .tmp 3, .tmp 4]) {tm : Array Value} {W : World} {g : Nat} {c v n e : Value} (hb : Blk W g 57 #[c, v]) (h2 : tm[2]?.getD undef = .pointer (some ⟨g, 0, none⟩)) (h3 : tm[3]?.getD undef = n) (h4 : tm[4]?.getD undef = e) :
    (results fn tm).run Tryz.prog W = .ok (.tuple #[.agg #[c, v], n, e]) W := by
  have k0 : W.cell? ⟨g, 0, none⟩ = some c := hb.cell 0
  have k1 : W.cell? ⟨g, 1, none⟩ = some v := hb.cell 1
  simp [results, hfn, h2, h3, h4, k0, k1, go_sem]
/-- what holds at the head of a round -/
structure RdRel (w wr : World) (l : List UInt8) (T : RR) (k a : Nat) (c : Int) (L : List ByteArray) (v : Value) : Prop where
  b0 : Blk wr w.heap.size 57 #[.int .i64 0, .slice none 0 0]
  b1 : Blk wr (w.heap.size + 1) 57 #[.int .i64 c, v]
  own : OwnS wr (w.heap.size + 2) 9 v L
  bel : Below w.heap.size w wr
  len : L.length ≤ 50
  fuel : l.length < a + k
  eq : rd k (l.drop a) a c L = T

set_option maxRecDepth 100000 in
set_option maxHeartbeats 2000000 in
theorem rread_walk (A : Option Addr) (l : List UInt8) (cp : Nat) (w : World) (h : RB w w.heap.size A l) (hl : l.length ≤ cp) (hl2 : l.length ≤ 200000000000000) (hc : cp ≤ maxLen) :
    Calls Tryz.prog 43 #[.slice A l.length cp] w fun e w' => Below w.heap.size w w' ∧ ReadAns (readP l) w' e := by
  unfold maxLen at hc
  obtain ⟨T, hT⟩ : ∃ T, readP l = T := ⟨_, rfl⟩
  have HT := Lib.hid hT
  rw [hT]; clear hT
  go_enter Tryz.func43, Tryz.ntmps43
  go_wp2
  go_loopg [6] (l.length + 1) (fun k ia wr => ∃ (a : Nat) (c : Int) (L : List ByteArray) (v : Value), ia = .int .i64 a ∧ a ≤ l.length ∧ Hid (RdRel w wr l T k a c L v))
  case atStart =>
    refine ⟨0, 0, [], .slice none 0 0, rfl, by omega, Lib.hid ⟨(Blk.new w _ _).alloc _, ?_, OwnS.nil _ _ _, ((Below.refl _ _).alloc (Nat.le_refl _) _).alloc (by simp) _, by simp, by omega, by rw [List.drop_zero]; exact HT.out⟩⟩
    have := Blk.new (w.alloc (.cells #[.int .i64 0, .slice none 0 0] 57)) 57 #[.int .i64 0, .slice none 0 0]
    simpa using this
  case round =>
    obtain ⟨a, c, L, v, rfl, ha, HR⟩ := hrel
    obtain ⟨r, hr⟩ : ∃ r, l.drop a = r := ⟨_, rfl⟩
    have hrl : r.length = l.length - a := by rw [← hr, List.length_drop]
    have HRL := Lib.hid hrl; clear hrl
    go_upto_block 2 with fail
    obtain ⟨wo, rfl⟩ : ∃ wo : World, wo = wr := ⟨_, rfl⟩
    go_cut [7] from 15 to 37 (fun ie wr => wo = wr ∧ ∃ i : Int, ie = .int .i64 i ∧ Hid ((i = -1 ∧ eol r < 0) ∨ (i = a + ((eol r).toNat + 1 : Nat) ∧ ¬ eol r < 0)))
    case first =>
      have ha2 : (a : Int) ≤ 200000000000000 := by omega
      go_wp2_with fail
      go_loopg [7, 8] 600 (fun k ie ii wr => wo = wr ∧ ∃ (j : Nat), j + k = 600 ∧ j ≤ 512 ∧ a + j ≤ l.length ∧ ii = .int .i64 ((a : Int) + (j : Int)) ∧
        ((ie = .int .i64 (-1) ∧ Hid (eol r = if Lib.indexByte ((r.take 512).drop j) 10 < 0 then -1 else Lib.indexByte ((r.take 512).drop j) 10 + j)) ∨ (ie = .int .i64 ((a : Int) + (j : Int)) ∧ 1 ≤ j ∧ Hid (eol r = ((j - 1 : Nat) : Int)))))
      case atStart =>
        refine ⟨rfl, 0, by omega, by omega, by omega, by simp, .inl ⟨rfl, Lib.hid ?_⟩⟩
        unfold eol
        rw [List.drop_zero]
        have := Lib.indexByte_ge (r.take 512) 10
        split
        · omega
        · simp
      case round =>
        obtain ⟨rfl, j, hj, hj5, hjl, rfl, ⟨rfl, HE⟩ | ⟨rfl, hj1, HE⟩⟩ := hrel
        · by_cases hlt : a + j < l.length
          · by_cases hl5 : j < 512
            · have hl6 : (j : Int) < 512 := by omega
              have hl7 : (a : Int) + (j : Int) < (l.length : Int) := by omega
              obtain ⟨b, off, rfl, hB, hcell⟩ := (h.below (HR.out.bel)).at_ hlt
              have cj := hcell (a + j) hlt
              have hrl := HRL.out
              obtain ⟨hs1, hs2⟩ := eol_step (show j < r.length by omega) hl5 HE.out
              have hbr : bt r j = bt l (a + j) := by rw [← hr]; unfold bt; rw [List.getD_eq_getElem?_getD, List.getD_eq_getElem?_getD, List.getElem?_drop]
              rw [hbr] at hs1 hs2
              have ej : ((a : Int) + (j : Int)).toNat = a + j := by omega
              have S1 := Lib.hid hs1
              have S2 := Lib.hid hs2
              clear hcell hrl hbr hs1 hs2 h hr
              generalize bt l (a + j) = x at *
              refine on_eq x 10 (fun X1 X2 => ?_) (fun X1 X2 => ?_)
              · have X3 := X2.out; clear X2
                go_wp2
                go_roundg (gk - 1)
                case rel =>
                  exact ⟨by trivial, j + 1, by omega, by omega, by omega, by go_num, .inr ⟨by go_num, by omega, Lib.hid (S1.out X1.out)⟩⟩
                case measure => omega
              · have X3 := X2.out; clear X2
                go_wp2
                go_roundg (gk - 1)
                case rel =>
                  exact ⟨by trivial, j + 1, by omega, by omega, by omega, by go_num, .inl ⟨rfl, Lib.hid (S2.out X1.out)⟩⟩
                case measure => omega
            · have hl6 : (512 : Int) ≤ (j : Int) := by omega
              have hl7 : (a : Int) + (j : Int) < (l.length : Int) := by omega
              go_wp2_with fail
              go_meet
              exact ⟨rfl, _, rfl, Lib.hid (.inl ⟨rfl, by rw [eol_end (.inr (by omega)) HE.out]; omega⟩)⟩
          · have hl7 : (l.length : Int) ≤ (a : Int) + (j : Int) := by omega
            go_wp2_with fail
            go_meet
            exact ⟨rfl, _, rfl, Lib.hid (.inl ⟨rfl, by rw [eol_end (.inl (by have := HRL.out; omega)) HE.out]; omega⟩)⟩
        · go_wp2_with fail
          all_goals
            go_meet
            exact ⟨rfl, _, rfl, Lib.hid (.inr ⟨by rw [HE.out]; omega, by rw [HE.out]; omega⟩)⟩
    case rest =>
      obtain ⟨rfl, i, rfl, HI⟩ := hcut
      by_cases he : eol r < 0
      · have hi : i = -1 := by
          rcases HI.out with h | h
          · exact h.1
          · exact absurd he h.2
        subst hi
        have k0 : wo.cell? ⟨w.heap.size, 0, none⟩ = some (.int .i64 0) := HR.out.b0.cell 0
        have k1 : wo.cell? ⟨w.heap.size, 1, none⟩ = some (.slice none 0 0) := HR.out.b0.cell 1
        have f0 := HR.out.b0.frozen 0
        have f1 := HR.out.b0.frozen 1
        have hg : 0 < gk := by have := HR.out.fuel; omega
        have HB : Hid (T = bad (short r)) := Lib.hid (HR.out.eq.symm.trans ((congrArg (fun z => rd gk z a c L) hr).trans (rd_short hg he)))
        clear HI
        by_cases h5 : 512 ≤ r.length
        · have h6 : (512 : Int) ≤ (l.length : Int) - (a : Int) := by have := HRL.out; omega
          have H5 := Lib.hid h5
          clear h5 hr
          go_wp2
          have B0 : Blk _ w.heap.size 57 #[.int .i64 0, .slice none 0 0] := (HR.out.b0.set_ 0 (.int .i64 0)).set_ 1 (.slice none 0 0)
          refine bodyPost_ret (res_read rfl B0 rfl rfl rfl) rfl ⟨(HR.out.bel.setCell (Nat.le_refl _) _).setCell (Nat.le_refl _) _, ?_⟩
          rw [HB.out]
          unfold short
          rw [if_pos H5.out]
          exact ⟨_, _, rfl, .inl rfl⟩
        · have h6 : (l.length : Int) - (a : Int) < 512 := by have := HRL.out; omega
          have H5 := Lib.hid h5
          clear h5 hr
          go_wp2
          have B0 : Blk _ w.heap.size 57 #[.int .i64 0, .slice none 0 0] := (HR.out.b0.set_ 0 (.int .i64 0)).set_ 1 (.slice none 0 0)
          refine bodyPost_ret (res_read rfl B0 rfl rfl rfl) rfl ⟨(HR.out.bel.setCell (Nat.le_refl _) _).setCell (Nat.le_refl _) _, ?_⟩
          rw [HB.out]
          unfold short
          rw [if_neg H5.out]
          exact ⟨_, _, rfl, .inl rfl⟩
      · have hm : (eol r).toNat + 1 ≤ r.length := by have := (eol_at he).2.1; omega
        have hm1 : 1 ≤ (eol r).toNat + 1 := by omega
        have hm5 : (eol r).toNat + 1 ≤ 512 := by have := (eol_at he).1; omega
        have hi : i = a + ((eol r).toNat + 1 : Nat) := by
          rcases HI.out with h | h
          · exact absurd h.2 he
          · exact h.1
        have hg : 0 < gk := by have := HR.out.fuel; omega
        obtain ⟨b, off, rfl, hB, hcell⟩ := (h.below (HR.out.bel)).at_ (show a < l.length by have := HRL.out; omega)
        have hca : ¬ cp = a := by have := HRL.out; omega
        have hx := RB.sub (Nat.lt_of_lt_of_le hB HR.out.bel.size) hcell a ((eol r).toNat + 1) (by have := HRL.out; omega)
        rw [hr, show r.take ((eol r).toNat + 1) = fst r from rfl] at hx
        have hfl := fst_len he
        have HM : Hid (r.drop ((eol r).toNat + 1) = l.drop (a + ((eol r).toNat + 1))) := Lib.hid (by rw [← hr, List.drop_drop])
        have H1 := Lib.hid (fun h => HR.out.eq.symm.trans ((congrArg (fun z => rd gk z a c L) hr).trans (rd_form hg he h)))
        have H2 := Lib.hid (fun h h5 => HR.out.eq.symm.trans ((congrArg (fun z => rd gk z a c L) hr).trans (rd_long hg he h h5)))
        have H3 := Lib.hid (fun h h5 h6 => HR.out.eq.symm.trans ((congrArg (fun z => rd gk z a c L) hr).trans (rd_more hg he h h5 h6)))
        have H4 := Lib.hid (fun h h5 h6 => HR.out.eq.symm.trans ((congrArg (fun z => rd gk z a c L) hr).trans (rd_last hg he h h5 h6)))
        clear HI hr
        generalize (eol r).toNat + 1 = m at *
        have hrl := HRL.out
        subst hi
        have h6 : (a : Int) + (m : Int) ≤ (l.length : Int) := by omega
        have hrw := Lib.hid (rline_walk _ _ (cp - a) wo hx (by rw [hfl]; omega) (by unfold maxLen; omega))
        rw [hfl] at hrw
        have h7 : (0 : Int) ≤ (a : Int) + (m : Int) := by omega
        clear hcell hrl hfl hx h HT
        go_wp2_with fail
        refine hrw.out.mono ?_
        rintro e w1 ⟨hb1, n, more, t, rfl, hans⟩
        have B0 := HR.out.b0.keep hb1
        have B1 := HR.out.b1.keep hb1
        have O1 := HR.out.own.below hb1
        have bel1 := HR.out.bel.trans (hb1.mono HR.out.bel.size)
        have len1 := HR.out.len
        have fu1 := HR.out.fuel
        have hs1 := hb1.size
        have hs0 : w.heap.size + 2 ≤ wo.heap.size := by have := HR.out.b1.lt; omega
        clear hb1 HR hrw
        obtain ⟨A1, cp1, rfl, -, -, hr1⟩ := O1.out
        have k0 : w1.cell? ⟨w.heap.size, 0, none⟩ = some (.int .i64 0) := B0.cell 0
        have k1 : w1.cell? ⟨w.heap.size, 1, none⟩ = some (.slice none 0 0) := B0.cell 1
        have k2 : w1.cell? ⟨w.heap.size + 1, 0, none⟩ = some (.int .i64 c) := B1.cell 0
        have k3 : w1.cell? ⟨w.heap.size + 1, 1, none⟩ = some (.slice A1 L.length cp1) := B1.cell 1
        have f0 := B0.frozen 0
        have f1 := B0.frozen 1
        have f2 := B1.frozen 0
        have f3 := B1.frozen 1
        generalize lOk (fst r) = ok at *
        have HA := Lib.hid hans
        clear hans
        cases ok
        · have HB := Lib.hid (H1.out (.inl rfl))
          clear H1 H2 H3 H4 HM
          go_wp2
          have B0' : Blk _ w.heap.size 57 #[.int .i64 0, .slice none 0 0] := (B0.set_ 0 (.int .i64 0)).set_ 1 (.slice none 0 0)
          refine bodyPost_ret (res_read rfl B0' rfl rfl rfl) rfl ⟨(bel1.setCell (Nat.le_refl _) _).setCell (Nat.le_refl _) _, ?_⟩
          rw [HB.out]
          exact ⟨_, _, rfl, .inl rfl⟩
        · obtain ⟨rfl, rfl, rfl⟩ := HA.out rfl
          clear HA
          generalize lN (fst r) = n at *
          generalize lM (fst r) = more at *
          generalize lT (fst r) = t at *
          by_cases hbad : 0 < (a : Int) ∧ n ≠ c
          · have HB := Lib.hid (H1.out (.inr hbad))
            obtain ⟨ha1, hnc⟩ := hbad
            have hnc1 : (n != c) = true := by simpa using hnc
            have hnc2 : (n == c) = false := by simpa using hnc
            clear H1 H2 H3 H4 HM hnc
            go_wp2
            have B0' : Blk _ w.heap.size 57 #[.int .i64 0, .slice none 0 0] := (B0.set_ 0 (.int .i64 0)).set_ 1 (.slice none 0 0)
            refine bodyPost_ret (res_read rfl B0' rfl rfl rfl) rfl ⟨(bel1.setCell (Nat.le_refl _) _).setCell (Nat.le_refl _) _, ?_⟩
            rw [HB.out]
            exact ⟨_, _, rfl, .inl rfl⟩
          · have hno : ¬ (true = false ∨ 0 < (a : Int) ∧ n ≠ c) := by rintro (h | h); cases h; exact hbad h
            have H2' := Lib.hid (H2.out hno)
            have H3' := Lib.hid (H3.out hno)
            have H4' := Lib.hid (H4.out hno)
            clear H1 H2 H3 H4 hno
            have hal : (0 : Int) ≤ (a : Int) := by omega
            have htst : (a : Int) = 0 ∨ (0 < (a : Int) ∧ n = c) := by
              by_cases h : (a : Int) = 0
              · exact .inl h
              · exact .inr ⟨by omega, by by_cases h2 : n = c; exact h2; exact absurd ⟨by omega, h2⟩ hbad⟩
            clear hbad
            go_upto_region 14 with fail
            go_cut [68] from 57 to 68 (fun t w2 => w1 = w2 ∧ t = .bool false)
            case first =>
              rcases htst with ha0 | ⟨ha1, hnc⟩
              · go_wp2
                go_meet
                exact ⟨rfl, rfl⟩
              · have hnc1 : (n != c) = false := by simpa using hnc
                have hnc2 : (n == c) = true := by simpa using hnc
                clear hnc
                go_wp2
                go_meet
                exact ⟨rfl, rfl⟩
            case rest =>
              obtain ⟨rfl, rfl⟩ := hcut
              by_cases h50 : L.length = 50
              · have HB := Lib.hid (H2'.out h50)
                have h51 : ((L.length : Int) == 50) = true := beq_iff_eq.2 (by omega)
                clear H2' H3' H4' h50
                go_wp2
                have B0' : Blk _ w.heap.size 57 #[.int .i64 0, .slice none 0 0] := (B0.set_ 0 (.int .i64 0)).set_ 1 (.slice none 0 0)
                refine bodyPost_ret (res_read rfl B0' rfl rfl rfl) rfl ⟨(bel1.setCell (Nat.le_refl _) _).setCell (Nat.le_refl _) _, ?_⟩
                rw [HB.out]
                exact ⟨_, _, rfl, .inl rfl⟩
              · have h51 : ((L.length : Int) == 50) = false := beq_eq_false_iff_ne.2 (by omega)
                have h52 : L.length ≤ 49 := by omega
                have HM' := Lib.hid (H3'.out h50)
                have HL' := Lib.hid (H4'.out h50)
                clear H2' H3' H4' h50
                have OA := (O1.far (p := ⟨w.heap.size + 1, 0, none⟩) (Nat.lt_succ_self _) (.int .i64 n)).alloc (.cells #[.string ⟨t.toArray⟩] 9)
                have B0A := (B0.far (p := ⟨w.heap.size + 1, 0, none⟩) (show w.heap.size ≠ w.heap.size + 1 by omega) (.int .i64 n)).alloc (.cells #[.string ⟨t.toArray⟩] 9)
                have B1A : Blk _ (w.heap.size + 1) 57 #[.int .i64 n, .slice A1 L.length cp1] := (B1.set_ 0 (.int .i64 n)).alloc (.cells #[.string ⟨t.toArray⟩] 9)
                have belA : Below w.heap.size w _ := (bel1.setCell (p := ⟨w.heap.size + 1, 0, none⟩) (Nat.le_succ _) (.int .i64 n)).alloc (Nat.le_trans (Nat.le_of_lt B0.lt) (by simp)) (.cells #[.string ⟨t.toArray⟩] 9)
                have OAH := Lib.hid OA
                have B0H := Lib.hid B0A
                have B1H := Lib.hid B1A
                have BLH := Lib.hid belA
                clear OA B0A B1A belA B0 B1 O1 hr1 bel1
                cases more
                all_goals
                  go_wp2_with (at_builtin; refine wpList_appOneS _ ueS _ _ rfl rfl (w.heap.size + 2) (by rfl) OAH.out w1.heap.size 1 (by rfl) ⟨t.toArray⟩ (cell_new _ _ _ (by simp)) (by omega) (by simp; omega) ?_; intro v3 w3 hown3 hbel3; obtain ⟨A3, c3, rfl, -, -, hr3⟩ := hown3.out; have HO3 := Lib.hid hown3; clear hown3; have HR3 := Lib.hid hr3; clear hr3; have B0' := B0H.out.below hbel3 (by omega); have B1' := B1H.out.below hbel3 (by omega); have q0 : w3.cell? ⟨w.heap.size, 0, none⟩ = some (.int .i64 0) := B0'.cell 0; have q1 : w3.cell? ⟨w.heap.size, 1, none⟩ = some (.slice none 0 0) := B0'.cell 1; have q2 : w3.cell? ⟨w.heap.size + 1, 0, none⟩ = some (.int .i64 n) := B1'.cell 0; have q3 : w3.cell? ⟨w.heap.size + 1, 1, none⟩ = some (.slice A1 L.length cp1) := B1'.cell 1; have g0 := B0'.frozen 0; have g1 := B0'.frozen 1; have g2 := B1'.frozen 0; have g3 := B1'.frozen 1)
                · have hL3 : (L ++ [(⟨t.toArray⟩ : ByteArray)]).length = L.length + 1 := by simp
                  have BF : Blk _ w.heap.size 57 #[.int .i64 n, .slice A3 (L.length + 1) c3] := ((B0'.far (p := ⟨w.heap.size + 1, 1, none⟩) (show w.heap.size ≠ w.heap.size + 1 by omega) (.slice A3 (L.length + 1) c3)).set_ 0 (.int .i64 n)).set_ 1 (.slice A3 (L.length + 1) c3)
                  refine bodyPost_ret (res_read rfl BF rfl rfl rfl) rfl ⟨?_, ?_⟩
                  · exact (((BLH.out.trans (hbel3.mono (by omega))).setCell (Nat.le_succ _) _).setCell (Nat.le_refl _) _).setCell (Nat.le_refl _) _
                  · rw [HL'.out (by simp)]
                    refine ⟨A3, c3, ?_, ?_⟩
                    · show _ = Ending.returned (.tuple #[.agg #[.int .i64 n, .slice A3 (L ++ [(⟨t.toArray⟩ : ByteArray)]).length c3], .int .i64 ((a : Int) + (m : Int)), .int .i64 0])
                      rw [hL3]
                      rfl
                    exact (((HO3.out.far (p := ⟨w.heap.size + 1, 1, none⟩) (Nat.lt_succ_self _) _).far (p := ⟨w.heap.size, 0, none⟩) (show w.heap.size < w.heap.size + 2 by omega) _).far (p := ⟨w.heap.size, 1, none⟩) (show w.heap.size < w.heap.size + 2 by omega) _).rs
                · go_roundg (gk - 1)
                  case rel =>
                    have hL3 : (L ++ [(⟨t.toArray⟩ : ByteArray)]).length = L.length + 1 := by simp
                    have HO4 := HO3.out
                    rw [hL3] at HO4
                    refine ⟨a + m, n, L ++ [(⟨t.toArray⟩ : ByteArray)], .slice A3 (L.length + 1) c3, by go_num, by omega, Lib.hid ⟨?_, ?_, ?_, ?_, ?_, ?_, ?_⟩⟩
                    · exact B0'.far (p := ⟨w.heap.size + 1, 1, none⟩) (show w.heap.size ≠ w.heap.size + 1 by omega) _
                    · exact B1'.set_ 1 (.slice A3 (L.length + 1) c3)
                    · exact HO4.far (p := ⟨w.heap.size + 1, 1, none⟩) (Nat.lt_succ_self _) _
                    · exact (BLH.out.trans (hbel3.mono (by omega))).setCell (Nat.le_succ _) _
                    · simp; omega
                    · omega
                    · rw [HM'.out (by simp), HM.out, Int.natCast_add]
                  case measure => omega
end Go.Proofs.YtjnjnccfojfghaaGreatDoor

/-! The walk of reply.Read; the lines of its answer lie in new memory. Conditions: the sizes, what the library's variables hold. -/
namespace Go.Proofs.YtjnjnccfojfghaaGreatDoor
open Go.RowKit Go.Sort
set_option linter.unusedVariables false

def ReadAnsN (N : Nat) (r : RR) (w' : World) (e : Ending) : Prop :=
  ∃ A cp, e = .returned (.tuple #[.agg #[.int .i64 r.c, .slice A r.L.length cp], .int .i64 r.n, .int .i64 r.e]) ∧ OwnS w' N 9 (.slice A r.L.length cp) r.L
set_option maxRecDepth 100000 in
set_option maxHeartbeats 2000000 in
theorem readN_walk (A : Option Addr) (l : List UInt8) (cp : Nat) (w : World) (h : RB w w.heap.size A l) (hl : l.length ≤ cp) (hl2 : l.length ≤ 200000000000000) (hc : cp ≤ maxLen) (TE : Errs w) :
    Calls Tryz.prog 32 #[.slice A l.length cp] w fun e w' => Below w.heap.size w w' ∧ ReadAnsN w.heap.size (readP l) w' e := by
  unfold maxLen at hc
  obtain ⟨T, hT⟩ : ∃ T, readP l = T := ⟨_, rfl⟩
  have HT := Lib.hid hT
  rw [hT]; clear hT
  go_enter Tryz.func32, Tryz.ntmps32
  go_wp2
  go_loopg [6] (l.length + 1) (fun k ia wr => ∃ (a : Nat) (c : Int) (L : List ByteArray) (v : Value), ia = .int .i64 a ∧ a ≤ l.length ∧ Hid (RdRel w wr l T k a c L v))
  case atStart =>
    refine ⟨0, 0, [], .slice none 0 0, rfl, by omega, Lib.hid ⟨(Blk.new w _ _).alloc _, ?_, OwnS.nil _ _ _, ((Below.refl _ _).alloc (Nat.le_refl _) _).alloc (by simp) _, by simp, by omega, by rw [List.drop_zero]; exact HT.out⟩⟩
    have := Blk.new (w.alloc (.cells #[.int .i64 0, .slice none 0 0] 57)) 57 #[.int .i64 0, .slice none 0 0]
    simpa using this
  case round =>
    obtain ⟨a, c, L, v, rfl, ha, HR⟩ := hrel
    obtain ⟨r, hr⟩ : ∃ r, l.drop a = r := ⟨_, rfl⟩
    have hrl : r.length = l.length - a := by rw [← hr, List.length_drop]
    have HRL := Lib.hid hrl; clear hrl
    have hg : 0 < gk := by have := HR.out.fuel; omega
    have ha2 : (a : Int) ≤ (l.length : Int) := by omega
    have ha3 : (a : Int) ≤ (cp : Int) := by omega
    have hrr := h.below HR.out.bel
    have B0 := HR.out.b0
    have k0 : wr.cell? ⟨w.heap.size, 0, none⟩ = some (.int .i64 0) := B0.cell 0
    have k1 : wr.cell? ⟨w.heap.size, 1, none⟩ = some (.slice none 0 0) := B0.cell 1
    have f0 := B0.frozen 0
    have f1 := B0.frozen 1
    have bel0 := HR.out.bel
    by_cases hend : a = l.length
    · -- nothing is left
      have hr0 : r = [] := by rw [← hr, hend, List.drop_length]
      have he : eol r < 0 := by rw [hr0]; decide
      have HB : Hid (T = bad (short r)) := Lib.hid (HR.out.eq.symm.trans ((congrArg (fun z => rd gk z a c L) hr).trans (rd_short hg he)))
      have hcw := Lib.hid (fun A' cp' (hz : cp' ≤ maxLen) => cutR_walk (B := w.heap.size) A' [] cp' wr (.inl rfl) (by simp) hz)
      rw [show cutS [] = [] from by decide, show cutE [] = 140 from by decide] at hcw
      have hsr : short r = 140 := by rw [hr0]; decide
      rw [hsr] at HB
      have HL : Hid (l.length - a = 0) := Lib.hid (by omega)
      have HEND := Lib.hid hend
      clear hr hr0 he hsr HR HRL h hrr HT hend
      by_cases hca : cp = a
      · rcases A with _ | ⟨ab, ao, asp⟩
        all_goals
          go_wp2_with fail
          rw [HL.out]
          refine (hcw.out _ _ (by unfold maxLen; omega)).mono ?_
          rintro e w1 ⟨rfl, rfl⟩
          go_wp2
          have B0' : Blk _ w.heap.size 57 #[.int .i64 0, .slice none 0 0] := (B0.set_ 0 (.int .i64 0)).set_ 1 (.slice none 0 0)
          refine bodyPost_ret (res_read rfl B0' rfl rfl rfl) rfl ⟨(bel0.setCell (Nat.le_refl _) _).setCell (Nat.le_refl _) _, ?_⟩
          rw [HB.out]
          exact ⟨_, _, rfl, OwnS.nil _ _ _⟩
      · rcases A with _ | ⟨ab, ao, asp⟩
        all_goals
          go_wp2_with fail
          rw [HL.out]
          refine (hcw.out _ _ (by unfold maxLen; omega)).mono ?_
          rintro e w1 ⟨rfl, rfl⟩
          go_wp2
          have B0' : Blk _ w.heap.size 57 #[.int .i64 0, .slice none 0 0] := (B0.set_ 0 (.int .i64 0)).set_ 1 (.slice none 0 0)
          refine bodyPost_ret (res_read rfl B0' rfl rfl rfl) rfl ⟨(bel0.setCell (Nat.le_refl _) _).setCell (Nat.le_refl _) _, ?_⟩
          rw [HB.out]
          exact ⟨_, _, rfl, OwnS.nil _ _ _⟩
    · have halt : a < l.length := by omega
      have hca : ¬ cp = a := by omega
      obtain ⟨b, off, rfl, hB, hcell⟩ := hrr.at_ halt
      have hx := RB.sub hB hcell a (l.length - a) (by omega)
      rw [List.take_of_length_le (by simp), hr] at hx
      have hcw := cutR_walk _ r (cp - a) wr hx (by have := HRL.out; omega) (by unfold maxLen; omega)
      rw [HRL.out] at hcw
      by_cases he : eol r < 0
      · have HB : Hid (T = bad (short r)) := Lib.hid (HR.out.eq.symm.trans ((congrArg (fun z => rd gk z a c L) hr).trans (rd_short hg he)))
        have hs : cutS r = [] := by unfold cutS; rw [if_pos he]
        have hE : cutE r = short r := by unfold cutE; rw [if_pos he]
        have hne : (short r == 0) = false ∧ (short r != 0) = true := by unfold short; split <;> decide
        rw [hs, hE] at hcw
        obtain ⟨hne1, hne2⟩ := hne
        have HCW := Lib.hid hcw
        clear hr HR HRL h hrr HT hend hcell hx hcw he hs hE
        generalize short r = sr at *
        go_wp2_with fail
        refine HCW.out.mono ?_
        rintro e w1 ⟨rfl, rfl⟩
        go_wp2
        have B0' : Blk _ w.heap.size 57 #[.int .i64 0, .slice none 0 0] := (B0.set_ 0 (.int .i64 0)).set_ 1 (.slice none 0 0)
        refine bodyPost_ret (res_read rfl B0' rfl rfl rfl) rfl ⟨(bel0.setCell (Nat.le_refl _) _).setCell (Nat.le_refl _) _, ?_⟩
        rw [HB.out]
        exact ⟨_, _, rfl, OwnS.nil _ _ _⟩
      · have hs : cutS r = fst r := by unfold cutS; rw [if_neg he]; rfl
        have hE : cutE r = 0 := by unfold cutE; rw [if_neg he]
        rw [hs, hE] at hcw
        have HCW := Lib.hid hcw
        have hfl := fst_len he
        have hm : (fst r).length ≤ l.length - a := by have := (eol_at he).2.1; have := HRL.out; omega
        have hm5 : (fst r).length ≤ 512 := by have := (eol_at he).1; omega
        have hm1 : 1 ≤ (fst r).length := by omega
        have HLW := Lib.hid (fun w' T' => line_walk (fst r) w' (by omega) T')
        have HM : Hid (r.drop (fst r).length = l.drop (a + (fst r).length)) := Lib.hid (by rw [← hr, List.drop_drop])
        have H1 := Lib.hid (fun h => HR.out.eq.symm.trans ((congrArg (fun z => rd gk z a c L) hr).trans (rd_form hg he h)))
        have H2 := Lib.hid (fun h h5 => HR.out.eq.symm.trans ((congrArg (fun z => rd gk z a c L) hr).trans (rd_long hg he h h5)))
        have H3 := Lib.hid (fun h h5 h6 => HR.out.eq.symm.trans ((congrArg (fun z => rd gk z a c L) hr).trans (rd_more hg he h h5 h6)))
        have H4 := Lib.hid (fun h h5 h6 => HR.out.eq.symm.trans ((congrArg (fun z => rd gk z a c L) hr).trans (rd_last hg he h h5 h6)))
        rw [← hfl] at H3 H4
        have TE1 := TE.keep bel0
        have b1 := HR.out.b1
        have own1 := HR.out.own
        have len1 := HR.out.len
        have fu1 := HR.out.fuel
        clear hr HR HRL h hrr HT hend hcell hx hcw he hs hE hfl
        generalize hX : fst r = x at *
        clear hX
        have h6 : (a : Int) + (x.length : Int) ≤ (l.length : Int) := by omega
        have h8 : (x.length : Int) ≤ 512 := by omega
        go_wp2_with fail
        refine HCW.out.mono ?_
        rintro e w1 ⟨rfl, rfl⟩
        go_wp2_with fail
        refine (HLW.out _ TE1).mono ?_
        rintro e w1 ⟨hb1, n, t, more, rfl, hans⟩
        have B0n := B0.keep hb1
        have B1n := b1.keep hb1
        have O1 := own1.below hb1
        have bel1 := bel0.trans (hb1.mono bel0.size)
        have hs1 := hb1.size
        have hs0 : w.heap.size + 2 ≤ wr.heap.size := by have := b1.lt; omega
        clear hb1 HCW HLW B0 b1 own1 TE1 k0 k1 f0 f1
        obtain ⟨A1, cp1, rfl, -, -, hr1⟩ := O1.out
        have k0 : w1.cell? ⟨w.heap.size, 0, none⟩ = some (.int .i64 0) := B0n.cell 0
        have k1 : w1.cell? ⟨w.heap.size, 1, none⟩ = some (.slice none 0 0) := B0n.cell 1
        have k2 : w1.cell? ⟨w.heap.size + 1, 0, none⟩ = some (.int .i64 c) := B1n.cell 0
        have k3 : w1.cell? ⟨w.heap.size + 1, 1, none⟩ = some (.slice A1 L.length cp1) := B1n.cell 1
        have f0 := B0n.frozen 0
        have f1 := B0n.frozen 1
        have f2 := B1n.frozen 0
        have f3 := B1n.frozen 1
        generalize lOk x = ok at *
        have HA := Lib.hid hans
        clear hans bel0
        cases ok
        · have HB := Lib.hid (H1.out (.inl rfl))
          clear H1 H2 H3 H4 HM
          go_wp2
          have B0' : Blk _ w.heap.size 57 #[.int .i64 0, .slice none 0 0] := (B0n.set_ 0 (.int .i64 0)).set_ 1 (.slice none 0 0)
          refine bodyPost_ret (res_read rfl B0' rfl rfl rfl) rfl ⟨(bel1.setCell (Nat.le_refl _) _).setCell (Nat.le_refl _) _, ?_⟩
          rw [HB.out]
          exact ⟨_, _, rfl, OwnS.nil _ _ _⟩
        · obtain ⟨rfl, rfl, rfl⟩ := HA.out rfl
          clear HA
          generalize lN x = n at *
          generalize lM x = more at *
          generalize lT x = t at *
          by_cases hbad : 0 < (a : Int) ∧ n ≠ c
          · have HB := Lib.hid (H1.out (.inr hbad))
            obtain ⟨ha1, hnc⟩ := hbad
            have hnc1 : (n != c) = true := by simpa using hnc
            have hnc2 : (n == c) = false := by simpa using hnc
            clear H1 H2 H3 H4 HM hnc
            go_wp2
            have B0' : Blk _ w.heap.size 57 #[.int .i64 0, .slice none 0 0] := (B0n.set_ 0 (.int .i64 0)).set_ 1 (.slice none 0 0)
            refine bodyPost_ret (res_read rfl B0' rfl rfl rfl) rfl ⟨(bel1.setCell (Nat.le_refl _) _).setCell (Nat.le_refl _) _, ?_⟩
            rw [HB.out]
            exact ⟨_, _, rfl, OwnS.nil _ _ _⟩
          · have hno : ¬ (true = false ∨ 0 < (a : Int) ∧ n ≠ c) := by rintro (h | h); cases h; exact hbad h
            have H2' := Lib.hid (H2.out hno)
            have H3' := Lib.hid (H3.out hno)
            have H4' := Lib.hid (H4.out hno)
            clear H1 H2 H3 H4 hno
            have hal : (0 : Int) ≤ (a : Int) := by omega
            have htst : (a : Int) = 0 ∨ (0 < (a : Int) ∧ n = c) := by
              by_cases h : (a : Int) = 0
              · exact .inl h
              · exact .inr ⟨by omega, by by_cases h2 : n = c; exact h2; exact absurd ⟨by omega, h2⟩ hbad⟩
            clear hbad
            go_upto_region 7 with fail
            go_cut [31] from 32 to 43 (fun t w2 => w1 = w2 ∧ t = .bool false)
            case first =>
              rcases htst with ha0 | ⟨ha1, hnc⟩
              · go_wp2
                go_meet
                exact ⟨rfl, rfl⟩
              · have hnc1 : (n != c) = false := by simpa using hnc
                have hnc2 : (n == c) = true := by simpa using hnc
                clear hnc
                go_wp2
                go_meet
                exact ⟨rfl, rfl⟩
            case rest =>
              obtain ⟨rfl, rfl⟩ := hcut
              by_cases h50 : L.length = 50
              · have HB := Lib.hid (H2'.out h50)
                have h51 : ((L.length : Int) == 50) = true := beq_iff_eq.2 (by omega)
                clear H2' H3' H4' h50
                go_wp2
                have B0' : Blk _ w.heap.size 57 #[.int .i64 0, .slice none 0 0] := (B0n.set_ 0 (.int .i64 0)).set_ 1 (.slice none 0 0)
                refine bodyPost_ret (res_read rfl B0' rfl rfl rfl) rfl ⟨(bel1.setCell (Nat.le_refl _) _).setCell (Nat.le_refl _) _, ?_⟩
                rw [HB.out]
                exact ⟨_, _, rfl, OwnS.nil _ _ _⟩
              · have h51 : ((L.length : Int) == 50) = false := beq_eq_false_iff_ne.2 (by omega)
                have h52 : L.length ≤ 49 := by omega
                have HM' := Lib.hid (H3'.out h50)
                have HL' := Lib.hid (H4'.out h50)
                clear H2' H3' H4' h50
                have OAH := Lib.hid (O1.alloc (.cells #[.string ⟨t.toArray⟩] 9))
                have B0H := Lib.hid (B0n.alloc (.cells #[.string ⟨t.toArray⟩] 9))
                have B1H := Lib.hid (B1n.alloc (.cells #[.string ⟨t.toArray⟩] 9))
                have BLH := Lib.hid (bel1.alloc (Nat.le_of_lt B0n.lt) (.cells #[.string ⟨t.toArray⟩] 9))
                clear B0n B1n O1 hr1 bel1
                cases more
                all_goals
                  go_wp2_with (at_builtin; refine wpList_appOneS _ ueS _ _ rfl rfl (w.heap.size + 2) (by rfl) OAH.out w1.heap.size 1 (by rfl) ⟨t.toArray⟩ (cell_new _ _ _ (by simp)) (by omega) (by simp; omega) ?_; intro v3 w3 hown3 hbel3; obtain ⟨A3, c3, rfl, -, -, hr3⟩ := hown3.out; have HO3 := Lib.hid hown3; clear hown3; have HR3 := Lib.hid hr3; clear hr3; have B0' := B0H.out.below hbel3 (by omega); have B1' := B1H.out.below hbel3 (by omega); have q0 : w3.cell? ⟨w.heap.size, 0, none⟩ = some (.int .i64 0) := B0'.cell 0; have q1 : w3.cell? ⟨w.heap.size, 1, none⟩ = some (.slice none 0 0) := B0'.cell 1; have q2 : w3.cell? ⟨w.heap.size + 1, 0, none⟩ = some (.int .i64 c) := B1'.cell 0; have q3 : w3.cell? ⟨w.heap.size + 1, 1, none⟩ = some (.slice A1 L.length cp1) := B1'.cell 1; have g0 := B0'.frozen 0; have g1 := B0'.frozen 1; have g2 := B1'.frozen 0; have g3 := B1'.frozen 1)
                · have hL3 : (L ++ [(⟨t.toArray⟩ : ByteArray)]).length = L.length + 1 := by simp
                  have BF : Blk _ w.heap.size 57 #[.int .i64 n, .slice A3 (L.length + 1) c3] := (((B0'.far (p := ⟨w.heap.size + 1, 0, none⟩) (show w.heap.size ≠ w.heap.size + 1 by omega) (.int .i64 n)).far (p := ⟨w.heap.size + 1, 1, none⟩) (show w.heap.size ≠ w.heap.size + 1 by omega) (.slice A3 (L.length + 1) c3)).set_ 0 (.int .i64 n)).set_ 1 (.slice A3 (L.length + 1) c3)
                  refine bodyPost_ret (res_read rfl BF rfl rfl rfl) rfl ⟨?_, ?_⟩
                  · exact ((((BLH.out.trans (hbel3.mono (by omega))).setCell (Nat.le_succ _) _).setCell (Nat.le_succ _) _).setCell (Nat.le_refl _) _).setCell (Nat.le_refl _) _
                  · rw [HL'.out (by simp)]
                    refine ⟨A3, c3, ?_, ?_⟩
                    · show _ = Ending.returned (.tuple #[.agg #[.int .i64 n, .slice A3 (L ++ [(⟨t.toArray⟩ : ByteArray)]).length c3], .int .i64 ((a : Int) + (x.length : Int)), .int .i64 0])
                      rw [hL3]
                      rfl
                    · rw [hL3]
                      have HX := ((((HO3.out.far (p := ⟨w.heap.size + 1, 0, none⟩) (Nat.lt_succ_self _) (.int .i64 n)).far (p := ⟨w.heap.size + 1, 1, none⟩) (Nat.lt_succ_self _) (.slice A3 (L.length + 1) c3)).far (p := ⟨w.heap.size, 0, none⟩) (show w.heap.size < w.heap.size + 2 by omega) (.int .i64 n)).far (p := ⟨w.heap.size, 1, none⟩) (show w.heap.size < w.heap.size + 2 by omega) (.slice A3 (L.length + 1) c3))
                      have HY := OwnS.mono HX (Nat.le_add_right w.heap.size 2)
                      rw [hL3] at HY
                      exact HY
                · go_roundg (gk - 1)
                  case rel =>
                    have hL3 : (L ++ [(⟨t.toArray⟩ : ByteArray)]).length = L.length + 1 := by simp
                    have HO4 := HO3.out
                    rw [hL3] at HO4
                    refine ⟨a + x.length, n, L ++ [(⟨t.toArray⟩ : ByteArray)], .slice A3 (L.length + 1) c3, by go_num, by omega, Lib.hid ⟨?_, ?_, ?_, ?_, ?_, ?_, ?_⟩⟩
                    · exact (B0'.far (p := ⟨w.heap.size + 1, 0, none⟩) (show w.heap.size ≠ w.heap.size + 1 by omega) _).far (p := ⟨w.heap.size + 1, 1, none⟩) (show w.heap.size ≠ w.heap.size + 1 by omega) _
                    · exact (B1'.set_ 0 (.int .i64 n)).set_ 1 (.slice A3 (L.length + 1) c3)
                    · exact (HO4.far (p := ⟨w.heap.size + 1, 0, none⟩) (Nat.lt_succ_self _) _).far (p := ⟨w.heap.size + 1, 1, none⟩) (Nat.lt_succ_self _) _
                    · exact ((BLH.out.trans (hbel3.mono (by omega))).setCell (Nat.le_succ _) _).setCell (Nat.le_succ _) _
                    · simp; omega
                    · omega
                    · rw [HM'.out (by simp), HM.out, Int.natCast_add]
                  case measure => omega
end Go.Proofs.YtjnjnccfojfghaaGreatDoor
