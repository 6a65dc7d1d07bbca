/-
  The walk of date's Parse. Conditions: the text's length, and what the library's tables hold.
-/
import Derived.Test.YtdkhoiahmjadnaaGreatDoorParse0
import Derived.Deep.RegionHeld3
namespace Go.Proofs.YtdkhoiahmjadnaaGreatDoor
open Go.RowKit Go.Sort
set_option linter.unusedVariables false

theorem RS.tail {w : World} {B b off : Nat} {x : ByteArray} {r : List ByteArray} (hb : b < B) (hc : ∀ i, i < (x :: r).length → w.cell? ⟨b, off + i, none⟩ = some (.string (st (x :: r) i))) : RS w B (some ⟨b, off + 1, none⟩) r := by
  refine .inr ⟨b, off + 1, rfl, hb, fun i hi => ?_⟩
  have := hc (i + 1) (by simp; omega)
  rw [show off + (i + 1) = off + 1 + i by omega] at this
  exact this
theorem five_words {L : List ByteArray} (h : L.length = 5) : ∃ a b c d e, L = [a, b, c, d, e] := by
  match L, h with
  | [a, b, c, d, e], _ => exact ⟨a, b, c, d, e, rfl⟩
theorem tm7b (x : Int) : x.tmod 7 % 7 = x % 7 := by
  rcases Int.lt_or_le x 0 with h | h
  · obtain ⟨y, rfl⟩ : ∃ y, x = -y := ⟨-x, by omega⟩
    rw [Int.neg_tmod, Int.tmod_eq_emod_of_nonneg (show 0 ≤ y by omega)]
    omega
  · rw [Int.tmod_eq_emod_of_nonneg h]
    omega
theorem blk_rs {w : World} {k : Nat} {L : List ByteArray} (h : Blk w k 9 (L.map Value.string).toArray) : RS w w.heap.size (some ⟨k, 0, none⟩) L := by
  refine .inr ⟨k, 0, rfl, h.lt, fun i hi => ?_⟩
  rw [Nat.zero_add, h.cell i]
  simp [st_getElem hi, hi]
theorem fields_walk (s : ByteArray) (hs : s.size ≤ 4294967296) (w : World) :
    Calls Tryz.prog 31 #[.string s, .func (.func 32) #[] #[]] w fun e w' => Below w.heap.size w w' ∧ ∃ A, e = .returned (.slice A (Lib.goFieldsP isSp s).length (Lib.goFieldsP isSp s).length) ∧ RS w' w'.heap.size A (Lib.goFieldsP isSp s) := by
  refine (Tryz.strings_FieldsFunc_runes 32 #[] (enters_of Tryz.func32 (by kernel_rfl) rfl) isSp s w hs (sp_pred w)).mono ?_
  rintro e w2 ⟨A, rfl, hA, hrow, hb⟩
  have ho : OwnS w2 w.heap.size 9 (.slice (some ⟨A, 0, none⟩) (Lib.goFieldsP isSp s).length (Lib.goFieldsP isSp s).length) (Lib.goFieldsP isSp s) := hrow
  exact ⟨hb, _, rfl, ho.get.1⟩
theorem dnam_walk (s : ByteArray) (hs : s.size < 35184372088832) (w : World) (T : TabsD w) (k : Nat) (hB : Blk w k 9 dayC) :
    Calls Tryz.prog 34 #[.slice (some ⟨k, 0, none⟩) 7 7, .string s] w fun e w' => Below w.heap.size w w' ∧ e = .returned (.int .i64 (namP dayB s)) :=
  named_walk dayB 7 (some ⟨k, 0, none⟩) s w (by decide) (blk_rs hB) hs T
theorem mnam_walk (s : ByteArray) (hs : s.size < 35184372088832) (w : World) (T : TabsD w) (k : Nat) (hB : Blk w k 9 monC) :
    Calls Tryz.prog 34 #[.slice (some ⟨k, 0, none⟩) 12 12, .string s] w fun e w' => Below w.heap.size w w' ∧ e = .returned (.int .i64 (namP monB s)) :=
  named_walk monB 12 (some ⟨k, 0, none⟩) s w (by decide) (blk_rs hB) hs T
set_option maxRecDepth 100000 in
set_option maxHeartbeats 4000000 in
theorem parse_walk (s : ByteArray) (w : World) (T : TabsD w) (hs : s.size < 4294967281) :
    Calls Tryz.prog 16 #[.string s] w fun e w' => Below w.heap.size w w' ∧ e = .returned (.tuple #[.int .i64 (parseP s).1, .int .i64 (parseP s).2]) := by
  have HFW := Lib.hid (fields_walk s (by omega) w)
  have hF : parseP s = parseW (Lib.goFieldsP isSp s) := rfl
  have hsz : ∀ x ∈ Lib.goFieldsP isSp s, x.size < 4294967281 := fun x hx => Nat.lt_of_le_of_lt (words_sz _ _ x hx) hs
  generalize parseP s = F at *
  generalize Lib.goFieldsP isSp s = L at *
  have TT : Hid (∀ w', Below w.heap.size w w' → TabsD w') := Lib.hid fun w' hb => T.keep hb
  clear T
  go_enter Tryz.func16, Tryz.ntmps16
  go_wp2_with fail
  refine HFW.out.mono ?_
  rintro e w2 ⟨hb2, A, rfl, hrs⟩
  clear HFW
  obtain ⟨n, hn⟩ : ∃ n, L.length = n := ⟨_, rfl⟩
  rw [hn]
  have HN := Lib.hid hn
  clear hn
  have HB2 := Lib.hid hb2
  have HSZ := Lib.hid hsz
  have HF := Lib.hid hF
  have HRS := Lib.hid hrs
  clear hb2 hsz hF hrs
  go_upto_if 20 with (fail)
  go_cut [4, 5] from 20 to 35 (fun x y wr => Below w.heap.size w wr ∧ ∃ A c L' nm, x = .slice A (L' : List ByteArray).length c ∧ y = .int .i64 nm ∧ RS wr wr.heap.size A L' ∧ F = parseN nm L' ∧ -1 ≤ nm ∧ nm ≤ 6 ∧ ∀ x ∈ L', x.size < 4294967281)
  case first =>
    cases L with
    | nil =>
      have hn : ¬ (0 : Int) < (n : Int) := by rw [← HN.out]; simp
      go_wp2
      go_meet
      exact ⟨HB2.out, A, n, [], -1, by rw [HN.out], rfl, HRS.out, HF.out, by omega, by omega, HSZ.out⟩
    | cons x r =>
      obtain ⟨b, off, rfl, hB, hcell⟩ := HRS.out.at_ (j := 0) (by simp)
      have cj : w2.cell? ⟨b, off, none⟩ = some (.string x) := hcell 0 (by simp)
      have hxs := HSZ.out x (by simp)
      have HRT : Hid (RS w2 w2.heap.size (some ⟨b, off + 1, none⟩) r) := Lib.hid (RS.tail hB hcell)
      have hcx := Nat.lt_of_le_of_lt (cutB_sz x) hxs
      have HCS : Hid (Calls Tryz.prog 33 #[.string x, .string ⟨#[44]⟩] w2 fun e w' => e = .returned (.tuple #[.string (cutB x), .bool (Lib.hasSuffix x.data.toList [44])]) ∧ w' = w2) := Lib.hid (Tryz.strings_CutSuffix x ⟨#[44]⟩ w2 (by omega))
      have HNA := Lib.hid (fun w' T' k hB => dnam_walk (cutB x) (by omega) w' T' k hB)
      have hrn : -1 ≤ namP dayB (cutB x) ∧ namP dayB (cutB x) ≤ 6 := by
        rcases namP_rng dayB (cutB x) with h | h
        · exact ⟨h.1, h.2⟩
        · rw [h]; omega
      have HF2 : Hid (F = if Lib.hasSuffix x.data.toList [44] = true then (if namP dayB (cutB x) < 0 then (0, 130) else parseN (namP dayB (cutB x)) r) else parseN (-1) (x :: r)) := HF
      have hn0 : (0 : Int) < (n : Int) := by rw [← HN.out]; simp
      have hn1 : (1 : Int) ≤ (n : Int) := by omega
      have hn2 : 1 ≤ n := by omega
      have hn3 : 0 < n := by omega
      clear hcell HF hcx hxs
      generalize Lib.hasSuffix x.data.toList [44] = sb at *
      generalize namP dayB (cutB x) = nm at *
      generalize cutB x = cx at *
      obtain ⟨hm0, hm1⟩ := hrn
      cases sb
      · go_wp2_with fail
        refine HCS.out.mono ?_
        rintro e w3 ⟨rfl, rfl⟩
        go_wp2
        go_meet
        exact ⟨HB2.out, _, n, x :: r, -1, by rw [HN.out], rfl, HRS.out, HF2.out, by omega, by omega, HSZ.out⟩
      · go_wp2_with fail
        refine HCS.out.mono ?_
        rintro e w3 ⟨rfl, rfl⟩
        go_wp2_with fail
        refine (days_walk w3 (TT.out _ HB2.out)).mono ?_
        rintro e w4 ⟨hb4, rfl, hbk⟩
        have HB4 := Lib.hid (HB2.out.trans (hb4.mono HB2.out.size))
        have HB4' := Lib.hid hb4
        have HBK := Lib.hid hbk
        clear hb4 hbk
        go_wp2_with fail
        refine (HNA.out w4 (TT.out _ HB4.out) _ HBK.out).mono ?_
        rintro e w5 ⟨hb5, rfl⟩
        have HB5 := Lib.hid (HB4.out.trans (hb5.mono HB4.out.size))
        have HRT5 : Hid (RS w5 w5.heap.size (some ⟨b, off + 1, none⟩) r) := Lib.hid (((HRT.out.below HB4'.out).below (hb5.mono HB4'.out.size)).mono (Nat.le_trans HB4'.out.size hb5.size))
        clear hb5
        by_cases hnm : nm < 0
        · have he : Hid (F = (0, 130)) := Lib.hid (by rw [HF2.out, if_pos trivial, if_pos hnm])
          go_wp2
          go_ret2
          exact ⟨HB5.out, by rw [he.out]; rfl⟩
        · have he : Hid (F = parseN nm r) := Lib.hid (by rw [HF2.out, if_pos trivial, if_neg hnm])
          have hnr := HN.out
          rw [List.length_cons] at hnr
          by_cases h1 : n = 1
          · have hr0 : r = [] := List.eq_nil_of_length_eq_zero (by omega)
            subst hr0
            have HNR := Lib.hid h1
            clear hnr
            subst h1
            go_wp2
            go_meet
            exact ⟨HB5.out, _, _, [], nm, rfl, rfl, .inl rfl, he.out, by omega, by omega, fun y hy => HSZ.out y (by simp [hy])⟩
          · have h2 : 1 < n := by omega
            have HNR : Hid (n - 1 = r.length) := Lib.hid (by omega)
            have h3 : ¬ n - 1 = 0 := by omega
            clear hnr
            go_wp2
            go_meet
            rw [HNR.out]
            exact ⟨HB5.out, _, _, r, nm, rfl, rfl, HRT5.out, he.out, by omega, by omega, fun y hy => HSZ.out y (by simp [hy])⟩
  case rest =>
    obtain ⟨hbc, A, c, L', nm, rfl, rfl, hrs, hFn, hnm0, hnm1, hsz⟩ := hcut
    clear HF HRS HSZ HN HB2
    have HBC := Lib.hid hbc
    have HFN := Lib.hid hFn
    have HSZ := Lib.hid hsz
    have HRS := Lib.hid hrs
    clear hbc hFn hsz hrs
    generalize hwc : wc = w6 at *
    clear hwc
    by_cases h5 : L'.length = 5
    · obtain ⟨wa, wb, wd, we, wf, rfl⟩ := five_words h5
      obtain ⟨b, off, rfl, hB, hcell⟩ := HRS.out.at_ (j := 0) (by simp)
      have K : Hid (∀ w', Below w6.heap.size w6 w' → (w'.cell? ⟨b, off, none⟩ = some (.string wa) ∧ w'.cell? ⟨b, off + 1, none⟩ = some (.string wb) ∧ w'.cell? ⟨b, off + 2, none⟩ = some (.string wd)) ∧ w'.cell? ⟨b, off + 3, none⟩ = some (.string we) ∧ w'.cell? ⟨b, off + 4, none⟩ = some (.string wf)) :=
        Lib.hid fun w' hb => ⟨⟨(hb.cell hB).trans (hcell 0 (by simp)), (hb.cell hB).trans (hcell 1 (by simp)), (hb.cell hB).trans (hcell 2 (by simp))⟩, (hb.cell hB).trans (hcell 3 (by simp)), (hb.cell hB).trans (hcell 4 (by simp))⟩
      have sa := HSZ.out wa (by simp)
      have sb := HSZ.out wb (by simp)
      have sd := HSZ.out wd (by simp)
      have se := HSZ.out we (by simp)
      have sf := HSZ.out wf (by simp)
      have HFN2 : Hid (F = parseG nm (numP wa.data.toList 1 2 31) (namP monB wb + 1) (numP wd.data.toList 4 4 9999) (clockP we) (zoneP wf).1 (zoneP wf).2) := HFN
      have HNUM : Hid (∀ (x : ByteArray) (lo hi bd : Int), (x.size < 4294967281 ∧ 1 ≤ lo ∧ hi ≤ 4 ∧ -1 ≤ bd ∧ bd ≤ 100000) → ∀ w', Calls Tryz.prog 35 #[.string x, .int .i64 lo, .int .i64 hi, .int .i64 bd] w' fun e w2 => Below w'.heap.size w' w2 ∧ e = .returned (.int .i64 (numP x.data.toList lo hi bd))) :=
        Lib.hid fun x lo hi bd h w' => number_walk x lo hi bd h.2.1 h.2.2.1 h.2.2.2.1 h.2.2.2.2 w' (by omega)
      have HMO := Lib.hid (fun w' T' => months_walk w' T')
      have HMN := Lib.hid (fun w' T' k hB => mnam_walk wb (by omega) w' T' k hB)
      have hmr : -1 ≤ namP monB wb ∧ namP monB wb ≤ 11 := by
        rcases namP_rng monB wb with h | h
        · exact ⟨h.1, h.2⟩
        · rw [h]; omega
      have HCL := Lib.hid (fun w' T' => clock_walk we w' T' se)
      have hcr := clockP_rng we
      have HZO := Lib.hid (fun w' T' => zone_walk wf w' T' (by omega))
      have hzr := zoneP_rng wf
      clear hcell HFN HRS HSZ hB h5
      generalize namP monB wb = mv at *
      generalize clockP we = tt at *
      generalize zoneP wf = zz at *
      obtain ⟨z, zb⟩ := zz
      simp only [] at hzr
      change Hid (F = parseG nm (numP wa.data.toList 1 2 31) (mv + 1) (numP wd.data.toList 4 4 9999) tt z zb) at HFN2
      obtain ⟨hm0, hm1⟩ := hmr
      obtain ⟨hc0, hc1⟩ := hcr
      obtain ⟨hz0, hz1⟩ := hzr
      have emv : IntKind.i64.wrap (mv + 1) = mv + 1 := IntWalk.i64_in _ (by omega)
      have R := Lib.hid (Below.refl w6.heap.size w6)
      go_upto_region 12 with fail
      go_cut [8, 9, 10] from 39 to 52 (fun x y v wr => Below w6.heap.size w6 wr ∧ x = .int .i64 (numP wa.data.toList 1 2 31) ∧ y = .int .i64 (mv + 1) ∧ v = .int .i64 (numP wd.data.toList 4 4 9999))
      case first =>
        clear HFN2 HCL HZO
        go_region_held3 (fun w' => w'.cell? ⟨b, off, none⟩ = some (.string wa) ∧ w'.cell? ⟨b, off + 1, none⟩ = some (.string wb) ∧ w'.cell? ⟨b, off + 2, none⟩ = some (.string wd)) (first | exact (K.out _ R.out).1 | exact (K.out _ (bdrewZ R.out)).1) (first
          | (go_at_call 35; refine (HNUM.out _ _ _ _ (by omega) _).mono ?_; rintro e wn ⟨hbn, rfl⟩; have R : Hid (Below w6.heap.size w6 wn) := Lib.hid (by first | exact R.out.trans (hbn.mono R.out.size) | exact (bdrewZ R.out).trans (hbn.mono (bdrewZ R.out).size)); clear hbn)
          | (go_at_call 23; refine (HMO.out _ (TT.out _ (HBC.out.trans (R.out.mono HBC.out.size)))).mono ?_; rintro e wn ⟨hbn, rfl, hbk⟩; have HBK := Lib.hid hbk; have R : Hid (Below w6.heap.size w6 wn) := Lib.hid (R.out.trans (hbn.mono R.out.size)); clear hbn hbk)
          | (go_at_call 34; refine (HMN.out _ (TT.out _ (HBC.out.trans (R.out.mono HBC.out.size))) _ HBK.out).mono ?_; rintro e wn ⟨hbn, rfl⟩; have R : Hid (Below w6.heap.size w6 wn) := Lib.hid (R.out.trans (hbn.mono R.out.size)); clear hbn))
        all_goals
          go_wp2
          go_meet
          exact ⟨R.out, rfl, rfl, rfl⟩
      case rest =>
        obtain ⟨hbd, rfl, rfl, rfl⟩ := hcut
        have hdr := numP_rng wa.data.toList 1 2 31 (by omega)
        have hyr := numP_rng wd.data.toList 4 4 9999 (by omega)
        clear HNUM HMN HMO
        generalize numP wa.data.toList 1 2 31 = dd at *
        generalize numP wd.data.toList 4 4 9999 = yy at *
        obtain ⟨hd0, hd1⟩ := hdr
        obtain ⟨hy0, hy1⟩ := hyr
        have hb7 := HBC.out.trans (hbd.mono HBC.out.size)
        obtain ⟨-, k3, k4⟩ := K.out _ hbd
        have HBD := Lib.hid hbd
        have HB7 := Lib.hid hb7
        clear hbd hb7 R
        go_wp2_with fail
        refine (HCL.out _ (TT.out _ HB7.out)).mono ?_
        rintro e w7 ⟨hb7, rfl⟩
        obtain ⟨-, -, k5⟩ := K.out w7 (HBD.out.trans (hb7.mono HBD.out.size))
        have HB77 := Lib.hid (HB7.out.trans (hb7.mono HB7.out.size))
        clear hb7
        go_wp2_with fail
        refine (HZO.out _ (TT.out _ HB77.out)).mono ?_
        rintro e w8 ⟨hb8, rfl⟩
        have HB8 := Lib.hid (HB77.out.trans (hb8.mono HB77.out.size))
        clear hb8 HB77 HB7 HBD K TT HCL HZO HBC k3 k4 k5
        have HF3 : Hid (F = if dd < 1 ∨ mv + 1 < 1 ∨ yy < 0 ∨ tt < 0 ∨ zb = false ∨ md yy (mv + 1) < dd then (0, 130) else
          if (0 ≤ nm ∧ nm ≠ (dn yy (mv + 1) dd - 719468 + 4) % 7) ∨ (dn yy (mv + 1) dd - 719468) * 86400 + tt - z < 0 ∨ 253402300799 < (dn yy (mv + 1) dd - 719468) * 86400 + tt - z then (0, 130) else
          ((dn yy (mv + 1) dd - 719468) * 86400 + tt - z, 0)) := HFN2
        clear HFN2
        by_cases h1 : dd < 1
        · have he : Hid (F = (0, 130)) := Lib.hid (by rw [HF3.out]; exact if_pos (.inl h1))
          clear HF3
          go_wp2
          go_ret2
          exact ⟨HB8.out, by rw [he.out]; rfl⟩
        by_cases h2 : mv + 1 < 1
        · have he : Hid (F = (0, 130)) := Lib.hid (by rw [HF3.out]; exact if_pos (.inr (.inl h2)))
          clear HF3
          go_wp2
          go_ret2
          exact ⟨HB8.out, by rw [he.out]; rfl⟩
        by_cases h3 : yy < 0
        · have he : Hid (F = (0, 130)) := Lib.hid (by rw [HF3.out]; exact if_pos (.inr (.inr (.inl h3))))
          clear HF3
          go_wp2
          go_ret2
          exact ⟨HB8.out, by rw [he.out]; rfl⟩
        by_cases h4 : tt < 0
        · have he : Hid (F = (0, 130)) := Lib.hid (by rw [HF3.out]; exact if_pos (.inr (.inr (.inr (.inl h4)))))
          clear HF3
          go_wp2
          go_ret2
          exact ⟨HB8.out, by rw [he.out]; rfl⟩
        by_cases h5 : zb = false
        · have he : Hid (F = (0, 130)) := Lib.hid (by rw [HF3.out]; exact if_pos (.inr (.inr (.inr (.inr (.inl h5))))))
          clear HF3
          go_wp2
          go_ret2
          exact ⟨HB8.out, by rw [he.out]; rfl⟩
        have hzb : zb = true := by cases zb <;> simp_all
        subst hzb
        have HLO := Lib.hid (fun w' => long_walk yy (mv + 1) w' (by omega) (by omega) (by omega) (by omega))
        have HBE := Lib.hid (fun w' => before_walk yy (mv + 1) dd w' (by omega) (by omega) (by omega) (by omega) (by omega) (by omega))
        have hdn := dn_rng (y := yy) (m := mv + 1) (d := dd) (by omega) (by omega) (by omega) (by omega) (by omega) (by omega)
        have hmd := md_pos yy (mv + 1)
        generalize md yy (mv + 1) = ml at *
        generalize dn yy (mv + 1) dd = D at *
        obtain ⟨hD0, hD1⟩ := hdn
        obtain ⟨hml0, hml1⟩ := hmd
        clear h5
        by_cases h6 : ml < dd
        · have he : Hid (F = (0, 130)) := Lib.hid (by rw [HF3.out]; exact if_pos (.inr (.inr (.inr (.inr (.inr h6))))))
          clear HF3
          go_wp2_with fail
          refine (HLO.out _).mono ?_
          rintro e w9 ⟨rfl, rfl⟩
          go_wp2
          go_ret2
          exact ⟨HB8.out, by rw [he.out]; rfl⟩
        have HF4 : Hid (F = if (0 ≤ nm ∧ nm ≠ (D - 719468 + 4) % 7) ∨ (D - 719468) * 86400 + tt - z < 0 ∨ 253402300799 < (D - 719468) * 86400 + tt - z then (0, 130) else
          ((D - 719468) * 86400 + tt - z, 0)) := Lib.hid (by rw [HF3.out]; exact if_neg (fun h => h.elim h1 fun h => h.elim h2 fun h => h.elim h3 fun h => h.elim h4 fun h => h.elim Bool.noConfusion h6))
        clear HF3
        have e1 : IntKind.i64.wrap (D - 719468) = D - 719468 := IntWalk.i64_in _ (by omega)
        have e2 : IntKind.i64.wrap ((D - 719468) * 86400) = (D - 719468) * 86400 := IntWalk.i64_in _ (by omega)
        have e3 : IntKind.i64.wrap ((D - 719468) * 86400 + tt) = (D - 719468) * 86400 + tt := IntWalk.i64_in _ (by omega)
        have e4 : IntKind.i64.wrap ((D - 719468) * 86400 + tt - z) = (D - 719468) * 86400 + tt - z := IntWalk.i64_in _ (by omega)
        have e5 : IntKind.i64.wrap (D - 719468 + 4) = D - 719468 + 4 := IntWalk.i64_in _ (by omega)
        have hV := tm7 (D - 719468 + 4)
        have ht7 : -7 < (D - 719468 + 4).tmod 7 ∧ (D - 719468 + 4).tmod 7 < 7 := ⟨Int.lt_tmod_of_pos _ (by omega), Int.tmod_lt_of_pos _ (by omega)⟩
        have hV0 : 0 ≤ (D - 719468 + 4) % 7 ∧ (D - 719468 + 4) % 7 < 7 := by omega
        have hV2 := tm7b (D - 719468 + 4)
        clear hV
        obtain ⟨ht0, ht1⟩ := ht7
        have e6 : IntKind.i64.wrap ((D - 719468 + 4).tmod 7 + 7) = (D - 719468 + 4).tmod 7 + 7 := IntWalk.i64_in _ (by omega)
        generalize hTK : (D - 719468) * 86400 + tt - z = tk at *
        have HTK := Lib.hid hTK
        by_cases n0 : 0 ≤ nm
        · by_cases n1 : nm = (D - 719468 + 4) % 7
          · have n2 : (nm != (D - 719468 + 4) % 7) = false := by rw [n1]; simp
            have N1 := Lib.hid n1
            clear n1
            by_cases t0 : tk < 0
            · have he : Hid (F = (0, 130)) := Lib.hid (by rw [HF4.out]; exact if_pos (.inr (.inl t0)))
              clear HF4
              go_wp2_with fail
              refine (HLO.out _).mono ?_
              rintro e w9 ⟨rfl, rfl⟩
              go_wp2_with fail
              refine (HBE.out _).mono ?_
              rintro e w9 ⟨rfl, rfl⟩
              go_wp2
              go_ret2
              exact ⟨HB8.out, by rw [he.out]; rfl⟩
            by_cases t1 : 253402300799 < tk
            · have he : Hid (F = (0, 130)) := Lib.hid (by rw [HF4.out]; exact if_pos (.inr (.inr t1)))
              clear HF4
              go_wp2_with fail
              refine (HLO.out _).mono ?_
              rintro e w9 ⟨rfl, rfl⟩
              go_wp2_with fail
              refine (HBE.out _).mono ?_
              rintro e w9 ⟨rfl, rfl⟩
              go_wp2
              go_ret2
              exact ⟨HB8.out, by rw [he.out]; rfl⟩
            · have he : Hid (F = (tk, 0)) := Lib.hid (by rw [HF4.out]; exact if_neg (fun h => h.elim (fun h => h.2 N1.out) fun h => h.elim t0 t1))
              clear HF4
              go_wp2_with fail
              refine (HLO.out _).mono ?_
              rintro e w9 ⟨rfl, rfl⟩
              go_wp2_with fail
              refine (HBE.out _).mono ?_
              rintro e w9 ⟨rfl, rfl⟩
              go_wp2
              go_ret2
              exact ⟨HB8.out, by rw [he.out]; rfl⟩
          · have n2 : (nm != (D - 719468 + 4) % 7) = true := bne_iff_ne.2 n1
            have he : Hid (F = (0, 130)) := Lib.hid (by rw [HF4.out]; exact if_pos (.inl ⟨n0, n1⟩))
            clear HF4
            go_wp2_with fail
            refine (HLO.out _).mono ?_
            rintro e w9 ⟨rfl, rfl⟩
            go_wp2_with fail
            refine (HBE.out _).mono ?_
            rintro e w9 ⟨rfl, rfl⟩
            go_wp2
            go_ret2
            exact ⟨HB8.out, by rw [he.out]; rfl⟩
        · skip
          by_cases t0 : tk < 0
          · have he : Hid (F = (0, 130)) := Lib.hid (by rw [HF4.out]; exact if_pos (.inr (.inl t0)))
            clear HF4
            go_wp2_with fail
            refine (HLO.out _).mono ?_
            rintro e w9 ⟨rfl, rfl⟩
            go_wp2_with fail
            refine (HBE.out _).mono ?_
            rintro e w9 ⟨rfl, rfl⟩
            go_wp2
            go_ret2
            exact ⟨HB8.out, by rw [he.out]; rfl⟩
          by_cases t1 : 253402300799 < tk
          · have he : Hid (F = (0, 130)) := Lib.hid (by rw [HF4.out]; exact if_pos (.inr (.inr t1)))
            clear HF4
            go_wp2_with fail
            refine (HLO.out _).mono ?_
            rintro e w9 ⟨rfl, rfl⟩
            go_wp2_with fail
            refine (HBE.out _).mono ?_
            rintro e w9 ⟨rfl, rfl⟩
            go_wp2
            go_ret2
            exact ⟨HB8.out, by rw [he.out]; rfl⟩
          · have he : Hid (F = (tk, 0)) := Lib.hid (by rw [HF4.out]; exact if_neg (fun h => h.elim (fun h => n0 h.1) fun h => h.elim t0 t1))
            clear HF4
            go_wp2_with fail
            refine (HLO.out _).mono ?_
            rintro e w9 ⟨rfl, rfl⟩
            go_wp2_with fail
            refine (HBE.out _).mono ?_
            rintro e w9 ⟨rfl, rfl⟩
            go_wp2
            go_ret2
            exact ⟨HB8.out, by rw [he.out]; rfl⟩
    · have he : Hid (F = (0, 130)) := Lib.hid (by rw [HFN.out]; exact parseN_not5 h5)
      have h5' : ((L'.length : Int) != 5) = true := bne_iff_ne.2 (by omega)
      go_wp2
      go_ret2
      exact ⟨HBC.out, by rw [he.out]; rfl⟩
end Go.Proofs.YtdkhoiahmjadnaaGreatDoor
