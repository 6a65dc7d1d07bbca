/-
  The walk of waybillref13's Parse. Condition: the text's length.
-/
import Derived.Test.YtdkhoiahmjadnaaGreatDoorRWo
import Derived.Test.YtdkhoiahmjadnaaGreatDoorAhead
namespace Go.Proofs.YtdkhoiahmjadnaaGreatDoor
open Go.RowKit Go.Sort
set_option linter.unusedVariables false

def nmd (x : ByteArray) : Bool := match x.data.toList with
  | [_, _, _, c] => c == 44
  | _ => false
def nmdL : List ByteArray → Bool
  | [] => false
  | x :: _ => nmd x
theorem nmd_yes {x : ByteArray} (h : nmd x = true) : ∃ a b c, x = ⟨#[a, b, c, 44]⟩ := by
  unfold nmd at h
  split at h
  · rename_i a b c e hl
    have : e = 44 := by simpa using h
    subst this
    exact ⟨a, b, c, str_eq hl⟩
  · exact absurd h (by decide)
theorem nmd_four (a b c e : UInt8) : nmd ⟨#[a, b, c, e]⟩ = (e == 44) := rfl
theorem nmd_else {x : ByteArray} (h : x.size ≠ 4) : nmd x = false := by
  unfold nmd
  split
  · rename_i a b c e hl
    exact absurd (by rw [Lib.size_eq, hl]; rfl) h
  · rfl
theorem suf_44 (a b c : UInt8) : Lib.hasSuffix [a, b, c, 44] [44] = true ∧ Lib.trimSuffix [a, b, c, 44] [44] = [a, b, c] := by
  have h : Lib.hasSuffix [a, b, c, 44] [44] = true := by simp [Lib.hasSuffix]; exact ⟨[a, b, c], rfl⟩
  refine ⟨h, ?_⟩
  unfold Lib.trimSuffix
  rw [if_pos h]
  rfl
theorem suf_form {l : List UInt8} (h : Lib.hasSuffix l [44] = true) : ∃ m, l = m ++ [44] ∧ Lib.trimSuffix l [44] = m := by
  have h' := h
  unfold Lib.hasSuffix at h
  have hs : [44] <:+ l := by simpa using h
  obtain ⟨m, rfl⟩ := hs
  refine ⟨m, rfl, ?_⟩
  unfold Lib.trimSuffix
  rw [if_pos h']
  simp
theorem nm_no {x : ByteArray} (r : List ByteArray) (h : nmd x = false) : parseW (x :: r) = parseN (-1) (x :: r) := by
  by_cases hs : Lib.hasSuffix x.data.toList [44] = true
  · obtain ⟨m, h1, h2⟩ := suf_form hs
    have hcut : cutB x = ⟨m.toArray⟩ := by unfold cutB; rw [h2]
    have hm : m.length ≠ 3 := fun e => by
      match m, e with
      | [a, b, c], _ =>
        have : x = ⟨#[a, b, c, 44]⟩ := str_eq h1
        rw [this] at h
        exact absurd h (by rw [nmd_four]; decide)
    have hneg : namP dayB (cutB x) = -1 := by
      rw [place_eq dayB _ dayB_lo dayB_three]
      unfold placeP
      rw [if_neg (by rw [hcut, Lib.size_eq]; simpa using hm)]
    have e1 : parseW (x :: r) = (0, 130) := by
      show (if Lib.hasSuffix x.data.toList [44] = true then _ else _) = _
      rw [if_pos hs, hneg, if_pos (by omega)]
    rw [e1]
    by_cases h5 : (x :: r).length = 5
    · obtain ⟨a, b, c, d, e, hL⟩ := five_words h5
      rw [hL]
      obtain rfl : x = a := by injection hL
      have hd : numP x.data.toList 1 2 31 = -1 := by
        rw [rn_num _ 1 2 31 (by omega) (by omega)]
        rcases rnum_or x.data.toList 1 2 with h6 | h6
        · rw [h6]; rfl
        · have := (rnum_ok h6).2.2 44 (by rw [h1]; simp)
          exact absurd this.1 (by decide)
      show (0, 130) = parseG (-1) (numP x.data.toList 1 2 31) _ _ _ _ _
      rw [hd]
      unfold parseG
      rw [if_pos (.inl (by omega))]
    · rw [parseN_not5 h5]
  · show (if Lib.hasSuffix x.data.toList [44] = true then _ else _) = _
    rw [if_neg hs]
theorem nm_yes (a b c : UInt8) (r : List ByteArray) : parseW (⟨#[a, b, c, 44]⟩ :: r) = if namP dayB ⟨#[a, b, c]⟩ < 0 then (0, 130) else parseN (namP dayB ⟨#[a, b, c]⟩) r := by
  obtain ⟨h1, h2⟩ := suf_44 a b c
  have hcut : cutB ⟨#[a, b, c, 44]⟩ = ⟨#[a, b, c]⟩ := by
    show (⟨(Lib.trimSuffix [a, b, c, 44] [44]).toArray⟩ : ByteArray) = _
    rw [h2]
  show (if Lib.hasSuffix [a, b, c, 44] [44] = true then (if namP dayB (cutB ⟨#[a, b, c, 44]⟩) < 0 then ((0, 130) : Int × Int) else parseN (namP dayB (cutB ⟨#[a, b, c, 44]⟩)) r) else parseN (-1) (⟨#[a, b, c, 44]⟩ :: r)) = _
  rw [if_pos h1, hcut]
/-- the same, by the document's numbers -/
theorem parseG_doc (nm d2 mm yy tt z : Int) (zb : Bool) (hd : d2 ≤ 99) (hmd : ∀ y m, 28 ≤ md y m ∧ md y m ≤ 31) :
    parseG nm (if 31 < d2 then -1 else d2) mm yy tt z zb = if d2 < 1 ∨ mm < 1 ∨ yy < 0 ∨ tt < 0 ∨ zb = false then (0, 130) else if md yy mm < d2 then (0, 130) else
      if (0 ≤ nm ∧ nm ≠ (dn yy mm d2 - 719468 + 4) % 7) then (0, 130) else
      if (dn yy mm d2 - 719468) * 86400 + tt - z < 0 ∨ 253402300799 < (dn yy mm d2 - 719468) * 86400 + tt - z then (0, 130) else
      ((dn yy mm d2 - 719468) * 86400 + tt - z, 0) := by
  have h1 := hmd yy mm
  unfold parseG
  by_cases hb : 31 < d2
  · rw [if_pos hb, if_pos (.inl (by omega))]
    split
    · rfl
    · rw [if_pos (by omega)]
  · rw [if_neg hb]
    by_cases c1 : d2 < 1 ∨ mm < 1 ∨ yy < 0 ∨ tt < 0 ∨ zb = false
    · rw [if_pos c1, if_pos]
      rcases c1 with h | h | h | h | h
      · exact .inl h
      · exact .inr (.inl h)
      · exact .inr (.inr (.inl h))
      · exact .inr (.inr (.inr (.inl h)))
      · exact .inr (.inr (.inr (.inr (.inl h))))
    · rw [if_neg c1]
      by_cases c2 : md yy mm < d2
      · rw [if_pos c2, if_pos (.inr (.inr (.inr (.inr (.inr c2)))))]
      · rw [if_neg c2, if_neg]
        · by_cases c3 : 0 ≤ nm ∧ nm ≠ (dn yy mm d2 - 719468 + 4) % 7
          · rw [if_pos c3, if_pos (.inl c3)]
          · rw [if_neg c3]
            by_cases c4 : (dn yy mm d2 - 719468) * 86400 + tt - z < 0 ∨ 253402300799 < (dn yy mm d2 - 719468) * 86400 + tt - z
            · rw [if_pos c4, if_pos (.inr c4)]
            · rw [if_neg c4, if_neg (by rintro (h | h); exact c3 h; exact c4 h)]
        · rintro (h | h | h | h | h | h)
          · exact c1 (.inl h)
          · exact c1 (.inr (.inl h))
          · exact c1 (.inr (.inr (.inl h)))
          · exact c1 (.inr (.inr (.inr (.inl h))))
          · exact c1 (.inr (.inr (.inr (.inr h))))
          · exact c2 h
theorem rnum44 (l : List UInt8) : rnumP l 4 4 ≤ 9999 := by
  unfold rnumP
  split
  · omega
  · rename_i h
    have h4 : l.length = 4 := by omega
    match l, h4 with
    | [a, b, c, d], _ =>
      have ha := a.toNat_lt
      have hb := b.toNat_lt
      have hc := c.toNat_lt
      have hd := d.toNat_lt
      unfold rnF rnF rnF rnF rnF
      repeat' split
      all_goals omega
theorem rnum12 (l : List UInt8) : rnumP l 1 2 ≤ 99 := by
  unfold rnumP
  split
  · omega
  · rename_i h
    match l, h with
    | [], h => simp at h
    | [a], _ =>
      have ha := a.toNat_lt
      unfold rnF rnF
      split <;> omega
    | [a, b], _ =>
      have ha := a.toNat_lt
      have hb := b.toNat_lt
      unfold rnF rnF rnF
      repeat' split
      all_goals omega
    | _ :: _ :: _ :: t, h => simp at h; omega
set_option maxRecDepth 100000 in
set_option maxHeartbeats 4000000 in
theorem rparse_walk (s : ByteArray) (w : World) (hs : s.size < 4294967281) :
    Calls Tryz.prog 15 #[.string s] w fun e w' => Below w.heap.size w w' ∧ e = .returned (.tuple #[.int .i64 (parseP s).1, .int .i64 (parseP s).2]) := by
  have HFW := Lib.hid (rwords_walk s w hs)
  have hF : parseP s = parseW (Lib.goFieldsP isSp s) := rfl
  have hsz : ∀ x ∈ Lib.goFieldsP isSp s, x.size < 4294967281 := fun x hx => Nat.lt_of_le_of_lt (words_sz _ _ x hx) hs
  unfold RWords at HFW
  generalize parseP s = F at *
  generalize Lib.goFieldsP isSp s = L at *
  go_enter Tryz.func15, Tryz.ntmps15
  go_wp2_with fail
  refine HFW.out.mono ?_
  rintro e w2 ⟨hb2, v, rfl, hown⟩
  clear HFW
  obtain ⟨A, cp, rfl, hcp, -, hrs⟩ := hown.out
  have HCP' := Lib.hid hcp
  clear hcp
  obtain ⟨n, hn⟩ : ∃ n, L.length = n := ⟨_, rfl⟩
  rw [hn]
  have HN := Lib.hid hn
  have HCP : Hid (n ≤ cp) := Lib.hid (hn ▸ HCP'.out)
  clear hn HCP'
  have HB2 := Lib.hid hb2
  have HSZ := Lib.hid hsz
  have HF := Lib.hid hF
  have HRS := Lib.hid hrs
  clear hb2 hsz hF hrs hown
  go_upto_region 3 with fail
  go_cut [32] from 16 to 31 (fun t wr => w2 = wr ∧ t = .bool (nmdL L))
  case first =>
    cases L with
    | nil =>
      have hn : ¬ (0 : Int) < (n : Int) := by rw [← HN.out]; simp
      have hn2 : ¬ (0 : Nat) < n := by omega
      go_wp2
      go_meet
      exact ⟨rfl, rfl⟩
    | cons x r =>
      obtain ⟨b, off, rfl, hB, hcell⟩ := HRS.out.at_ (j := 0) (by simp)
      have cj : w2.cell? ⟨b, off, none⟩ = some (.string x) := hcell 0 (by simp)
      have hn0 : (0 : Int) < (n : Int) := by rw [← HN.out]; simp
      have hn3 : 0 < n := by omega
      clear hcell HF
      by_cases h4 : x.size = 4
      · obtain ⟨p, q, k, m, rfl⟩ : ∃ p q k m, x = ⟨#[p, q, k, m]⟩ := by
          have hl : x.data.toList.length = 4 := by rw [← Lib.size_eq]; exact h4
          match e : x.data.toList, hl with
          | [p, q, k, m], _ => exact ⟨p, q, k, m, str_eq e⟩
        have g3 : (⟨#[p, q, k, m]⟩ : ByteArray)[3]'(show 3 < 4 by omega) = m := rfl
        have he := Lib.hid (show ((m.toNat : Int) == 44) = nmdL (⟨#[p, q, k, m]⟩ :: r) from by
          show _ = (m == 44)
          rw [Bool.eq_iff_iff, beq_iff_eq, beq_iff_eq]
          constructor
          · intro h; exact UInt8.toNat_inj.1 (show m.toNat = 44 by omega)
          · intro h; rw [h]; rfl)
        clear h4
        go_wp2
        go_meet
        exact ⟨rfl, by rw [← he.out]⟩
      · have h4i : ((x.size : Int) == 4) = false := beq_eq_false_iff_ne.2 (by omega)
        have he := Lib.hid (show nmdL (x :: r) = false from nmd_else h4)
        clear h4
        go_wp2
        go_meet
        exact ⟨rfl, by rw [he.out]⟩
  case rest =>
    obtain ⟨rfl, rfl⟩ := hcut
    generalize hnl' : nmdL L = bl at *
    have HNL := Lib.hid hnl'
    clear hnl'
    go_upto_if 32 with (fail)
    go_cut [4, 5] from 33 to 41 (fun x y wr => Below w.heap.size w wr ∧ ∃ A c L' nm, x = .slice A (L' : List ByteArray).length c ∧ y = .int .i64 nm ∧ RS wr wr.heap.size A L' ∧ F = parseN nm L' ∧ -1 ≤ nm ∧ nm ≤ 6 ∧ ∀ x ∈ L', x.size < 4294967281)
    case first =>
      cases bl
      · have hnl := HNL.out
        go_wp2
        go_meet
        refine ⟨HB2.out, A, cp, L, -1, by rw [HN.out], rfl, HRS.out, ?_, by omega, by omega, HSZ.out⟩
        cases L with
        | nil => exact HF.out
        | cons x r => rw [HF.out]; exact nm_no r hnl
      · cases L with
        | nil => exact absurd HNL.out (by decide)
        | cons x r =>
          obtain ⟨p, q, k, rfl⟩ := nmd_yes HNL.out
          obtain ⟨b, off, rfl, hB, hcell⟩ := HRS.out.at_ (j := 0) (by simp)
          have cj : w2.cell? ⟨b, off, none⟩ = some (.string ⟨#[p, q, k, 44]⟩) := hcell 0 (by simp)
          have HRT : Hid (RS w2 w2.heap.size (some ⟨b, off + 1, none⟩) r) := Lib.hid (RS.tail hB hcell)
          have HPL : Hid (∀ w', Calls Tryz.prog 26 #[.string ⟨#[83, 117, 110, 77, 111, 110, 84, 117, 101, 87, 101, 100, 84, 104, 117, 70, 114, 105, 83, 97, 116]⟩, .string ⟨#[p, q, k]⟩] w' fun e w2 => Below w'.heap.size w' w2 ∧ e = .returned (.int .i64 (namP dayB ⟨#[p, q, k]⟩))) := Lib.hid fun w' => by
            rw [place_eq dayB _ dayB_lo dayB_three]
            exact rplace_walk _ dayB _ w' dayN (by decide) (by show 3 ≤ 9223372036854775807; omega)
          have hrn : -1 ≤ namP dayB ⟨#[p, q, k]⟩ ∧ namP dayB ⟨#[p, q, k]⟩ ≤ 6 := by
            rcases namP_rng dayB ⟨#[p, q, k]⟩ with h | h
            · exact ⟨h.1, h.2⟩
            · rw [h]; omega
          have HF2 := Lib.hid (HF.out.trans (nm_yes p q k r))
          have hn0 : (0 : Int) < (n : Int) := by rw [← HN.out]; simp
          have hn1 : (1 : Int) ≤ (n : Int) := by omega
          have hn2 : 1 ≤ n := by omega
          have hn3 : 0 < n := by omega
          clear hcell HF
          generalize namP dayB ⟨#[p, q, k]⟩ = nm at *
          obtain ⟨hm0, hm1⟩ := hrn
          go_wp2_with fail
          refine (HPL.out _).mono ?_
          rintro e w5 ⟨hb5, rfl⟩
          have HB5 := Lib.hid (HB2.out.trans (hb5.mono HB2.out.size))
          have HRT5 : Hid (RS w5 w5.heap.size (some ⟨b, off + 1, none⟩) r) := Lib.hid ((HRT.out.below hb5).mono hb5.size)
          clear hb5
          by_cases hnm : nm < 0
          · have he : Hid (F = (0, 130)) := Lib.hid (by rw [HF2.out, if_pos hnm])
            go_wp2
            go_ret2
            exact ⟨HB5.out, by rw [he.out]; rfl⟩
          · have he : Hid (F = parseN nm r) := Lib.hid (by rw [HF2.out, if_neg hnm])
            have hnr := HN.out
            rw [List.length_cons] at hnr
            have hcp := HCP.out
            by_cases h1 : cp = 1
            · have hr0 : r = [] := List.eq_nil_of_length_eq_zero (by omega)
              subst hr0
              have HNR := Lib.hid (show n - 1 = 0 by simp at hnr; omega)
              clear hnr hcp
              subst h1
              go_wp2
              go_meet
              rw [HNR.out]
              exact ⟨HB5.out, _, _, [], nm, rfl, rfl, .inl rfl, he.out, by omega, by omega, fun y hy => HSZ.out y (by simp [hy])⟩
            · have h2 : 1 < cp := by omega
              have HNR : Hid (n - 1 = r.length) := Lib.hid (by omega)
              have h3 : ¬ cp - 1 = 0 := by omega
              clear hnr
              go_wp2
              go_meet
              rw [HNR.out]
              exact ⟨HB5.out, _, _, r, nm, rfl, rfl, HRT5.out, he.out, by omega, by omega, fun y hy => HSZ.out y (by simp [hy])⟩
    case rest =>
      obtain ⟨hbc, A, c, L', nm, rfl, rfl, hrs, hFn, hnm0, hnm1, hsz⟩ := hcut
      clear HF HRS HSZ HN HB2 HCP HNL
      have HBC := Lib.hid hbc
      have HFN := Lib.hid hFn
      have HSZ := Lib.hid hsz
      have HRS := Lib.hid hrs
      clear hbc hFn hsz hrs
      generalize hwc : wc = w6 at *
      clear hwc
      by_cases h5 : L'.length = 5
      · obtain ⟨wa, wb, wd, we, wf, rfl⟩ := five_words h5
        obtain ⟨b, off, rfl, hB, hcell⟩ := HRS.out.at_ (j := 0) (by simp)
        have K : Hid (∀ w', Below w6.heap.size w6 w' → w'.cell? ⟨b, off, none⟩ = some (.string wa) ∧ w'.cell? ⟨b, off + 1, none⟩ = some (.string wb) ∧ w'.cell? ⟨b, off + 2, none⟩ = some (.string wd) ∧ w'.cell? ⟨b, off + 3, none⟩ = some (.string we) ∧ w'.cell? ⟨b, off + 4, none⟩ = some (.string wf)) :=
          Lib.hid fun w' hb => ⟨(hb.cell hB).trans (hcell 0 (by simp)), (hb.cell hB).trans (hcell 1 (by simp)), (hb.cell hB).trans (hcell 2 (by simp)), (hb.cell hB).trans (hcell 3 (by simp)), (hb.cell hB).trans (hcell 4 (by simp))⟩
        have sa := HSZ.out wa (by simp)
        have sb := HSZ.out wb (by simp)
        have sd := HSZ.out wd (by simp)
        have se := HSZ.out we (by simp)
        have sf := HSZ.out wf (by simp)
        have HFN2 : Hid (F = parseG nm (numP wa.data.toList 1 2 31) (namP monB wb + 1) (numP wd.data.toList 4 4 9999) (clockP we) (zoneP wf).1 (zoneP wf).2) := HFN
        have ed := rn_num wa.data.toList 1 2 31 (by omega) (by omega)
        have ey := rn_num wd.data.toList 4 4 9999 (by omega) (by omega)
        rw [if_neg (by have := rnum44 wd.data.toList; omega)] at ey
        have hdr := rnum_or wa.data.toList 1 2
        have hdr2 := rnum12 wa.data.toList
        have hyr := rnum_or wd.data.toList 4 4
        have hyr2 := rnum44 wd.data.toList
        have HN1 := Lib.hid (fun w' => rnumber_walk wa 1 2 (by omega) (by omega) w' (by omega))
        have HN2 := Lib.hid (fun w' => rnumber_walk wd 4 4 (by omega) (by omega) w' (by omega))
        have HMN : Hid (∀ w', Calls Tryz.prog 26 #[.string ⟨#[74, 97, 110, 70, 101, 98, 77, 97, 114, 65, 112, 114, 77, 97, 121, 74, 117, 110, 74, 117, 108, 65, 117, 103, 83, 101, 112, 79, 99, 116, 78, 111, 118, 68, 101, 99]⟩, .string wb] w' fun e w2 => Below w'.heap.size w' w2 ∧ e = .returned (.int .i64 (namP monB wb))) := Lib.hid fun w' => by
          rw [place_eq monB _ monB_lo monB_three]
          exact rplace_walk _ monB _ w' monN (by decide) (by omega)
        have hmr : -1 ≤ namP monB wb ∧ namP monB wb ≤ 11 := by
          rcases namP_rng monB wb with h | h
          · exact ⟨h.1, h.2⟩
          · rw [h]; omega
        have HCL : Hid (∀ w', Calls Tryz.prog 28 #[.string we] w' fun e w2 => w' = w2 ∧ e = .returned (.int .i64 (clockP we))) := Lib.hid fun w' => by
          rw [clock_eq]; exact rclock_walk we w' (by omega)
        have hcr := clockP_rng we
        have HZO := Lib.hid (fun w' => rzone_walk wf w' (by omega))
        have hzr := zoneP_rng wf
        obtain ⟨k0, k1, k2, k3, k4⟩ := K.out w6 (Below.refl _ _)
        clear hcell HFN HRS HSZ hB h5
        generalize namP monB wb = mv at *
        generalize clockP we = tt at *
        generalize zoneP wf = zz at *
        generalize numP wa.data.toList 1 2 31 = d1 at *
        generalize rnumP wa.data.toList 1 2 = d2 at *
        generalize numP wd.data.toList 4 4 9999 = y1 at *
        generalize rnumP wd.data.toList 4 4 = yy at *
        subst ed ey
        obtain ⟨z, zb⟩ := zz
        simp only [] at hzr
        have HFN3 := Lib.hid (HFN2.out.trans (parseG_doc nm d2 (mv + 1) y1 tt z zb hdr2 md_pos))
        clear HFN2
        obtain ⟨hm0, hm1⟩ := hmr
        obtain ⟨hc0, hc1⟩ := hcr
        obtain ⟨hz0, hz1⟩ := hzr
        have hd0 : -1 ≤ d2 := by omega
        have hy0 : -1 ≤ y1 := by omega
        have emv : IntKind.i64.wrap (mv + 1) = mv + 1 := IntWalk.i64_in _ (by omega)
        clear hdr hyr
        go_wp2_with fail
        refine (HN1.out _).mono ?_
        rintro e w7 ⟨rfl, rfl⟩
        go_wp2_with fail
        refine (HMN.out _).mono ?_
        rintro e w7 ⟨hb7, rfl⟩
        have HB7 := Lib.hid hb7
        obtain ⟨-, -, l2, l3, l4⟩ := K.out w7 hb7
        clear hb7 k0 k1 k2 k3 k4
        go_wp2_with fail
        refine (HN2.out _).mono ?_
        rintro e w8 ⟨rfl, rfl⟩
        go_wp2_with fail
        refine (HCL.out _).mono ?_
        rintro e w8 ⟨rfl, rfl⟩
        go_wp2_with fail
        refine (HZO.out _).mono ?_
        rintro e w8 ⟨hb8, rfl⟩
        have HB8 := Lib.hid (HBC.out.trans ((HB7.out.trans (hb8.mono HB7.out.size)).mono HBC.out.size))
        clear hb8 HB7 HBC K l2 l3 l4 HN1 HN2 HMN HCL HZO
        simp only [] at *
        by_cases h1 : d2 < 1
        · have he : Hid (F = (0, 130)) := Lib.hid (by rw [HFN3.out]; exact if_pos (.inl h1))
          clear HFN3
          go_wp2
          go_ret2
          exact ⟨HB8.out, by rw [he.out]; rfl⟩
        by_cases h2 : mv + 1 < 1
        · have he : Hid (F = (0, 130)) := Lib.hid (by rw [HFN3.out]; exact if_pos (.inr (.inl h2)))
          clear HFN3
          go_wp2
          go_ret2
          exact ⟨HB8.out, by rw [he.out]; rfl⟩
        by_cases h3 : y1 < 0
        · have he : Hid (F = (0, 130)) := Lib.hid (by rw [HFN3.out]; exact if_pos (.inr (.inr (.inl h3))))
          clear HFN3
          go_wp2
          go_ret2
          exact ⟨HB8.out, by rw [he.out]; rfl⟩
        by_cases h4 : tt < 0
        · have he : Hid (F = (0, 130)) := Lib.hid (by rw [HFN3.out]; exact if_pos (.inr (.inr (.inr (.inl h4)))))
          clear HFN3
          go_wp2
          go_ret2
          exact ⟨HB8.out, by rw [he.out]; rfl⟩
        cases zb
        · have he : Hid (F = (0, 130)) := Lib.hid (by rw [HFN3.out]; exact if_pos (.inr (.inr (.inr (.inr rfl)))))
          clear HFN3
          go_wp2
          go_ret2
          exact ⟨HB8.out, by rw [he.out]; rfl⟩
        have HFN4 := Lib.hid (HFN3.out.trans (if_neg (by rintro (h | h | h | h | h); exact h1 h; exact h2 h; exact h3 h; exact h4 h; exact absurd h (by decide))))
        clear HFN3
        have HMD := Lib.hid (fun w' => monthDays_walk y1 (mv + 1) w' (by omega) (by omega) (by omega) (by omega))
        have HAH := Lib.hid (fun w' => ahead_walk y1 (mv + 1) d2 w' (by omega) (by omega) (by omega) (by omega) (by omega) (by omega))
        have hdn := dn_rng (y := y1) (m := mv + 1) (d := d2) (by omega) (by omega) (by omega) (by omega) (by omega) (by omega)
        have hmd := md_pos y1 (mv + 1)
        generalize md y1 (mv + 1) = ml at *
        generalize dn y1 (mv + 1) d2 = D at *
        obtain ⟨hD0, hD1⟩ := hdn
        obtain ⟨hml0, hml1⟩ := hmd
        by_cases h6 : ml < d2
        · have he : Hid (F = (0, 130)) := Lib.hid (by rw [HFN4.out]; exact if_pos h6)
          clear HFN4
          go_wp2_with fail
          refine (HMD.out _).mono ?_
          rintro e w9 ⟨hb9, rfl⟩
          have HB9 := Lib.hid (HB8.out.trans (hb9.mono HB8.out.size))
          clear hb9
          go_wp2
          go_ret2
          exact ⟨HB9.out, by rw [he.out]; rfl⟩
        have HFN5 := Lib.hid (HFN4.out.trans (if_neg h6))
        clear HFN4
        obtain ⟨E, hE⟩ : ∃ E, E = D - 719468 := ⟨_, rfl⟩
        rw [← hE] at HFN5 HAH
        have hE0 : -800000 ≤ E := by omega
        have hE1 : E ≤ 4000000 := by omega
        clear hE hD0 hD1
        have e1 : IntKind.i64.wrap (E + 4) = E + 4 := IntWalk.i64_in _ (by omega)
        have ht7 : -7 < (E + 4).tmod 7 ∧ (E + 4).tmod 7 < 7 := ⟨Int.lt_tmod_of_pos _ (by omega), Int.tmod_lt_of_pos _ (by omega)⟩
        obtain ⟨ht0, ht1⟩ := ht7
        have e2 : IntKind.i64.wrap ((E + 4).tmod 7 + 7) = (E + 4).tmod 7 + 7 := IntWalk.i64_in _ (by omega)
        have hV2 := tm7b (E + 4)
        have e3 : IntKind.i64.wrap (86400 * E) = 86400 * E := IntWalk.i64_in _ (by omega)
        have e4 : IntKind.i64.wrap (86400 * E + tt) = 86400 * E + tt := IntWalk.i64_in _ (by omega)
        have e5 : IntKind.i64.wrap (86400 * E + tt - z) = 86400 * E + tt - z := IntWalk.i64_in _ (by omega)
        rw [show E * 86400 = 86400 * E by omega] at HFN5
        go_wp2_with fail
        refine (HMD.out _).mono ?_
        rintro e w9 ⟨hb9, rfl⟩
        have HB9 := Lib.hid (HB8.out.trans (hb9.mono HB8.out.size))
        clear hb9
        go_wp2_with fail
        refine (HAH.out _).mono ?_
        rintro e w10 ⟨hb10, rfl⟩
        have HBX := Lib.hid (HB9.out.trans (hb10.mono HB9.out.size))
        clear hb10 HB9 HB8 HMD HAH
        by_cases n0 : 0 ≤ nm
        · by_cases n1 : (E + 4) % 7 = nm
          · have n2 : ((E + 4) % 7 != nm) = false := by rw [n1]; simp
            have N1 := Lib.hid n1
            have HFN6 := Lib.hid (HFN5.out.trans (if_neg (fun h => h.2 N1.out.symm)))
            clear n1 HFN5
            by_cases t0 : 86400 * E + tt - z < 0
            · have he : Hid (F = (0, 130)) := Lib.hid (by rw [HFN6.out]; exact if_pos (.inl t0))
              clear HFN6
              go_wp2
              go_ret2
              exact ⟨HBX.out, by rw [he.out]; rfl⟩
            by_cases t1 : 253402300799 < 86400 * E + tt - z
            · have he : Hid (F = (0, 130)) := Lib.hid (by rw [HFN6.out]; exact if_pos (.inr t1))
              clear HFN6
              go_wp2
              go_ret2
              exact ⟨HBX.out, by rw [he.out]; rfl⟩
            have he := Lib.hid (HFN6.out.trans (if_neg (fun h => h.elim t0 t1)))
            clear HFN6
            go_wp2
            go_ret2
            exact ⟨HBX.out, by rw [he.out]; rfl⟩
          · have n2 : ((E + 4) % 7 != nm) = true := bne_iff_ne.2 n1
            have he : Hid (F = (0, 130)) := Lib.hid (by rw [HFN5.out]; exact if_pos ⟨n0, fun h => n1 h.symm⟩)
            clear HFN5
            go_wp2
            go_ret2
            exact ⟨HBX.out, by rw [he.out]; rfl⟩
        · have HFN6 := Lib.hid (HFN5.out.trans (if_neg (fun h => n0 h.1)))
          clear HFN5
          by_cases t0 : 86400 * E + tt - z < 0
          · have he : Hid (F = (0, 130)) := Lib.hid (by rw [HFN6.out]; exact if_pos (.inl t0))
            clear HFN6
            go_wp2
            go_ret2
            exact ⟨HBX.out, by rw [he.out]; rfl⟩
          by_cases t1 : 253402300799 < 86400 * E + tt - z
          · have he : Hid (F = (0, 130)) := Lib.hid (by rw [HFN6.out]; exact if_pos (.inr t1))
            clear HFN6
            go_wp2
            go_ret2
            exact ⟨HBX.out, by rw [he.out]; rfl⟩
          have he := Lib.hid (HFN6.out.trans (if_neg (fun h => h.elim t0 t1)))
          clear HFN6
          go_wp2
          go_ret2
          exact ⟨HBX.out, by rw [he.out]; rfl⟩
      · have he : Hid (F = (0, 130)) := Lib.hid (by rw [HFN.out]; exact parseN_not5 h5)
        have h5' : ((L'.length : Int) != 5) = true := bne_iff_ne.2 (by omega)
        go_wp2
        go_ret2
        exact ⟨HBC.out, by rw [he.out]; rfl⟩
end Go.Proofs.YtdkhoiahmjadnaaGreatDoor
