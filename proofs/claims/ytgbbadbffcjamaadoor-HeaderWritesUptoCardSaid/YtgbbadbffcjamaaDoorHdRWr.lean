/-
  The walk of waybillref11's Write. Conditions: the sizes.
-/
import Derived.Test.YtgbbadbffcjamaaDoorHdWr
import Derived.Test.YtgbbadbffcjamaaDoorHdRF
import Derived.Test.YtgbbadbffcjamaaDoorHdR
namespace Go.Proofs.YtgbbadbffcjamaaDoor
open Go.RowKit Go.Sort
set_option linter.unusedVariables false
theorem longF_nil : ∀ f, longF f [] = false
  | 0 => rfl
  | _ + 1 => rfl
theorem long_step {d : List UInt8} {f : Nat} (hd : d ≠ []) (hf : d.length ≤ f) : longF f d = (decide (998 < (lnP d).1.length) || longF (f - 1) (d.drop (lnP d).2)) ∧ (d.drop (lnP d).2).length ≤ f - 1 := by
  have hp := lnP_pos hd
  have hl : 0 < d.length := List.length_pos_iff.2 hd
  obtain ⟨f, rfl⟩ : ∃ f', f = f' + 1 := ⟨f - 1, by omega⟩
  refine ⟨?_, by rw [List.length_drop]; omega⟩
  rw [longF]
  unfold lnP
  cases h : cutCR d with
  | none => simp [longF_nil]
  | some xy =>
    obtain ⟨x, y⟩ := xy
    obtain ⟨h3, _⟩ := cutCR_some h
    simp only [Nat.add_sub_cancel]
    congr 2
    rw [h3, List.drop_append]
    simp
/-- '[]byte(s)': a slice that may be appended to -/
theorem OwnQ.conv (w : World) (e : TypeId) (s : ByteArray) (base : Nat) (hs : s.size ≤ maxLen) (hb : base ≤ w.heap.size) :
    OwnQ (Lib.bytesWorld w e s) base (some w.heap.size) (.slice (some ⟨w.heap.size, 0, none⟩) s.size (grownCap w s.size 0 e)) s.data.toList := by
  have hn := Lib.bytesWorld_at_new w e s
  have hz : (Lib.bytesCells w e s).size = grownCap w s.size 0 e := by
    have := grownCap_ge w s.size 0 e
    unfold Lib.bytesCells
    simp
    have e1 : s.data.size = s.size := rfl
    omega
  refine ⟨_, _, rfl, grownCap_ge w _ _ _, grownCap_le_maxLen w _ _ _ hs, .inr ⟨w.heap.size, 0, rfl, rfl, hb, by rw [Lib.bytesWorld_size]; omega, fun i hi => ?_, fun i hi => ?_⟩⟩
  · rw [Nat.zero_add, Lib.bytesWorld_cell w e s i (by rw [size_len]; exact hi)]
    rfl
  · rw [Nat.zero_add]
    simp only [World.cell?, World.frozen?, hn]
    have h1 : i < (Lib.bytesCells w e s).size := by rw [hz]; exact hi
    refine ⟨by simp [h1], ?_⟩
    simp
    omega
/-- what the document's Write answers: its bytes may be appended to -/
def RWritePost (w : World) (nm bd : List UInt8) (e : Ending) (w' : World) : Prop :=
  Below w.heap.size w w' ∧ ∃ A c own, e = .returned (.tuple #[.slice A (wr11 nm bd).1.length c, .int .i64 (wr11 nm bd).2]) ∧ OwnQ w' w.heap.size own (.slice A (wr11 nm bd).1.length c) (wr11 nm bd).1
theorem RWritePost.no {w w' : World} {nm bd : List UInt8} {e : Ending} {er : Int} (h : wr11 nm bd = ([], er)) (hb : Below w.heap.size w w') (he : e = .returned (.tuple #[.slice none 0 0, .int .i64 er])) : RWritePost w nm bd e w' := by
  unfold RWritePost
  rw [h]
  exact ⟨hb, none, 0, none, he, OwnQ.nil _ _ _⟩
set_option maxRecDepth 1000000 in
set_option maxHeartbeats 2000000 in
theorem rwrite_walk (s b : ByteArray) (w : World) (hs : s.size ≤ 1100000) (hb : b.size ≤ 1100000) :
    Calls Tryd.prog 15 #[.string s, .string b] w (RWritePost w s.data.toList b.data.toList) := by
  obtain ⟨nm, hnm⟩ : ∃ nm, nm = s.data.toList := ⟨_, rfl⟩
  obtain ⟨bd, hbd⟩ : ∃ bd, bd = b.data.toList := ⟨_, rfl⟩
  rw [← hnm, ← hbd]
  have hsz : nm.length = s.size := by rw [hnm, ← Lib.size_eq]
  have hbz : bd.length = b.size := by rw [hbd, ← Lib.size_eq]
  have HBD := Lib.hid hbd
  have KN := Lib.hid fun w' => rname_walk s w' (by omega)
  rw [← hnm] at KN
  have KF := Lib.hid fun w' => rfold_walk b ((nm.length : Int) + 2) w' (by omega) (by omega) (by omega)
  rw [← hbd, hsz] at KF
  have HTX : Hid (txt11 nm bd = nm ++ [58, 32] ++ fold11 bd ((s.size : Int) + 2) ++ [13, 10]) := Lib.hid (by unfold txt11; rw [hsz])
  have hFl : (fold11 bd ((s.size : Int) + 2)).length ≤ 4400000 := by have := fold11_len bd ((s.size : Int) + 2); omega
  have HNM := Lib.hid hnm
  have HBZ := Lib.hid hbz
  have HSZ := Lib.hid hsz
  obtain ⟨FS, hFS⟩ : ∃ FS : ByteArray, FS = ⟨(fold11 bd ((s.size : Int) + 2)).toArray⟩ := ⟨_, rfl⟩
  rw [← hFS] at KF
  have HFS : Hid (FS.data.toList = fold11 bd ((s.size : Int) + 2)) := Lib.hid (by rw [hFS])
  have hfz : FS.size ≤ 4400000 := by rw [Lib.size_eq, HFS.out]; exact hFl
  obtain ⟨T, hT⟩ : ∃ T : ByteArray, T = s ++ ⟨#[58, 32]⟩ ++ FS ++ ⟨#[13, 10]⟩ := ⟨_, rfl⟩
  have hTl : T.data.toList = txt11 nm bd := by
    rw [HTX.out, hT]
    simp only [ByteArray.data_append, Array.toList_append, HFS.out]
    rw [hnm]
  have hTz : T.size ≤ 6000000 := by
    rw [Lib.size_eq, hTl, HTX.out]
    simp
    omega
  have HT := Lib.hid hT
  have HTL := Lib.hid hTl
  have HW0 : Hid (bd.any badC = true → wr11 nm bd = ([], 110)) := Lib.hid fun h => if_pos h
  have HW1 : Hid (nameB nm = false → wr11 nm bd = ([], 110)) := Lib.hid fun h2 => by
    by_cases hq : bd.any badC = true
    · exact if_pos hq
    · unfold wr11; rw [if_neg hq, if_pos h2]
  have HW2 : Hid (bd.any badC = false → nameB nm = true → longL (txt11 nm bd) = true → wr11 nm bd = ([], 111)) := Lib.hid fun h1 h2 h3 => by unfold wr11; rw [if_neg (by rw [h1]; simp), if_neg (by rw [h2]; simp), if_pos h3]
  have HW3 : Hid (bd.any badC = false → nameB nm = true → longL (txt11 nm bd) = false → wr11 nm bd = (txt11 nm bd, 0)) := Lib.hid fun h1 h2 h3 => by unfold wr11; rw [if_neg (by rw [h1]; simp), if_neg (by rw [h2]; simp), if_neg (by rw [h3]; simp)]
  clear hnm hbd hsz hbz hFS hFl hT hTl
  have KN2 := Lib.hid (KN.out w)
  obtain ⟨nb, hnb⟩ : ∃ nb, nameB nm = nb := ⟨_, rfl⟩
  rw [hnb] at KN2
  go_enter Tryd.func15, Tryd.ntmps15
  go_wp2_with fail
  with_reducible refine KN2.out.mono ?_
  rintro e5 w5 ⟨rfl, rfl⟩
  cases nb
  · have HE := Lib.hid (HW1.out hnb)
    go_wp2
    go_ret2
    exact RWritePost.no HE.out (Below.refl _ _) rfl
  have HNB := Lib.hid hnb
  clear hnb
  go_wp2_with fail
  go_loopg [7] b.size (fun k i wr => w = wr ∧ ∃ j : Nat, j + k = b.size ∧ i = .int .i64 (j : Int) ∧ Hid (bd.any badC = (b.data.toList.drop j).any badC))
  case atStart => exact ⟨rfl, 0, by omega, rfl, Lib.hid (by rw [HBD.out, List.drop_zero])⟩
  case round =>
    obtain ⟨rfl, j, hj, rfl, H⟩ := hrel
    by_cases hlt : j < b.size
    · have hj1 : (j : Int) < (b.size : Int) := by omega
      have H2 : Hid (bd.any badC = (badC b[j] || (b.data.toList.drop (j + 1)).any badC)) := Lib.hid (by rw [H.out, any_drop hlt])
      clear H
      by_cases hn : badC b[j] = true
      · have HE := Lib.hid (HW0.out (by rw [H2.out, hn, Bool.true_or]))
        rcases bad_yes hn with ⟨a1, a2⟩ | ⟨a1, a2⟩
        all_goals
          clear hn H2
          go_wp2
          go_ret2
          exact RWritePost.no HE.out (Below.refl _ _) rfl
      · have hn : badC b[j] = false := by simpa using hn
        have H3 : Hid (bd.any badC = (b.data.toList.drop (j + 1)).any badC) := Lib.hid (by rw [H2.out, hn, Bool.false_or])
        rcases bad_no hn with ⟨a1, a2, a3⟩ | ⟨a1, a2⟩
        all_goals
          clear hn H2
          go_wp2
          go_roundg (gk - 1)
          case rel => exact ⟨rfl, j + 1, by omega, by go_num, H3⟩
          case measure => omega
    · have hj1 : ¬ (j : Int) < (b.size : Int) := by omega
      have H3 : Hid (bd.any badC = false) := Lib.hid (by rw [H.out, List.drop_of_length_le (by rw [← Lib.size_eq]; omega)]; rfl)
      clear H
      have KF2 := Lib.hid (KF.out w)
      have hs2 : (s.size : Int) + 2 ≤ 9223372036854775807 := by omega
      go_wp2_with fail
      with_reducible refine KF2.out.mono ?_
      rintro e6 w6 ⟨hb6, rfl⟩
      have HB6 := Lib.hid hb6
      clear hb6 KF KF2 KN KN2
      have hTe := HT.out.symm
      have hcv := Lib.run_convert_string_bytes (P := Tryd.prog) w6 9 22 5 T Tryd.underlying9 Tryd.underlying22 Tryd.underlying5
      have HOV := Lib.hid (OwnQ.conv w6 5 T w.heap.size (by unfold maxLen; omega) HB6.out.size)
      have HBV := Lib.hid (HB6.out.trans ((below_bytesWorld w6 5 T).mono HB6.out.size))
      have HTZ : Hid (T.size = (txt11 nm bd).length) := Lib.hid (by rw [← HTL.out, ← Lib.size_eq])
      generalize grownCap w6 T.size 0 5 = cT at *
      generalize Lib.bytesWorld w6 5 T = w7 at *
      go_wp2_with fail
      have HRB := Lib.hid HOV.out.rb.1
      rw [HTL.out] at HRB
      generalize w6.heap.size = b6 at *
      obtain ⟨N, hN⟩ : ∃ N, N = T.size := ⟨_, rfl⟩
      have HNT : Hid (N = (txt11 nm bd).length) := Lib.hid (by rw [hN]; exact HTZ.out)
      have hNz : N ≤ 6000000 := by omega
      rw [← hN]
      have HNN := Lib.hid hN
      clear hN hcv hTe
      go_loopg [9] N (fun k i wr => w7 = wr ∧ ∃ j f : Nat, j + k = N ∧ i = .int .i64 (j : Int) ∧ Hid (((txt11 nm bd).drop j).length ≤ f ∧ longL (txt11 nm bd) = longF f ((txt11 nm bd).drop j)))
      case atStart => exact ⟨rfl, 0, (txt11 nm bd).length, by omega, rfl, Lib.hid ⟨by rw [List.drop_zero]; omega, by rw [List.drop_zero]; rfl⟩⟩
      case round =>
        obtain ⟨rfl, j, f, hj2, rfl, H⟩ := hrel
        by_cases hlt : j < N
        · have hj3 : (j : Int) < (N : Int) := by omega
          obtain ⟨X, q, hX⟩ : ∃ X q, lnP ((txt11 nm bd).drop j) = (X, q) := ⟨_, _, rfl⟩
          have hne : (txt11 nm bd).drop j ≠ [] := by
            intro e
            have := congrArg List.length e
            rw [List.length_drop, ← HNT.out] at this
            simp at this
            omega
          obtain ⟨h1, h2⟩ := long_step hne H.out.1
          have hq0 := lnP_pos hne
          have hq1 := (lnP_le ((txt11 nm bd).drop j)).2.1
          have hq2 := (lnP_le ((txt11 nm bd).drop j)).1
          have KL := Lib.hid (rline_walk w7 (some ⟨b6, 0, none⟩) (txt11 nm bd) N cT j HNT.out HRB.out (by omega) (by omega))
          unfold lnI at KL
          rw [hX] at h1 h2 hq0 hq1 hq2 KL
          rw [List.length_drop, ← HNT.out] at hq1
          rw [List.drop_drop] at h1 h2
          simp only [] at h1 h2 hq0 hq1 hq2 KL
          have H1 : Hid (longL (txt11 nm bd) = (decide (998 < X.length) || longF (f - 1) ((txt11 nm bd).drop (j + q)))) := Lib.hid (H.out.2.trans h1)
          have H2 := Lib.hid h2
          obtain ⟨xn, hxn⟩ : ∃ xn, xn = X.length := ⟨_, rfl⟩
          rw [← hxn] at KL hq2 H1
          clear h1 h2 hne H hX hxn
          obtain ⟨e, he⟩ : ∃ e, e = j + xn := ⟨_, rfl⟩
          obtain ⟨nx, hnx⟩ : ∃ nx, nx = j + q := ⟨_, rfl⟩
          rw [← he, ← hnx] at KL
          rw [← hnx] at H1 H2
          have hbe : e ≤ 6000000 ∧ nx ≤ 6000000 ∧ j ≤ e := by omega
          by_cases hl9 : 998 < xn
          · have hl1 : (998 : Int) < (e : Int) - (j : Int) := by omega
            have HE := Lib.hid (HW2.out H3.out HNB.out (by rw [H1.out, decide_eq_true hl9, Bool.true_or]))
            clear hl9 he hnx H1 H2
            go_wp2_with fail
            with_reducible refine KL.out.mono ?_
            rintro e7 w8 ⟨rfl, rfl⟩
            clear KL
            go_wp2
            go_ret2
            exact RWritePost.no HE.out HBV.out rfl
          · have hl1 : (e : Int) - (j : Int) ≤ 998 := by omega
            have HE : Hid (longL (txt11 nm bd) = longF (f - 1) ((txt11 nm bd).drop nx)) := Lib.hid (by rw [H1.out, decide_eq_false hl9, Bool.false_or])
            have HNX : Hid (nx ≤ N ∧ j < nx) := Lib.hid (by omega)
            clear hl9 he hnx H1 hq0 hq1 hq2
            go_wp2_with fail
            with_reducible refine KL.out.mono ?_
            rintro e7 w8 ⟨rfl, rfl⟩
            have HNX2 : Hid (nx ≤ N ∧ N - nx < gk) := Lib.hid (by have := HNX.out; omega)
            clear KL HRB HBV HOV HTX HTL HT HW0 HW1 HW2 HW3 HFS HNX HNT HTZ HBD HNB HB6 HNM HBZ HSZ HNN hTz hfz hs2 hj2 hj3 hlt hj1 hj hNz
            go_wp2_with fail
            go_roundg (N - nx)
            case rel => exact ⟨rfl, nx, f - 1, by have := HNX2.out; omega, rfl, Lib.hid ⟨H2.out, HE.out⟩⟩
            case measure => exact HNX2.out.2
        · have hj3 : ¬ (j : Int) < (N : Int) := by omega
          have HE := Lib.hid (HW3.out H3.out HNB.out (by rw [H.out.2, List.drop_of_length_le (by rw [← HNT.out]; omega), longF_nil]))
          clear H
          go_wp2
          go_ret2
          unfold RWritePost
          rw [HE.out]
          exact ⟨HBV.out, some ⟨b6, 0, none⟩, cT, _, by rw [← HNT.out]; rfl, by have h := HOV.out; rw [HTL.out, HTZ.out] at h; exact h⟩
end Go.Proofs.YtgbbadbffcjamaaDoor
