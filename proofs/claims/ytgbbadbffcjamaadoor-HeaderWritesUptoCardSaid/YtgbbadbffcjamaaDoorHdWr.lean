/-
  The walk of the program's Write. Conditions: the texts' lengths.
-/
import Derived.Test.YtgbbadbffcjamaaDoorHdFo
import Derived.Test.YtgbbadbffcjamaaDoorHdS0
import Derived.Lib.SplitLaws
namespace Go.Proofs.YtgbbadbffcjamaaDoor
open Go.RowKit Go.Sort
set_option linter.unusedVariables false
def badC (c : UInt8) : Bool := decide ((c.toNat < 32 ∧ c.toNat ≠ 9) ∨ c.toNat = 127)
def txt11 (nm bd : List UInt8) : List UInt8 := nm ++ [58, 32] ++ fold11 bd ((nm.length : Int) + 2) ++ [13, 10]
/-- is a line of a text too long? -/
def longF : Nat → List UInt8 → Bool
  | 0, d => decide (998 < d.length)
  | f + 1, d => match cutCR d with
    | none => decide (998 < d.length)
    | some (x, y) => decide (998 < x.length) || longF f y
def longL (d : List UInt8) : Bool := longF d.length d
/-- a field's bytes, and what is wrong with it -/
def wr11 (nm bd : List UInt8) : List UInt8 × Int :=
  if bd.any badC = true then ([], 110) else if nameB nm = false then ([], 110) else if longL (txt11 nm bd) = true then ([], 111) else (txt11 nm bd, 0)
theorem split_long : ∀ (f : Nat) (d : List UInt8), d.length ≤ f → (Lib.splitK [13, 10] 0 (Lib.count d [13, 10]) d).any (fun x => decide (998 < x.length)) = longF f d
  | 0, d, h => by
    obtain rfl : d = [] := List.eq_nil_of_length_eq_zero (by omega)
    rfl
  | f + 1, d, h => by
    have hi := idx_crlf d
    rw [longF]
    cases e : cutCR d with
    | none =>
      rw [e] at hi
      rw [Lib.count_miss hi]
      simp [Lib.splitK]
    | some xy =>
      obtain ⟨x, y⟩ := xy
      rw [e] at hi
      simp only [] at hi
      obtain ⟨c1, c2, c3⟩ := cutCR_at e
      have ih := split_long f y (by omega)
      rw [Lib.count_hit (by simp) hi, Nat.add_comm, Lib.splitK, hi]
      have b1 : ((x.length : Int) == -1) = false := beq_eq_false_iff_ne.2 (by omega)
      rw [b1]
      simp only [Bool.false_eq_true, if_false, Int.toNat_natCast, Nat.add_zero]
      rw [show x.length + ([13, 10] : List UInt8).length = x.length + 2 by rfl, c2, List.any_cons, ih, c1]
theorem any_sizes (s : ByteArray) : (Lib.splitB ⟨#[13, 10]⟩ 0 (Lib.countB s ⟨#[13, 10]⟩) s).any (fun x => decide (998 < x.size)) = longL s.data.toList := by
  have h := Lib.splitB_data ⟨#[13, 10]⟩ 0 (Lib.countB s ⟨#[13, 10]⟩) s
  have h2 := split_long s.data.toList.length s.data.toList (Nat.le_refl _)
  unfold longL
  rw [← h2]
  have e : (⟨#[13, 10]⟩ : ByteArray).data.toList = [13, 10] := rfl
  rw [e] at h
  have hc : Lib.countB s ⟨#[13, 10]⟩ = Lib.count s.data.toList [13, 10] := rfl
  rw [hc] at h ⊢
  rw [← h, List.any_map]
  congr 1
/-- what Write answers -/
def WritePost (w : World) (nm bd : List UInt8) (e : Ending) (w' : World) : Prop :=
  Below w.heap.size w w' ∧ ∃ A c, e = .returned (.tuple #[.slice A (wr11 nm bd).1.length c, .int .i64 (wr11 nm bd).2]) ∧ OwnV w' w.heap.size (.slice A (wr11 nm bd).1.length c) (wr11 nm bd).1
theorem WritePost.no {w w' : World} {nm bd : List UInt8} {e : Ending} {er : Int} (h : wr11 nm bd = ([], er)) (hb : Below w.heap.size w w') (he : e = .returned (.tuple #[.slice none 0 0, .int .i64 er])) : WritePost w nm bd e w' := by
  unfold WritePost
  rw [h]
  exact ⟨hb, none, 0, he, none, 0, rfl, Nat.le_refl _, by simp [maxLen], .inl rfl⟩
theorem bad_yes {c : UInt8} (h : badC c = true) : ((c.toNat : Int) < 32 ∧ ((c.toNat : Int) != 9) = true) ∨ (¬ (c.toNat : Int) < 32 ∧ ((c.toNat : Int) == 127) = true) := by
  have := of_decide_eq_true h
  by_cases h1 : (c.toNat : Int) < 32
  · exact .inl ⟨h1, by rw [bne_iff_ne]; omega⟩
  · exact .inr ⟨h1, by rw [beq_iff_eq]; omega⟩
theorem bad_no {c : UInt8} (h : badC c = false) : ((c.toNat : Int) < 32 ∧ ((c.toNat : Int) != 9) = false ∧ ((c.toNat : Int) == 127) = false) ∨ (¬ (c.toNat : Int) < 32 ∧ ((c.toNat : Int) == 127) = false) := by
  have := of_decide_eq_false h
  have h2 : ((c.toNat : Int) == 127) = false := by rw [beq_eq_false_iff_ne]; omega
  by_cases h1 : (c.toNat : Int) < 32
  · exact .inl ⟨h1, by rw [bne_eq_false_iff_eq]; omega, h2⟩
  · exact .inr ⟨h1, h2⟩
theorem any_drop {s : ByteArray} {j : Nat} (h : j < s.size) : (s.data.toList.drop j).any badC = (badC s[j] || (s.data.toList.drop (j + 1)).any badC) := by
  have hl : j < s.data.toList.length := by rw [← Lib.size_eq]; exact h
  rw [List.drop_eq_getElem_cons hl]
  rfl
set_option maxRecDepth 100000 in
set_option maxHeartbeats 4000000 in
theorem write_walk (s b : ByteArray) (w : World) (hM : Mx w) (hs : s.size ≤ 1100000) (hb : b.size ≤ 1100000) :
    Calls Tryd.prog 16 #[.string s, .string b] w (WritePost w s.data.toList b.data.toList) := by
  obtain ⟨nm, hnm⟩ : ∃ nm, nm = s.data.toList := ⟨_, rfl⟩
  obtain ⟨bd, hbd⟩ : ∃ bd, bd = b.data.toList := ⟨_, rfl⟩
  rw [← hnm, ← hbd]
  have hsz : nm.length = s.size := by rw [hnm, ← Lib.size_eq]
  have hbz : bd.length = b.size := by rw [hbd, ← Lib.size_eq]
  have HM := Lib.hid hM
  have HBD := Lib.hid hbd
  have KN := Lib.hid fun w' => name_walk s w' (by omega)
  rw [← hnm] at KN
  have KF := Lib.hid fun w' => fold_walk b ((nm.length : Int) + 2) w' (by omega) (by omega) (by omega)
  rw [← hbd, hsz] at KF
  have HTX : Hid (txt11 nm bd = nm ++ [58, 32] ++ fold11 bd ((s.size : Int) + 2) ++ [13, 10]) := Lib.hid (by unfold txt11; rw [hsz])
  have hFl : (fold11 bd ((s.size : Int) + 2)).length ≤ 4400000 := by have := fold11_len bd ((s.size : Int) + 2); omega
  have HNM := Lib.hid hnm
  have HBZ := Lib.hid hbz
  have HSZ := Lib.hid hsz
  obtain ⟨FS, hFS⟩ : ∃ FS : ByteArray, FS = ⟨(fold11 bd ((s.size : Int) + 2)).toArray⟩ := ⟨_, rfl⟩
  rw [← hFS] at KF
  have HFS : Hid (FS.data.toList = fold11 bd ((s.size : Int) + 2)) := Lib.hid (by rw [hFS])
  have hfz : FS.size ≤ 4400000 := by rw [Lib.size_eq, HFS.out]; exact hFl
  obtain ⟨T, hT⟩ : ∃ T : ByteArray, T = s ++ ⟨#[58, 32]⟩ ++ FS ++ ⟨#[13, 10]⟩ := ⟨_, rfl⟩
  have hTl : T.data.toList = txt11 nm bd := by
    rw [HTX.out, hT]
    simp only [ByteArray.data_append, Array.toList_append, HFS.out]
    rw [hnm]
  have hTz : T.size ≤ 6000000 := by
    rw [Lib.size_eq, hTl, HTX.out]
    simp
    omega
  have HT := Lib.hid hT
  have HTL := Lib.hid hTl
  have HBK : Hid (∀ w', Below w.heap.size w w' → Mx w') := Lib.hid fun w' h => HM.out.below h
  have HW0 : Hid (bd.any badC = true → wr11 nm bd = ([], 110)) := Lib.hid fun h => if_pos h
  have HW1 : Hid (bd.any badC = false → nameB nm = false → wr11 nm bd = ([], 110)) := Lib.hid fun h1 h2 => by unfold wr11; rw [if_neg (by rw [h1]; simp), if_pos h2]
  have HW2 : Hid (bd.any badC = false → nameB nm = true → longL (txt11 nm bd) = true → wr11 nm bd = ([], 111)) := Lib.hid fun h1 h2 h3 => by unfold wr11; rw [if_neg (by rw [h1]; simp), if_neg (by rw [h2]; simp), if_pos h3]
  have HW3 : Hid (bd.any badC = false → nameB nm = true → longL (txt11 nm bd) = false → wr11 nm bd = (txt11 nm bd, 0)) := Lib.hid fun h1 h2 h3 => by unfold wr11; rw [if_neg (by rw [h1]; simp), if_neg (by rw [h2]; simp), if_neg (by rw [h3]; simp)]
  clear hnm hbd hsz hbz hM hFS hFl hT hTl
  go_enter Tryd.func16, Tryd.ntmps16
  go_wp2_with fail
  go_loopg [13] b.size (fun k i wr => w = wr ∧ ∃ j : Nat, j + k = b.size ∧ i = .int .i64 (j : Int) ∧ Hid (bd.any badC = (b.data.toList.drop j).any badC))
  case atStart => exact ⟨rfl, 0, by omega, rfl, Lib.hid (by rw [HBD.out, List.drop_zero])⟩
  case round =>
    obtain ⟨rfl, j, hj, rfl, H⟩ := hrel
    by_cases hlt : j < b.size
    · have hj1 : (j : Int) < (b.size : Int) := by omega
      have H2 : Hid (bd.any badC = (badC b[j] || (b.data.toList.drop (j + 1)).any badC)) := Lib.hid (by rw [H.out, any_drop hlt])
      clear H
      by_cases hn : badC b[j] = true
      · have HE := Lib.hid (HW0.out (by rw [H2.out, hn, Bool.true_or]))
        rcases bad_yes hn with ⟨a1, a2⟩ | ⟨a1, a2⟩
        all_goals
          clear hn H2
          go_wp2
          go_ret2
          exact WritePost.no HE.out (Below.refl _ _) rfl
      · have hn : badC b[j] = false := by simpa using hn
        have H3 : Hid (bd.any badC = (b.data.toList.drop (j + 1)).any badC) := Lib.hid (by rw [H2.out, hn, Bool.false_or])
        rcases bad_no hn with ⟨a1, a2, a3⟩ | ⟨a1, a2⟩
        all_goals
          clear hn H2
          go_wp2
          go_roundg (gk - 1)
          case rel => exact ⟨rfl, j + 1, by omega, by go_num, H3⟩
          case measure => omega
    · have hj1 : ¬ (j : Int) < (b.size : Int) := by omega
      have H3 : Hid (bd.any badC = false) := Lib.hid (by rw [H.out, List.drop_of_length_le (by rw [← Lib.size_eq]; omega)]; rfl)
      clear H
      have KN2 := Lib.hid (KN.out w)
      obtain ⟨nb, hnb⟩ : ∃ nb, nameB nm = nb := ⟨_, rfl⟩
      rw [hnb] at KN2
      cases nb
      · have HE := Lib.hid (HW1.out H3.out hnb)
        go_wp2_with (with_reducible refine KN2.out.mono ?_; rintro e5 w5 ⟨rfl, rfl⟩)
        go_ret2
        exact WritePost.no HE.out (Below.refl _ _) rfl
      · have KF2 := Lib.hid (KF.out w)
        have hs2 : (s.size : Int) + 2 ≤ 9223372036854775807 := by omega
        go_wp2_with fail
        with_reducible refine KN2.out.mono ?_
        rintro e5 w5 ⟨rfl, rfl⟩
        go_wp2_with fail
        with_reducible refine KF2.out.mono ?_
        rintro e6 w6 ⟨hb6, rfl⟩
        have HB6 := Lib.hid hb6
        clear hb6 KF KF2 KN KN2
        have hTe := HT.out.symm
        go_upto_region 11 with fail
        clear hTe
        obtain ⟨m, hm⟩ := HBK.out w6 HB6.out
        have KS := Lib.hid (Tryd.strings_Split T ⟨#[13, 10]⟩ m w6 (by omega) hm (by decide))
        have hPn := Lib.splitB_all ⟨#[13, 10]⟩ (by decide) 0 (Lib.countB T ⟨#[13, 10]⟩) T rfl
        have hPl := any_sizes T
        rw [HTL.out] at hPl
        obtain ⟨np, hnp⟩ : ∃ np, Lib.countB T ⟨#[13, 10]⟩ + 1 = np := ⟨_, rfl⟩
        have hnp2 : np ≤ 6000001 := by have := Lib.countB_le ⟨#[13, 10]⟩ (by decide) T.size T (Nat.le_refl _); omega
        rw [hnp] at KS hPn
        obtain ⟨Ps, hPs⟩ : ∃ Ps, Lib.splitB ⟨#[13, 10]⟩ 0 (Lib.countB T ⟨#[13, 10]⟩) T = Ps := ⟨_, rfl⟩
        rw [hPs] at KS hPn hPl
        have HPN := Lib.hid hPn
        have HPL := Lib.hid hPl
        clear hm hPn hPl hnp hPs
        go_wp2_with fail
        with_reducible refine KS.out.mono ?_
        rintro e7 w7 ⟨rfl, rfl⟩
        have HK7 := Lib.hid (Blk.new w6 9 (Ps.map Value.string).toArray)
        have HB7 : Hid (Below w.heap.size w (w6.alloc (.cells (Ps.map Value.string).toArray 9))) := Lib.hid (HB6.out.alloc HB6.out.size _)
        generalize (w6.alloc (.cells (Ps.map Value.string).toArray 9)) = w7 at *
        generalize w6.heap.size = b7 at *
        clear KS HB6
        go_wp2_with fail
        go_loopg [45] np (fun k i wr => w7 = wr ∧ ∃ j : Nat, j + k = np ∧ i = .int .i64 (j : Int) ∧ Hid ((Ps.drop j).any (fun x => decide (998 < x.size)) = longL (txt11 nm bd)))
        case atStart => exact ⟨rfl, 0, by omega, rfl, Lib.hid (by rw [List.drop_zero]; exact HPL.out)⟩
        case round =>
          obtain ⟨rfl, j2, hj2, rfl, H⟩ := hrel
          by_cases hlt2 : j2 < np
          · have hj3 : (j2 : Int) < (np : Int) := by omega
            obtain ⟨x, hx⟩ : ∃ x, Ps[j2]? = some x := ⟨_, List.getElem?_eq_getElem (by rw [HPN.out]; exact hlt2)⟩
            have cx : w7.cell? ⟨b7, j2, none⟩ = some (.string x) := by
              rw [HK7.out.cell j2]; simp [hx]
            have H2 : Hid ((decide (998 < x.size) || (Ps.drop (j2 + 1)).any (fun x => decide (998 < x.size))) = longL (txt11 nm bd)) := Lib.hid (by
              rw [← H.out]
              obtain ⟨h9, rfl⟩ := List.getElem?_eq_some_iff.1 hx
              rw [List.drop_eq_getElem_cons h9]
              rfl)
            clear H hx
            by_cases hl : 998 < x.size
            · have hl1 : (998 : Int) < (x.size : Int) := by omega
              have HE := Lib.hid (HW2.out H3.out hnb (by rw [← H2.out, decide_eq_true hl, Bool.true_or]))
              clear hl H2
              go_wp2
              go_ret2
              exact WritePost.no HE.out HB7.out rfl
            · have hl1 : ¬ (998 : Int) < (x.size : Int) := by omega
              have HE : Hid ((Ps.drop (j2 + 1)).any (fun x => decide (998 < x.size)) = longL (txt11 nm bd)) := Lib.hid (by rw [← H2.out, decide_eq_false hl, Bool.false_or])
              clear hl H2
              go_wp2
              go_roundg (np - (j2 + 1))
              case rel => exact ⟨rfl, j2 + 1, by omega, by go_num, HE⟩
              case measure => omega
          · have hj3 : ¬ (j2 : Int) < (np : Int) := by omega
            have HE := Lib.hid (HW3.out H3.out hnb (by rw [← H.out, List.drop_of_length_le (by rw [HPN.out]; omega)]; rfl))
            have hcv := Lib.run_convert_string_bytes (P := Tryd.prog) w7 9 22 5 T Tryd.underlying9 Tryd.underlying22 Tryd.underlying5
            have HOV := Lib.hid (OwnV.of_w (OwnW.conv w7 5 T w.heap.size (by unfold maxLen; omega) HB7.out.size))
            have HBV := Lib.hid (HB7.out.trans ((below_bytesWorld w7 5 T).mono HB7.out.size))
            have HTZ : Hid (T.size = (txt11 nm bd).length) := Lib.hid (by rw [← HTL.out, ← Lib.size_eq])
            clear H
            generalize grownCap w7 T.size 0 5 = cT at *
            go_wp2_with fail
            go_ret2
            unfold WritePost
            rw [HE.out]
            exact ⟨HBV.out, _, cT, by rw [← HTZ.out]; rfl, by have h := HOV.out; rw [HTL.out, HTZ.out] at h; exact h⟩
end Go.Proofs.YtgbbadbffcjamaaDoor
