/-
  The walk of waybillref11's Words. Conditions: a text's length.
-/
import Derived.Test.YtgbbadbffcjamaaDoorHdW
import Derived.Test.YtgbbadbffcjamaaDoorHdL
import Derived.Test.YtgbbadbffcjamaaDoorOwn
import Derived.Test.YtgbbadbffcjamaaDoorApp2
namespace Go.Proofs.YtgbbadbffcjamaaDoor
open Go.RowKit Go.Sort
set_option linter.unusedVariables false
def qBl (c : UInt8) : Bool := isBl c.toNat
theorem cutSp_app (s : ByteArray) (acc : List (Nat × Nat)) (a b : Nat) : cutSp s (acc ++ [(a, b)]) = cutSp s acc ++ [s.extract a b] := by simp [cutSp]
def stI : Option Nat → Int
  | none => -1
  | some a => (a : Int)
theorem words_spans (s : ByteArray) : (wordsL s.data.toList).map mkS = cutSp s (Lib.closeSpans s (spB qBl s.data.toList 0 none [])) := by
  have := cutSp_words (s := s) s.data.toList [] [] none [] (by simp) (.inl ⟨rfl, rfl⟩)
  have h2 : cutSp s (Lib.closeSpans s (spB qBl s.data.toList 0 none [])) = (wordsL s.data.toList).map mkS := by
    show cutSp s (Lib.closeSpans s (spB (fun c => isBl c.toNat) s.data.toList 0 none [])) = _
    simpa [cutSp, wordsL] using this
  exact h2.symm
theorem ueS : UE Tryd.prog 55 9 := by
  obtain ⟨i, h1, h2, h3, h4⟩ := info_parts (show (Tryd.prog.info? 9).map (fun i => (i.zero, i.size, i.bytes)) = some (some (.string ⟨#[]⟩), 1, 16) by kernel_rfl)
  exact ⟨Tryd.underlying55, i, _, h1, h2, rfl, h3, by omega⟩
def RWords (s : ByteArray) (w : World) (e : Ending) (w' : World) : Prop := Below w.heap.size w w' ∧ ∃ v, e = .returned v ∧ OwnS w' w.heap.size 9 v ((wordsL s.data.toList).map mkS)
set_option maxRecDepth 100000 in
set_option maxHeartbeats 2000000 in
theorem rwords_walk (s : ByteArray) (w : World) (hs : s.size < 4294967281) :
    Calls Tryd.prog 40 #[.string s] w (RWords s w) := by
  have hF := words_spans s
  obtain ⟨T, hT⟩ : ∃ T, T = spB qBl (s.data.toList.drop 0) 0 none [] := ⟨_, rfl⟩
  rw [List.drop_zero] at hT
  rw [← hT] at hF
  unfold RWords
  generalize (wordsL s.data.toList).map mkS = F at *
  have HF := Lib.hid hF
  have HT : Hid (T = spB qBl (s.data.toList.drop 0) 0 none []) := Lib.hid (by rw [List.drop_zero]; exact hT)
  have HSZ := Lib.hid (Lib.size_eq s)
  clear hF hT
  go_enter Tryd.func40, Tryd.ntmps40
  go_wp2_with fail
  go_loopg [3, 4, 5] (s.size + 1) (fun k out fr i wr => ∃ (j : Nat) (L : List ByteArray) (fv : Int), j + k = s.size + 1 ∧ i = .int .i64 j ∧ fr = .int .i64 fv ∧ -1 ≤ fv ∧ fv ≤ j ∧ L.length ≤ j ∧ Hid (Below w.heap.size w wr) ∧ Hid (OwnS wr w.heap.size 9 out L) ∧
    Hid (if j ≤ s.size then ∃ acc st, L = cutSp s acc ∧ fv = stI st ∧ T = spB qBl (s.data.toList.drop j) j st acc else L = F))
  case atStart => exact ⟨0, [], -1, by omega, rfl, rfl, by omega, by omega, by simp, Lib.hid (Below.refl _ _), Lib.hid (OwnS.nil _ _ _), Lib.hid (by rw [if_pos (by omega)]; exact ⟨[], none, rfl, rfl, HT.out⟩)⟩
  case round =>
    obtain ⟨j, L, fv, hj, rfl, rfl, hf0, hf1, hL, HB, HO, H⟩ := hrel
    clear HT
    by_cases hle : j ≤ s.size
    · have hle1 : (j : Int) ≤ (s.size : Int) := by omega
      have H' := H.out
      rw [if_pos hle] at H'
      obtain ⟨acc, st, hLa, hst, hTT⟩ := H'
      have HLA := Lib.hid hLa
      have HST := Lib.hid hst
      have HTT := Lib.hid hTT
      have hsz1 := HB.out.size
      clear H hLa hTT hst
      by_cases hlt : j < s.size
      · have hje : ((j : Int) == (s.size : Int)) = false := beq_eq_false_iff_ne.2 (by omega)
        have HD := Lib.hid (drop_at s hlt)
        have KB := Lib.hid (rblank_walk s[j] (s[j].toNat : Int) rfl wr)
        by_cases hc : blC s[j] = true
        · rw [hc] at KB
          cases st with
          | none =>
            obtain rfl : fv = -1 := HST.out
            have HN : Hid (T = spB qBl (s.data.toList.drop (j + 1)) (j + 1) none acc) := Lib.hid (by rw [HTT.out, HD.out]; exact spB_sep hc _ _ _)
            clear HTT HD HST
            go_wp2_with (with_reducible refine KB.out.mono ?_; rintro e30 w30 ⟨rfl, rfl⟩)
            go_roundg (gk - 1)
            case rel => exact ⟨j + 1, L, -1, by omega, by go_num, rfl, by omega, by omega, by omega, HB, HO, Lib.hid (by rw [if_pos (by omega)]; exact ⟨acc, none, HLA.out, rfl, HN.out⟩)⟩
            case measure => omega
          | some a =>
            obtain rfl : fv = (a : Int) := HST.out
            have HN : Hid (T = spB qBl (s.data.toList.drop (j + 1)) (j + 1) none (acc ++ [(a, j)])) := Lib.hid (by rw [HTT.out, HD.out]; exact spB_end hc _ _ _ _)
            have ha1 : a ≤ j := by omega
            have OA := Lib.hid (HO.out.alloc (.cells #[.string (s.extract a j)] 9))
            have BA := Lib.hid (HB.out.alloc hsz1 (.cells #[.string (s.extract a j)] 9))
            clear HTT HD HST
            go_wp2_with (first | (with_reducible refine KB.out.mono ?_; rintro e30 w30 ⟨rfl, rfl⟩) | (at_builtin; go_loud (refine wpList_appOneS _ ueS _ _ rfl rfl w.heap.size (by rfl) OA.out wr.heap.size 1 (by rfl) (s.extract a j) (cell_new _ _ _ (by simp)) (by omega) (by simp; omega) ?_; intro v3 w3 hown3 hbel3; have HO3 := Lib.hid hown3; have HB3 := Lib.hid (BA.out.trans hbel3); clear hown3 hbel3)))
            go_roundg (gk - 1)
            case rel => exact ⟨j + 1, _, -1, by omega, by go_num, rfl, by omega, by omega, by simp; omega, HB3, HO3, Lib.hid (by rw [if_pos (by omega)]; exact ⟨acc ++ [(a, j)], none, by rw [cutSp_app, HLA.out], rfl, HN.out⟩)⟩
            case measure => omega
        · have hc' : blC s[j] = false := by simpa using hc
          have HN : Hid (T = spB qBl (s.data.toList.drop (j + 1)) (j + 1) (some (st.getD j)) acc) := Lib.hid (by rw [HTT.out, HD.out]; exact spB_no hc' _ _ _ _)
          rw [hc'] at KB
          clear HTT HD hc
          cases st with
          | none =>
            obtain rfl : fv = -1 := HST.out
            clear HST
            go_wp2_with (with_reducible refine KB.out.mono ?_; rintro e30 w30 ⟨rfl, rfl⟩)
            go_roundg (gk - 1)
            case rel => exact ⟨j + 1, L, (j : Int), by omega, by go_num, rfl, by omega, by omega, by omega, HB, HO, Lib.hid (by rw [if_pos (by omega)]; exact ⟨acc, some j, HLA.out, rfl, HN.out⟩)⟩
            case measure => omega
          | some a =>
            obtain rfl : fv = (a : Int) := HST.out
            clear HST
            go_wp2_with (with_reducible refine KB.out.mono ?_; rintro e30 w30 ⟨rfl, rfl⟩)
            go_roundg (gk - 1)
            case rel => exact ⟨j + 1, L, (a : Int), by omega, by go_num, rfl, by omega, by omega, by omega, HB, HO, Lib.hid (by rw [if_pos (by omega)]; exact ⟨acc, some a, HLA.out, rfl, HN.out⟩)⟩
            case measure => omega
      · obtain rfl : j = s.size := by omega
        have HTE : Hid (T = (acc, st)) := Lib.hid (by rw [HTT.out, List.drop_of_length_le (by rw [← HSZ.out]; omega)]; rfl)
        clear HTT hlt hle
        cases st with
        | none =>
          obtain rfl : fv = -1 := HST.out
          have HN : Hid (L = F) := Lib.hid (by rw [HLA.out, HF.out, HTE.out]; rfl)
          clear HST
          go_wp2
          go_roundg (gk - 1)
          case rel => exact ⟨s.size + 1, L, -1, by omega, by go_num, rfl, by omega, by omega, by omega, HB, HO, Lib.hid (by rw [if_neg (by omega)]; exact HN.out)⟩
          case measure => omega
        | some a =>
          obtain rfl : fv = (a : Int) := HST.out
          have HN : Hid (L ++ [s.extract a s.size] = F) := Lib.hid (by rw [HLA.out, HF.out, HTE.out, ← cutSp_app]; rfl)
          have ha1 : a ≤ s.size := by omega
          have OA := Lib.hid (HO.out.alloc (.cells #[.string (s.extract a s.size)] 9))
          have BA := Lib.hid (HB.out.alloc hsz1 (.cells #[.string (s.extract a s.size)] 9))
          clear HST
          go_wp2_with (at_builtin; go_loud (refine wpList_appOneS _ ueS _ _ rfl rfl w.heap.size (by rfl) OA.out wr.heap.size 1 (by rfl) (s.extract a s.size) (cell_new _ _ _ (by simp)) (by omega) (by simp; omega) ?_; intro v3 w3 hown3 hbel3; have HO3 := Lib.hid hown3; have HB3 := Lib.hid (BA.out.trans hbel3); clear hown3 hbel3))
          go_roundg (gk - 1)
          case rel => exact ⟨s.size + 1, _, -1, by omega, by go_num, rfl, by omega, by omega, by simp; omega, HB3, HO3, Lib.hid (by rw [if_neg (by omega)]; exact HN.out)⟩
          case measure => omega
    · have hle1 : ¬ (j : Int) ≤ (s.size : Int) := by omega
      have hN : L = F := by have := H.out; rwa [if_neg hle] at this
      rw [hN] at HO
      clear H hN
      go_wp2
      go_ret
      exact ⟨HB.out, _, rfl, HO.out⟩
end Go.Proofs.YtgbbadbffcjamaaDoor
