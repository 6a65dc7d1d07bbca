/-
  The walk of waybillref11's Add. Conditions: the sizes.
-/
import Derived.Test.YtgbbadbffcjamaaDoorHdRWr
import Derived.Test.YtgbbadbffcjamaaDoorHdAdd
namespace Go.Proofs.YtgbbadbffcjamaaDoor
open Go.RowKit Go.Sort
set_option linter.unusedVariables false
set_option maxRecDepth 100000 in
set_option maxHeartbeats 2000000 in
theorem radd_walk (w : World) (A : Option Addr) (D : List UInt8) (n c : Nat) (s b : ByteArray) (hn : n = D.length) (hr : RB w w.heap.size A D) (hl : n ≤ 2000000) (hs : s.size ≤ 1100000) (hb : b.size ≤ 1100000) :
    Calls Tryd.prog 17 #[.slice A n c, .string s, .string b] w (AddPost w D s.data.toList b.data.toList) := by
  have KW := Lib.hid (rwrite_walk s b w hs hb)
  have hwl := wr11_len s.data.toList b.data.toList
  rw [← Lib.size_eq, ← Lib.size_eq] at hwl
  generalize s.data.toList = nm at *
  generalize b.data.toList = bd at *
  have HR := Lib.hid hr
  have HN := Lib.hid hn
  have HAD : Hid (add11 D nm bd = if (wr11 nm bd).2 = 0 then ((wr11 nm bd).1 ++ D, 0) else ([], (wr11 nm bd).2)) := Lib.hid rfl
  clear hr hn
  unfold RWritePost at KW
  obtain ⟨T, er, hW⟩ : ∃ T er, wr11 nm bd = (T, er) := ⟨_, _, rfl⟩
  rw [hW] at KW HAD hwl
  simp only [] at KW HAD hwl
  clear hW
  go_enter Tryd.func17, Tryd.ntmps17
  go_wp2_with fail
  with_reducible refine KW.out.mono ?_
  rintro e1 w1 ⟨hb1, A1, c1, own1, rfl, hQ1⟩
  have HB1 := Lib.hid hb1
  have HQ1 := Lib.hid hQ1
  clear hb1 hQ1 KW
  by_cases h0 : er = 0
  · subst h0
    have HE : Hid (add11 D nm bd = (T ++ D, 0)) := Lib.hid (by rw [HAD.out, if_pos rfl])
    have hz : ((0 : Int) != 0) = false := by decide
    clear HAD
    go_wp2_with (at_builtin; refine wpList_appQ _ u8S (.tmp 19) (.tmp 20) rfl rfl w.heap.size rfl HQ1.out _ _ rfl HN.out (HR.out.below HB1.out) (by have := HN.out; omega) HB1.out.size ?_; intro v2 own2 w2 hO2 hg2 ho2; obtain ⟨A2, cc2, rfl, -⟩ := hO2.out; have HO2 := Lib.hid hO2; have HB2 := Lib.hid (HB1.out.trans (HQ1.out.belowG hg2 HB1.out.size)); clear hO2 hg2 ho2)
    go_ret2
    unfold AddPost
    rw [HE.out]
    exact ⟨HB2.out, A2, cc2, by simp, OwnV.of_q HO2.out⟩
  · have HE : Hid (add11 D nm bd = ([], er)) := Lib.hid (by rw [HAD.out, if_neg h0])
    have hz : (er != 0) = true := by rw [bne_iff_ne]; exact h0
    clear HAD h0
    go_wp2
    go_ret2
    unfold AddPost
    rw [HE.out]
    exact ⟨HB1.out, none, 0, rfl, none, 0, rfl, Nat.le_refl _, by simp [maxLen], .inl rfl⟩
end Go.Proofs.YtgbbadbffcjamaaDoor
