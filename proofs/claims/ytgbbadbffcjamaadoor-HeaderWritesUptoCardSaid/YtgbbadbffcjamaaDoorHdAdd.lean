/-
  The walk of the program's Add. Conditions: the sizes.
-/
import Derived.Test.YtgbbadbffcjamaaDoorHdWr
import Derived.Test.YtgbbadbffcjamaaDoorHdCc
namespace Go.Proofs.YtgbbadbffcjamaaDoor
open Go.RowKit Go.Sort
set_option linter.unusedVariables false
/-- what Add answers -/
def add11 (D nm bd : List UInt8) : List UInt8 × Int := if (wr11 nm bd).2 = 0 then ((wr11 nm bd).1 ++ D, 0) else ([], (wr11 nm bd).2)
def AddPost (w : World) (D nm bd : List UInt8) (e : Ending) (w' : World) : Prop :=
  Below w.heap.size w w' ∧ ∃ A c, e = .returned (.tuple #[.slice A (add11 D nm bd).1.length c, .int .i64 (add11 D nm bd).2]) ∧ OwnV w' w.heap.size (.slice A (add11 D nm bd).1.length c) (add11 D nm bd).1
theorem wr11_len (nm bd : List UInt8) : (wr11 nm bd).1.length ≤ nm.length + 4 * bd.length + 4 := by
  have h := fold11_len bd ((nm.length : Int) + 2)
  have ht : (txt11 nm bd).length ≤ nm.length + 4 * bd.length + 4 := by unfold txt11; simp; omega
  unfold wr11
  split
  · simp
  split
  · simp
  split
  · simp
  · exact ht
set_option maxRecDepth 100000 in
set_option maxHeartbeats 2000000 in
theorem add_walk (w : World) (hM : Mx w) (A : Option Addr) (D : List UInt8) (n c : Nat) (s b : ByteArray) (hn : n = D.length) (hr : RB w w.heap.size A D) (hl : n ≤ 2000000) (hs : s.size ≤ 1100000) (hb : b.size ≤ 1100000) :
    Calls Tryd.prog 18 #[.slice A n c, .string s, .string b] w (AddPost w D s.data.toList b.data.toList) := by
  have KW := Lib.hid (write_walk s b w hM hs hb)
  have hwl := wr11_len s.data.toList b.data.toList
  rw [← Lib.size_eq, ← Lib.size_eq] at hwl
  generalize s.data.toList = nm at *
  generalize b.data.toList = bd at *
  have HR := Lib.hid hr
  have HN := Lib.hid hn
  have HAD : Hid (add11 D nm bd = if (wr11 nm bd).2 = 0 then ((wr11 nm bd).1 ++ D, 0) else ([], (wr11 nm bd).2)) := Lib.hid rfl
  clear hr hn hM
  unfold WritePost at KW
  obtain ⟨T, er, hW⟩ : ∃ T er, wr11 nm bd = (T, er) := ⟨_, _, rfl⟩
  rw [hW] at KW HAD hwl
  simp only [] at KW HAD hwl
  clear hW
  go_enter Tryd.func18, Tryd.ntmps18
  go_wp2_with fail
  with_reducible refine KW.out.mono ?_
  rintro e1 w1 ⟨hb1, A1, c1, rfl, hV1⟩
  have HB1 := Lib.hid hb1
  have HV1 := Lib.hid hV1
  clear hb1 hV1 KW
  by_cases h0 : er = 0
  · subst h0
    have HE : Hid (add11 D nm bd = (T ++ D, 0)) := Lib.hid (by rw [HAD.out, if_pos rfl])
    obtain ⟨tn, htn⟩ : ∃ tn, tn = T.length := ⟨_, rfl⟩
    have HTN := Lib.hid htn
    rw [← htn] at hwl HV1 ⊢
    have hz : ((0 : Int) != 0) = false := by decide
    have hba := (Below.refl w1.heap.size w1).alloc (Nat.le_refl _) (.cells #[.slice A1 tn c1, .slice A n c] 22)
    have HBa := Lib.hid (HB1.out.trans (hba.mono HB1.out.size))
    have HK := Blk.new w1 22 #[.slice A1 tn c1, .slice A n c]
    have KC := Lib.hid (conc_walk (w1.alloc (.cells #[.slice A1 tn c1, .slice A n c] 22)) w1.heap.size A1 A T D tn c1 n c (HK.cell 0) (HK.cell 1) ((HV1.out.below hba).sl.2.2.2) ((HR.out.below HBa.out).mono HBa.out.size) HTN.out HN.out (by omega))
    clear hba HK htn HAD
    go_wp2_with fail
    with_reducible refine KC.out.mono ?_
    rintro e2 w2 ⟨hb2, A2, n2, c2, rfl, hV2⟩
    have HB2 := Lib.hid (HBa.out.trans (hb2.mono HBa.out.size))
    have hle : w.heap.size ≤ (w1.alloc (.cells #[.slice A1 tn c1, .slice A n c] 22)).heap.size := HBa.out.size
    obtain ⟨hn2, -⟩ := hV2.sl
    have HN2 := Lib.hid hn2
    have HV2 := Lib.hid (hV2.mono hle)
    clear hn2 hV2
    go_wp2
    go_ret2
    unfold AddPost
    rw [HE.out]
    obtain rfl : n2 = (T ++ D).length := HN2.out
    exact ⟨HB2.out, A2, c2, rfl, HV2.out⟩
  · have HE : Hid (add11 D nm bd = ([], er)) := Lib.hid (by rw [HAD.out, if_neg h0])
    have hz : (er != 0) = true := by rw [bne_iff_ne]; exact h0
    clear HAD h0
    go_wp2
    go_ret2
    unfold AddPost
    rw [HE.out]
    exact ⟨HB1.out, none, 0, rfl, none, 0, rfl, Nat.le_refl _, by simp [maxLen], .inl rfl⟩
end Go.Proofs.YtgbbadbffcjamaaDoor
