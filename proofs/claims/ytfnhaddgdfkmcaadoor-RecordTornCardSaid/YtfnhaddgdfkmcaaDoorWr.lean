/-
  The walks of record's writer: number, text. No condition but what the writer holds.
-/
import Derived.Test.YtfnhaddgdfkmcaaDoorApp2
import Derived.Test.YtfnhaddgdfkmcaaDoorNum
namespace Go.Proofs.YtfnhaddgdfkmcaaDoor
open Go.RowKit Go.Sort
set_option linter.unusedVariables false

/-- a writer in memory: block g holds the bytes l and the marks' places L -/
def WrAt (w : World) (g : Nat) (l : List UInt8) (L : List Int) : Prop :=
  ∃ v v2, Blk w g 53 #[v, v2] ∧ OwnB w (g + 1) 5 v l ∧ OwnI w (g + 1) 3 v2 L
theorem WrAt.keep {w w' : World} {g : Nat} {l : List UInt8} {L : List Int} (h : WrAt w g l L) (hb : Below w.heap.size w w') : WrAt w' g l L := by
  obtain ⟨v, v2, h1, h2, h3⟩ := h
  exact ⟨v, v2, h1.keep hb, h2.below hb, h3.below hb⟩
theorem WrAt.lt {w : World} {g : Nat} {l : List UInt8} {L : List Int} (h : WrAt w g l L) : g < w.heap.size := by
  obtain ⟨v, v2, h1, h2, h3⟩ := h
  exact h1.lt
theorem numB_len (n : Int) : (numB n).length ≤ 21 := by
  unfold numB
  split
  · simp
  · have := decDigits_len (u := n.toNat) (by omega)
    simp; omega
theorem textB_len (l : List UInt8) : (textB l).length ≤ 1048600 := by
  unfold textB
  split
  · simp
  · have := decDigits_len (u := l.length) (by omega)
    simp; omega

set_option maxHeartbeats 1000000 in
theorem wnumber_walk (g : Nat) (kind : ByteArray) (n : Int) (l : List UInt8) (L : List Int) (w : World) (h : WrAt w g l L) (h0 : -9223372036854775808 ≤ n) (h1 : n ≤ 9223372036854775807) (T : Pow10 w)
    (hk : kind.size ≤ 1000) (hl : l.length ≤ 100000000000000) :
    Calls Tryd.prog 47 #[.pointer (some ⟨g, 0, none⟩), .string kind, .int .i64 n] w fun e w' =>
      Below g w w' ∧ WrAt w' g (l ++ (kind.data.toList ++ numB n)) L ∧ e = .returned (.tuple #[]) := by
  obtain ⟨v, v2, hb, ho, hi⟩ := h
  have HN := Lib.hid (number_any n w h0 h1 T)
  have hnl := numB_len n
  have hg := hb.lt
  generalize numB n = nb at *
  generalize numE n = ne at *
  have HB := Lib.hid hb
  have HO := Lib.hid ho
  have HI := Lib.hid hi
  clear hb ho hi T
  go_enter Tryd.func47, Tryd.ntmps47
  go_wp2_with fail
  refine HN.out.mono ?_
  rintro e w1 ⟨hb1, v3, rfl, ho3⟩
  obtain ⟨A3, c3, rfl, hc3, hm3, hr3⟩ := ho3.out
  have hs1 := hb1.size
  have B1 := HB.out.keep hb1
  have O1 := HO.out.below hb1
  have I1 := HI.out.below hb1
  have k0 : w1.cell? ⟨g, 0, none⟩ = some v := B1.cell 0
  have f0 := B1.frozen 0
  have HB1 := Lib.hid B1
  have HO1 := Lib.hid O1
  have HI1 := Lib.hid I1
  have HY := Lib.hid (own_young ho3 HO.out (Nat.le_refl _))
  have HO3 := Lib.hid ho3
  clear B1 O1 I1 hr3 ho3 HB HO HI
  have hs1' : g + 1 ≤ w1.heap.size := by omega
  have hnb : (l ++ kind.data.toList).length + nb.length ≤ 200000000000000 := by rw [List.length_append, ← size_len]; omega
  have HNB := Lib.hid hnb
  have hlk : l.length + kind.size ≤ 140737488355328 := by omega
  have HLK := Lib.hid hlk
  clear hnb hlk hl hk h0 h1 hnl hm3 hc3
  go_wp2_with (first
    | (at_builtin; (refine wpList_appSg _ u8 Tryd.underlying9 (.tmp 17) (.tmp 18) rfl rfl (g + 1) rfl HO1.out kind rfl HLK.out hs1' ?_; intro v4 w4 ho4 hg4; have HO4 := Lib.hid ho4; have HG4 := Lib.hid hg4; clear ho4 hg4))
    | (at_builtin; (refine wpList_appBg _ u8 (.tmp 19) (.tmp 20) rfl rfl (g + 1) rfl HO4.out _ _ rfl rfl (HO3.out.kept HG4.out HY.out).rb HNB.out (Nat.le_trans hs1' HG4.out.size) ?_; intro v5 w5 ho5 hg5; obtain ⟨A5, n5, c5, rfl⟩ := ho5.sl; have B5 := (HB1.out.own HO1.out HG4.out (Nat.lt_succ_self g)).own HO4.out hg5 (Nat.lt_succ_self g); have f5 := B5.frozen 0; have k5 : w5.cell? ⟨g, 0, none⟩ = some v := B5.cell 0; have HB5 := Lib.hid B5; have HO5 := Lib.hid ho5; have HG5 := Lib.hid hg5; clear ho5 hg5 B5)))
  go_end0
  have I4 := HI1.out.kept HG4.out (own_ne HI1.out HO1.out (by decide))
  have I5 := I4.kept HG5.out (own_ne I4 HO4.out (by decide))
  have b5 := ((hb1.mono (Nat.le_of_lt hg)).trans ((below_of_own HO1.out HG4.out hs1').mono (Nat.le_succ g))).trans ((below_of_own HO4.out HG5.out (Nat.le_trans hs1' HG4.out.size)).mono (Nat.le_succ g))
  exact ⟨b5.setCell (Nat.le_refl _) _, ⟨_, v2, HB5.out.set_ 0 _, by rw [← List.append_assoc]; exact HO5.out.far (p := ⟨g, 0, none⟩) (Nat.lt_succ_self g) _, I5.far (p := ⟨g, 0, none⟩) (Nat.lt_succ_self g) _⟩, rfl⟩
set_option maxHeartbeats 1000000 in
theorem wtext_walk (g : Nat) (kind : ByteArray) (s : ByteArray) (l : List UInt8) (L : List Int) (w : World) (h : WrAt w g l L) (hs : s.size ≤ maxLen) (T : Pow10 w)
    (hk : kind.size ≤ 1000) (hl : l.length ≤ 100000000000000) :
    Calls Tryd.prog 48 #[.pointer (some ⟨g, 0, none⟩), .string kind, .string s] w fun e w' =>
      Below g w w' ∧ WrAt w' g (l ++ (kind.data.toList ++ textB s.data.toList)) L ∧ e = .returned (.tuple #[]) := by
  obtain ⟨v, v2, hb, ho, hi⟩ := h
  have HN := Lib.hid (text_any s w hs T)
  have hnl := textB_len s.data.toList
  have hg := hb.lt
  generalize textB s.data.toList = nb at *
  generalize textE s.data.toList = ne at *
  have HB := Lib.hid hb
  have HO := Lib.hid ho
  have HI := Lib.hid hi
  clear hb ho hi T
  go_enter Tryd.func48, Tryd.ntmps48
  go_wp2_with fail
  refine HN.out.mono ?_
  rintro e w1 ⟨hb1, v3, rfl, ho3⟩
  obtain ⟨A3, c3, rfl, hc3, hm3, hr3⟩ := ho3.out
  have hs1 := hb1.size
  have B1 := HB.out.keep hb1
  have O1 := HO.out.below hb1
  have I1 := HI.out.below hb1
  have k0 : w1.cell? ⟨g, 0, none⟩ = some v := B1.cell 0
  have f0 := B1.frozen 0
  have HB1 := Lib.hid B1
  have HO1 := Lib.hid O1
  have HI1 := Lib.hid I1
  have HY := Lib.hid (own_young ho3 HO.out (Nat.le_refl _))
  have HO3 := Lib.hid ho3
  clear B1 O1 I1 hr3 ho3 HB HO HI
  have hs1' : g + 1 ≤ w1.heap.size := by omega
  have hnb : (l ++ kind.data.toList).length + nb.length ≤ 200000000000000 := by rw [List.length_append, ← size_len]; omega
  have HNB := Lib.hid hnb
  have hlk : l.length + kind.size ≤ 140737488355328 := by omega
  have HLK := Lib.hid hlk
  clear hnb hlk hl hk hs hnl hm3 hc3
  go_wp2_with (first
    | (at_builtin; (refine wpList_appSg _ u8 Tryd.underlying9 (.tmp 17) (.tmp 18) rfl rfl (g + 1) rfl HO1.out kind rfl HLK.out hs1' ?_; intro v4 w4 ho4 hg4; have HO4 := Lib.hid ho4; have HG4 := Lib.hid hg4; clear ho4 hg4))
    | (at_builtin; (refine wpList_appBg _ u8 (.tmp 19) (.tmp 20) rfl rfl (g + 1) rfl HO4.out _ _ rfl rfl (HO3.out.kept HG4.out HY.out).rb HNB.out (Nat.le_trans hs1' HG4.out.size) ?_; intro v5 w5 ho5 hg5; obtain ⟨A5, n5, c5, rfl⟩ := ho5.sl; have B5 := (HB1.out.own HO1.out HG4.out (Nat.lt_succ_self g)).own HO4.out hg5 (Nat.lt_succ_self g); have f5 := B5.frozen 0; have k5 : w5.cell? ⟨g, 0, none⟩ = some v := B5.cell 0; have HB5 := Lib.hid B5; have HO5 := Lib.hid ho5; have HG5 := Lib.hid hg5; clear ho5 hg5 B5)))
  go_end0
  have I4 := HI1.out.kept HG4.out (own_ne HI1.out HO1.out (by decide))
  have I5 := I4.kept HG5.out (own_ne I4 HO4.out (by decide))
  have b5 := ((hb1.mono (Nat.le_of_lt hg)).trans ((below_of_own HO1.out HG4.out hs1').mono (Nat.le_succ g))).trans ((below_of_own HO4.out HG5.out (Nat.le_trans hs1' HG4.out.size)).mono (Nat.le_succ g))
  exact ⟨b5.setCell (Nat.le_refl _) _, ⟨_, v2, HB5.out.set_ 0 _, by rw [← List.append_assoc]; exact HO5.out.far (p := ⟨g, 0, none⟩) (Nat.lt_succ_self g) _, I5.far (p := ⟨g, 0, none⟩) (Nat.lt_succ_self g) _⟩, rfl⟩
end Go.Proofs.YtfnhaddgdfkmcaaDoor
