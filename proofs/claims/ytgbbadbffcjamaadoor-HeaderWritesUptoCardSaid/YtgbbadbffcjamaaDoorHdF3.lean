/-
  The walks of both Find. Conditions: the sizes.
-/
import Derived.Test.YtgbbadbffcjamaaDoorHdF2
import Derived.Laws.ResultCell
namespace Go.Proofs.YtgbbadbffcjamaaDoor
open Go.RowKit
set_option linter.unusedVariables false
theorem find_drop (t : ByteArray) {L : List Fd} {j : Nat} {g : Fd} (hg : L[j]? = some g) : find11 t (L.drop j) = if sameB ⟨g.nm.toArray⟩ t = true then some g else find11 t (L.drop (j + 1)) := by
  obtain ⟨h9, rfl⟩ := List.getElem?_eq_some_iff.1 hg
  rw [List.drop_eq_getElem_cons h9]
  rfl
/-- a store of a whole field into a block that held one -/
theorem Blk.field {w0 w : World} {z : Nat} {cs : Array Value} (h : Blk w z 29 cs) (hc : cs.size = 4) (hb : Below z w0 w) (a b c d : Value) :
    Below z w0 ((((w.setCell ⟨z, 0, none⟩ a).setCell ⟨z, 1, none⟩ b).setCell ⟨z, 2, none⟩ c).setCell ⟨z, 3, none⟩ d) ∧
    Blk ((((w.setCell ⟨z, 0, none⟩ a).setCell ⟨z, 1, none⟩ b).setCell ⟨z, 2, none⟩ c).setCell ⟨z, 3, none⟩ d) z 29 #[a, b, c, d] := by
  refine ⟨(((hb.setCell (p := ⟨z, 0, none⟩) (Nat.le_refl _) _).setCell (p := ⟨z, 1, none⟩) (Nat.le_refl _) _).setCell (p := ⟨z, 2, none⟩) (Nat.le_refl _) _).setCell (p := ⟨z, 3, none⟩) (Nat.le_refl _) _, ?_⟩
  have := (((h.set_ 0 a).set_ 1 b).set_ 2 c).set_ 3 d
  obtain ⟨l⟩ := cs
  match l, hc with
  | [x1, x2, x3, x4], _ => exact this
set_option maxRecDepth 100000 in
set_option maxHeartbeats 1000000 in
theorem rfind_walk (w : World) (A : Option Addr) (L : List Fd) (n c : Nat) (t : ByteArray) (hn : n = L.length) (hr : RF w w.heap.size A L) (hL : smallF L) (hl : n ≤ 2000000) (ht : t.size ≤ 2000000) :
    Calls Tryd.prog 12 #[.slice A n c, .string t] w (FindPost w t L) := by
  have HR := Lib.hid hr
  have HN := Lib.hid hn
  have HL := Lib.hid hL
  have KS := Lib.hid (fun (a : ByteArray) w' (ha : a.size ≤ 2000000) => rsame_walk a t w' (by unfold maxLen; omega) (by unfold maxLen; omega))
  unfold FindPost
  obtain ⟨F, hF⟩ : ∃ F, find11 t L = F := ⟨_, rfl⟩
  rw [hF]
  have HF := Lib.hid hF
  clear hr hn hL hF
  have HZ0 := Lib.hid (Blk.new w 29 #[.string ⟨#[]⟩, .string ⟨#[]⟩, .int .i64 0, .int .i64 0])
  have HB0 := Lib.hid ((Below.refl w.heap.size w).alloc (Nat.le_refl _) (.cells #[.string ⟨#[]⟩, .string ⟨#[]⟩, .int .i64 0, .int .i64 0] 29))
  go_enter Tryd.func12, Tryd.ntmps12
  go_wp2_with fail
  go_loopg [6, 7] n (fun k s6 s7 wr => ∃ j : Nat, j + k = n ∧ s6 = .int .i64 (j : Int) ∧ Hid (Below w.heap.size w wr) ∧ Hid (Blk wr w.heap.size 29 #[.string ⟨#[]⟩, .string ⟨#[]⟩, .int .i64 0, .int .i64 0]) ∧ Hid (F = find11 t (L.drop j)))
  case atStart => exact ⟨0, by omega, rfl, HB0, HZ0, Lib.hid HF.out.symm⟩
  case round =>
    obtain ⟨j, hj, rfl, HB, HZ, H⟩ := hrel
    clear HB0 HZ0 HF
    by_cases hlt : j < n
    · have hj1 : (j : Int) < (n : Int) := by omega
      obtain ⟨g, hg⟩ : ∃ g, L[j]? = some g := ⟨_, List.getElem?_eq_getElem (by rw [← HN.out]; exact hlt)⟩
      obtain ⟨b1, f1, rfl, hb1, r1⟩ := (HR.out.below HB.out).at_ hg
      obtain ⟨a0, a1, a2, a3⟩ := rangeAt_cells r1
      obtain ⟨hnm, -, -, -⟩ := HL.out g (List.mem_of_getElem? hg)
      have HD := Lib.hid (find_drop t hg)
      unfold sv at a0 a1
      obtain ⟨sN, hsN⟩ : ∃ sN : ByteArray, sN = ⟨g.nm.toArray⟩ := ⟨_, rfl⟩
      rw [← hsN] at a0 HD
      have hsz : sN.size ≤ 2000000 := by rw [hsN, sv_size]; exact hnm
      have KQ := Lib.hid (KS.out sN wr hsz)
      have HG := Lib.hid hg
      have HSN := Lib.hid hsN
      clear a1 a2 a3 r1 hg hsN hnm
      go_wp2_with fail
      with_reducible refine KQ.out.mono ?_
      rintro e5 w5 ⟨hb5, rfl⟩
      have HB5 := Lib.hid (HB.out.trans (hb5.mono HB.out.size))
      have HZ5 := Lib.hid (HZ.out.keep hb5)
      obtain ⟨b2, f2, hA, hb2, r2⟩ := (HR.out.below HB5.out).at_ HG.out
      injection hA with hA
      injection hA with hA1 hA2
      subst hA1 hA2
      obtain ⟨a0', a1, a2, a3⟩ := rangeAt_cells r2
      unfold sv at a0' a1
      clear r2 hb5
      by_cases hs : sameB sN t = true
      · have HE : Hid (F = some g) := Lib.hid (by rw [H.out, HD.out, if_pos hs])
        rw [hs]
        obtain ⟨sB, hsB⟩ : ∃ sB : ByteArray, sB = ⟨g.bd.toArray⟩ := ⟨_, rfl⟩
        obtain ⟨sN2, hsN2⟩ : ∃ sB : ByteArray, sB = ⟨g.nm.toArray⟩ := ⟨_, rfl⟩
        rw [← hsB] at a1
        rw [← hsN2] at a0'
        have z0 := HZ5.out.cell 0
        have z1 := HZ5.out.cell 1
        have z2 := HZ5.out.cell 2
        have z3 := HZ5.out.cell 3
        have y0 := HZ5.out.frozen 0
        have y1 := HZ5.out.frozen 1
        have y2 := HZ5.out.frozen 2
        have y3 := HZ5.out.frozen 3
        have HSB := Lib.hid hsB
        have HS2 := Lib.hid hsN2
        clear hsB hsN2 H HD hs
        go_wp2_with fail
        obtain ⟨hbF, hzF⟩ := HZ5.out.field rfl HB5.out (.string sN2) (.string sB) (.int .i64 (g.fr : Int)) (.int .i64 (g.tt : Int))
        clear z0 z1 z2 z3 y0 y1 y2 y3
        have HBF := Lib.hid hbF
        have HZF := Lib.hid hzF
        clear hbF hzF
        generalize ((((w5.setCell ⟨w.heap.size, 0, none⟩ (.string sN2)).setCell ⟨w.heap.size, 1, none⟩ (.string sB)).setCell ⟨w.heap.size, 2, none⟩ (.int .i64 (g.fr : Int))).setCell ⟨w.heap.size, 3, none⟩ (.int .i64 (g.tt : Int))) = wF at *
        have z0 := HZF.out.cell 0
        have z1 := HZF.out.cell 1
        have z2 := HZF.out.cell 2
        have z3 := HZF.out.cell 3
        try go_wp2
        refine bodyPost_ret (v := .tuple #[.agg #[.string sN2, .string sB, .int .i64 (g.fr : Int), .int .i64 (g.tt : Int)], .bool true]) ?_ rfl ?_
        · rw [results_cell_tmp rfl]; go_simp
        refine ⟨HBF.out, .inl ⟨g, HE.out, ?_⟩⟩
        unfold fdv
        rw [← HSB.out, ← HS2.out]
      · have hs' : sameB sN t = false := by simpa using hs
        have HN1 : Hid (F = find11 t (L.drop (j + 1))) := Lib.hid (by rw [H.out, HD.out, if_neg hs])
        rw [hs']
        clear a0' a1 a2 a3 a0
        go_wp2
        go_roundg (gk - 1)
        case rel => exact ⟨j + 1, by omega, by go_num, HB5, HZ5, HN1⟩
        case measure => omega
    · have hj1 : ¬ (j : Int) < (n : Int) := by omega
      have z0 := HZ.out.cell 0
      have z1 := HZ.out.cell 1
      have z2 := HZ.out.cell 2
      have z3 := HZ.out.cell 3
      have y0 := HZ.out.frozen 0
      have y1 := HZ.out.frozen 1
      have y2 := HZ.out.frozen 2
      have y3 := HZ.out.frozen 3
      have HE : Hid (F = none) := Lib.hid (by rw [H.out, List.drop_of_length_le (by rw [← HN.out]; omega)]; rfl)
      clear H
      go_wp2_with fail
      obtain ⟨hbF, hzF⟩ := HZ.out.field rfl HB.out (.string ⟨#[]⟩) (.string ⟨#[]⟩) (.int .i64 0) (.int .i64 0)
      clear z0 z1 z2 z3 y0 y1 y2 y3
      have HBF := Lib.hid hbF
      have HZF := Lib.hid hzF
      clear hbF hzF
      generalize ((((wr.setCell ⟨w.heap.size, 0, none⟩ (.string ⟨#[]⟩)).setCell ⟨w.heap.size, 1, none⟩ (.string ⟨#[]⟩)).setCell ⟨w.heap.size, 2, none⟩ (.int .i64 0)).setCell ⟨w.heap.size, 3, none⟩ (.int .i64 0)) = wF at *
      have z0 := HZF.out.cell 0
      have z1 := HZF.out.cell 1
      have z2 := HZF.out.cell 2
      have z3 := HZF.out.cell 3
      try go_wp2
      refine bodyPost_ret (v := .tuple #[fdv emptyF, .bool false]) ?_ rfl ?_
      · rw [results_cell_tmp rfl]; go_simp
        rfl
      exact ⟨HBF.out, .inr ⟨HE.out, rfl⟩⟩
set_option maxRecDepth 100000 in
set_option maxHeartbeats 1000000 in
theorem clos_walk (w : World) (pb : Nat) (g : Fd) (t : ByteArray) (hp : w.cell? ⟨pb, 0, none⟩ = some (.string t)) (hpb : pb < w.heap.size) (hg : g.nm.length ≤ 2000000) (ht : t.size ≤ 2000000) :
    Calls Tryd.prog 30 #[fdv g, .pointer (some ⟨pb, 0, none⟩)] w fun e w' => Below w.heap.size w w' ∧ e = .returned (.bool (sameB ⟨g.nm.toArray⟩ t)) := by
  unfold fdv
  obtain ⟨sN, hsN⟩ : ∃ sN : ByteArray, sN = ⟨g.nm.toArray⟩ := ⟨_, rfl⟩
  rw [← hsN]
  have hsz : sN.size ≤ 2000000 := by rw [hsN, sv_size]; exact hg
  clear hsN hg
  generalize (⟨g.bd.toArray⟩ : ByteArray) = sB at *
  have hbo := (Below.refl w.heap.size w).alloc (Nat.le_refl _) (.cells #[.string sN, .string sB, .int .i64 (g.fr : Int), .int .i64 (g.tt : Int)] 29)
  have HB := Lib.hid hbo
  have hp2 := (hbo.cell (p := ⟨pb, 0, none⟩) hpb).trans hp
  have z0 : (w.alloc (.cells #[.string sN, .string sB, .int .i64 (g.fr : Int), .int .i64 (g.tt : Int)] 29)).cell? ⟨w.heap.size, 0, none⟩ = some (.string sN) := (Blk.new w 29 _).cell 0
  have KS := Lib.hid (same_walk sN t (w.alloc (.cells #[.string sN, .string sB, .int .i64 (g.fr : Int), .int .i64 (g.tt : Int)] 29)) (by unfold maxLen; omega) (by unfold maxLen; omega))
  clear hbo
  go_enter Tryd.func30, Tryd.ntmps30
  go_wp2_with fail
  with_reducible refine KS.out.mono ?_
  rintro e5 w5 ⟨hb5, rfl⟩
  have HB5 := Lib.hid (HB.out.trans (hb5.mono HB.out.size))
  go_wp2
  go_ret
  exact ⟨HB5.out, rfl⟩
end Go.Proofs.YtgbbadbffcjamaaDoor
