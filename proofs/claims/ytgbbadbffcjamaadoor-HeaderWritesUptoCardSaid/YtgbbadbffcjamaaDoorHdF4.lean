/-
  The walks of slices.IndexFunc at Find's closure and of Find. Conditions: the sizes.
-/
import Derived.Test.YtgbbadbffcjamaaDoorHdF3
namespace Go.Proofs.YtgbbadbffcjamaaDoor
open Go.RowKit
set_option linter.unusedVariables false
set_option maxRecDepth 100000 in
set_option maxHeartbeats 1000000 in
theorem idxf_walk (w : World) (A : Option Addr) (L : List Fd) (n c pb : Nat) (t : ByteArray) (hn : n = L.length) (hr : RF w w.heap.size A L) (hL : smallF L) (hl : n ≤ 2000000) (ht : t.size ≤ 2000000) (hp : w.cell? ⟨pb, 0, none⟩ = some (.string t)) :
    Calls Tryd.prog 29 #[.slice A n c, .func (.func 30) #[] #[.pointer (some ⟨pb, 0, none⟩)]] w fun e w' => Below w.heap.size w w' ∧
      ((∃ i g, L[i]? = some g ∧ find11 t L = some g ∧ e = .returned (.int .i64 ((i : Nat) : Int))) ∨ (find11 t L = none ∧ e = .returned (.int .i64 (-1)))) := by
  have HR := Lib.hid hr
  have HN := Lib.hid hn
  have HL := Lib.hid hL
  have hpb : pb < w.heap.size := World.block_lt_of_cell? _ _ hp
  have HP := Lib.hid hp
  obtain ⟨F, hF⟩ : ∃ F, find11 t L = F := ⟨_, rfl⟩
  rw [hF]
  have HF := Lib.hid hF
  clear hr hn hL hF hp
  go_enter Tryd.func29, Tryd.ntmps29
  go_wp2_with fail
  go_loopg [5, 8] n (fun k s5 s8 wr => ∃ j : Nat, j + k = n ∧ s8 = .int .i64 (j : Int) ∧ Hid (Below w.heap.size w wr) ∧ Hid (F = find11 t (L.drop j)))
  case atStart => exact ⟨0, by omega, rfl, Lib.hid (Below.refl _ _), Lib.hid HF.out.symm⟩
  case round =>
    obtain ⟨j, hj, rfl, HB, H⟩ := hrel
    clear HF
    by_cases hlt : j < n
    · have hj1 : (j : Int) < (n : Int) := by omega
      obtain ⟨g, hg⟩ : ∃ g, L[j]? = some g := ⟨_, List.getElem?_eq_getElem (by rw [← HN.out]; exact hlt)⟩
      obtain ⟨b1, f1, hA, hb1, r1⟩ := (HR.out.below HB.out).at_ hg
      have HR' := Lib.hid HR.out
      subst hA
      obtain ⟨a0, a1, a2, a3⟩ := rangeAt_cells r1
      obtain ⟨hnm, -, -, -⟩ := HL.out g (List.mem_of_getElem? hg)
      have HD := Lib.hid (find_drop t hg)
      have hsz1 := HB.out.size
      have KQ := Lib.hid (clos_walk wr pb g t ((HB.out.cell (p := ⟨pb, 0, none⟩) hpb).trans HP.out) (by omega) hnm ht)
      unfold fdv at KQ
      unfold sv at a0 a1
      have HG := Lib.hid hg
      clear r1 hg hnm
      generalize hsN : (⟨g.nm.toArray⟩ : ByteArray) = sN at *
      generalize hsB : (⟨g.bd.toArray⟩ : ByteArray) = sB at *
      clear hsN hsB
      by_cases hs : sameB sN t = true
      · have HE : Hid (F = some g) := Lib.hid (by rw [H.out, HD.out, if_pos hs])
        rw [hs] at KQ
        clear H HD hs
        go_wp2_with (go_at_call 30; with_reducible refine KQ.out.mono ?_; rintro e5 w5 ⟨hb5, rfl⟩; have HB5 := Lib.hid (HB.out.trans (hb5.mono HB.out.size)); clear hb5)
        go_ret
        exact ⟨HB5.out, .inl ⟨j, g, HG.out, HE.out, rfl⟩⟩
      · have hs' : sameB sN t = false := by simpa using hs
        have HN1 : Hid (F = find11 t (L.drop (j + 1))) := Lib.hid (by rw [H.out, HD.out, if_neg hs])
        rw [hs'] at KQ
        clear H HD hs hs'
        go_wp2_with (go_at_call 30; with_reducible refine KQ.out.mono ?_; rintro e5 w5 ⟨hb5, rfl⟩; have HB5 := Lib.hid (HB.out.trans (hb5.mono HB.out.size)); clear hb5)
        go_roundg (gk - 1)
        case rel => exact ⟨j + 1, by omega, by go_num, HB5, HN1⟩
        case measure => omega
    · have hj1 : ¬ (j : Int) < (n : Int) := by omega
      have HE : Hid (F = none) := Lib.hid (by rw [H.out, List.drop_of_length_le (by rw [← HN.out]; omega)]; rfl)
      clear H
      go_wp2
      go_ret
      exact ⟨HB.out, .inr ⟨HE.out, rfl⟩⟩
set_option maxRecDepth 100000 in
set_option maxHeartbeats 1000000 in
theorem find_walk (w : World) (A : Option Addr) (L : List Fd) (n c : Nat) (t : ByteArray) (hn : n = L.length) (hr : RF w w.heap.size A L) (hL : smallF L) (hl : n ≤ 2000000) (ht : t.size ≤ 2000000) :
    Calls Tryd.prog 11 #[.slice A n c, .string t] w (FindPost w t L) := by
  have hb1 := (Below.refl w.heap.size w).alloc (Nat.le_refl _) (.cells #[.string t] 9)
  have hb2 := (Below.refl (w.alloc (.cells #[.string t] 9)).heap.size (w.alloc (.cells #[.string t] 9))).alloc (Nat.le_refl _) (.cells #[.string ⟨#[]⟩, .string ⟨#[]⟩, .int .i64 0, .int .i64 0] 29)
  have hk1 : Blk (w.alloc (.cells #[.string t] 9)) w.heap.size 9 #[.string t] := Blk.new w _ _
  have hz : Blk ((w.alloc (.cells #[.string t] 9)).alloc (.cells #[.string ⟨#[]⟩, .string ⟨#[]⟩, .int .i64 0, .int .i64 0] 29)) (w.heap.size + 1) 29 #[.string ⟨#[]⟩, .string ⟨#[]⟩, .int .i64 0, .int .i64 0] := by
    have h := Blk.new (w.alloc (.cells #[.string t] 9)) 29 #[.string ⟨#[]⟩, .string ⟨#[]⟩, .int .i64 0, .int .i64 0]
    have e : (w.alloc (.cells #[.string t] 9)).heap.size = w.heap.size + 1 := by simp
    rwa [e] at h
  have HBz := Lib.hid (hb1.trans (hb2.mono hb1.size))
  have hc1 := (hb2.cell (p := ⟨w.heap.size, 0, none⟩) (by simp)).trans (hk1.cell 0)
  have HZ := Lib.hid hz
  have HR := Lib.hid hr
  have HN := Lib.hid hn
  have KI := Lib.hid (idxf_walk _ A L n c w.heap.size t hn ((hr.below HBz.out).mono HBz.out.size) hL hl ht hc1)
  have hle : w.heap.size + 1 ≤ ((w.alloc (.cells #[.string t] 9)).alloc (.cells #[.string ⟨#[]⟩, .string ⟨#[]⟩, .int .i64 0, .int .i64 0] 29)).heap.size := by simp
  have hw0 : w.heap.size ≤ w.heap.size + 1 := by omega
  unfold FindPost
  have hmf : ∀ (fn : Fn) (first cap : Array Value) (w : World), (Instr.makeFunc fn first cap).run Tryd.prog w = .ok (.func fn first cap) w := fun _ _ _ _ => rfl
  obtain ⟨F, hF⟩ : ∃ F, find11 t L = F := ⟨_, rfl⟩
  rw [hF] at KI ⊢
  clear hb1 hb2 hk1 hz hr hn hF
  go_enter Tryd.func11, Tryd.ntmps11
  go_wp2_with fail
  with_reducible refine KI.out.mono ?_
  rintro e5 w5 ⟨hb5, hcase⟩
  have HB5 := Lib.hid (HBz.out.trans (hb5.mono HBz.out.size))
  have HZ5 := Lib.hid (HZ.out.keep hb5)
  clear KI HZ HBz hc1 hb5 hmf
  have z0 := HZ5.out.cell 0
  have z1 := HZ5.out.cell 1
  have z2 := HZ5.out.cell 2
  have z3 := HZ5.out.cell 3
  have y0 := HZ5.out.frozen 0
  have y1 := HZ5.out.frozen 1
  have y2 := HZ5.out.frozen 2
  have y3 := HZ5.out.frozen 3
  have hne : w.heap.size + 1 ≠ w.heap.size := by omega
  rcases hcase with ⟨i, g, hg, hE, rfl⟩ | ⟨hE, rfl⟩
  · obtain ⟨b1, f1, rfl, hb1, r1⟩ := (HR.out.below HB5.out).at_ hg
    obtain ⟨a0, a1, a2, a3⟩ := rangeAt_cells r1
    unfold sv at a0 a1
    have hi : (i : Int) < (n : Int) := by have := (List.getElem?_eq_some_iff.1 hg).1; rw [HN.out]; omega
    have hi0 : ¬ (i : Int) < 0 := by omega
    have HE := Lib.hid hE
    obtain ⟨sN, hsN⟩ : ∃ sN : ByteArray, sN = ⟨g.nm.toArray⟩ := ⟨_, rfl⟩
    obtain ⟨sB, hsB⟩ : ∃ sB : ByteArray, sB = ⟨g.bd.toArray⟩ := ⟨_, rfl⟩
    rw [← hsB] at a1
    rw [← hsN] at a0
    have HSN := Lib.hid hsN
    have HSB := Lib.hid hsB
    clear hsN hsB hE hg r1
    go_wp2_with fail
    obtain ⟨hbF, hzF⟩ := HZ5.out.field rfl (Below.refl (w.heap.size + 1) w5) (.string sN) (.string sB) (.int .i64 (g.fr : Int)) (.int .i64 (g.tt : Int))
    have HBF := Lib.hid (HB5.out.trans (hbF.mono hw0))
    have HZF := Lib.hid hzF
    clear z0 z1 z2 z3 y0 y1 y2 y3 hbF hzF
    generalize ((((w5.setCell ⟨w.heap.size + 1, 0, none⟩ (.string sN)).setCell ⟨w.heap.size + 1, 1, none⟩ (.string sB)).setCell ⟨w.heap.size + 1, 2, none⟩ (.int .i64 (g.fr : Int))).setCell ⟨w.heap.size + 1, 3, none⟩ (.int .i64 (g.tt : Int))) = wF at *
    have z0 := HZF.out.cell 0
    have z1 := HZF.out.cell 1
    have z2 := HZF.out.cell 2
    have z3 := HZF.out.cell 3
    try go_wp2
    refine bodyPost_ret (v := .tuple #[.agg #[.string sN, .string sB, .int .i64 (g.fr : Int), .int .i64 (g.tt : Int)], .bool true]) ?_ rfl ?_
    · rw [results_cell_tmp rfl]; go_simp
    refine ⟨HBF.out, .inl ⟨g, HE.out, ?_⟩⟩
    unfold fdv
    rw [← HSN.out, ← HSB.out]
  · have HE := Lib.hid hE
    have hi0 : (-1 : Int) < 0 := by omega
    clear hE
    go_wp2_with fail
    obtain ⟨hbF, hzF⟩ := HZ5.out.field rfl (Below.refl (w.heap.size + 1) w5) (.string ⟨#[]⟩) (.string ⟨#[]⟩) (.int .i64 0) (.int .i64 0)
    have HBF := Lib.hid (HB5.out.trans (hbF.mono hw0))
    have HZF := Lib.hid hzF
    clear z0 z1 z2 z3 y0 y1 y2 y3 hbF hzF
    generalize ((((w5.setCell ⟨w.heap.size + 1, 0, none⟩ (.string ⟨#[]⟩)).setCell ⟨w.heap.size + 1, 1, none⟩ (.string ⟨#[]⟩)).setCell ⟨w.heap.size + 1, 2, none⟩ (.int .i64 0)).setCell ⟨w.heap.size + 1, 3, none⟩ (.int .i64 0)) = wF at *
    have z0 := HZF.out.cell 0
    have z1 := HZF.out.cell 1
    have z2 := HZF.out.cell 2
    have z3 := HZF.out.cell 3
    try go_wp2
    refine bodyPost_ret (v := .tuple #[fdv emptyF, .bool false]) ?_ rfl ?_
    · rw [results_cell_tmp rfl]; go_simp
      rfl
    exact ⟨HBF.out, .inr ⟨HE.out, rfl⟩⟩
end Go.Proofs.YtgbbadbffcjamaaDoor
