/-
  The walk of waybillref14.Same. No condition but the sizes that the form gives.
-/
import Derived.Test.YteicojighhhgjaaDoorPrints
namespace Go.Proofs.YteicojighhhgjaaDoor
open Go.RowKit Go.Sort
set_option linter.unusedVariables false

set_option maxHeartbeats 1000000 in
theorem same_walk (c d : Int) (A : Option Addr) (L : List ByteArray) (cp : Nat) (B : Option Addr) (M : List ByteArray) (cq : Nat) (w : World) (hA : RS w w.heap.size A L) (hB : RS w w.heap.size B M) (hl : L.length ≤ maxLen) (hm : M.length ≤ maxLen) :
    Calls Tryd.prog 14 #[.agg #[.int .i64 c, .slice A L.length cp], .agg #[.int .i64 d, .slice B M.length cq]] w fun e w' => Below w.heap.size w w' ∧ e = .returned (.bool (decide (c = d ∧ L = M))) := by
  unfold maxLen at hl hm
  obtain ⟨T, hT⟩ : ∃ T, decide (c = d ∧ L = M) = T := ⟨_, rfl⟩
  have HT := Lib.hid hT
  rw [hT]; clear hT
  have hb0 : Below w.heap.size w ((w.alloc (.cells #[.int .i64 c, .slice A L.length cp] 24)).alloc (.cells #[.int .i64 d, .slice B M.length cq] 24)) := ((Below.refl _ _).alloc (Nat.le_refl _) _).alloc (by simp) _
  by_cases hcd : c = d ∧ L.length = M.length
  · obtain ⟨rfl, hlen⟩ := hcd
    have HT2 := Lib.hid (show T = decide (L = M) by rw [← HT.out]; simp)
    clear HT
    rw [← hlen] at hm hb0 ⊢
    have HLen := Lib.hid hlen; clear hlen
    go_enter Tryd.func14, Tryd.ntmps14
    go_wp2
    go_loopg [5] L.length (fun k i wr => Below (w.heap.size + 2) ((w.alloc (.cells #[.int .i64 c, .slice A L.length cp] 24)).alloc (.cells #[.int .i64 c, .slice B L.length cq] 24)) wr ∧ ∃ (j : Nat), j + k = L.length ∧ i = .int .i64 j ∧ Hid (decide (L = M) = decide (L.drop j = M.drop j)))
    case atStart => exact ⟨Below.refl _ _, 0, by omega, rfl, Lib.hid (by simp)⟩
    case round =>
      obtain ⟨hb, j, hj, rfl, H⟩ := hrel
      have hb1 : Below w.heap.size w wr := hb0.trans (hb.mono (show w.heap.size ≤ w.heap.size + 2 by omega))
      have hblk0 : Blk ((w.alloc (.cells #[.int .i64 c, .slice A L.length cp] 24)).alloc (.cells #[.int .i64 c, .slice B L.length cq] 24)) w.heap.size 24 #[.int .i64 c, .slice A L.length cp] := (Blk.new w _ _).alloc _
      have hblk1 : Blk ((w.alloc (.cells #[.int .i64 c, .slice A L.length cp] 24)).alloc (.cells #[.int .i64 c, .slice B L.length cq] 24)) (w.heap.size + 1) 24 #[.int .i64 c, .slice B L.length cq] := by
        have := Blk.new (w.alloc (.cells #[.int .i64 c, .slice A L.length cp] 24)) 24 #[.int .i64 c, .slice B L.length cq]
        simpa using this
      have c0 : wr.cell? ⟨w.heap.size, 1, none⟩ = some (.slice A L.length cp) := (hblk0.below hb (by omega)).cell 1
      have c1 : wr.cell? ⟨w.heap.size + 1, 1, none⟩ = some (.slice B L.length cq) := (hblk1.below hb (by omega)).cell 1
      clear hblk0 hblk1
      by_cases hlt : j < L.length
      · obtain ⟨b, off, rfl, hB1, hcell⟩ := (hA.below hb1).at_ hlt
        have cj := hcell j hlt
        obtain ⟨b', off', rfl, hB2, hcell'⟩ := (hB.below hb1).at_ (show j < M.length by have := HLen.out; omega)
        have cj' := hcell' j (by have := HLen.out; omega)
        rw [drop_st hlt, drop_st (show j < M.length by have := HLen.out; omega)] at H
        have hj2 : (j : Int) < (L.length : Int) := by omega
        clear hcell hcell' hA hB
        generalize st L j = s at *
        generalize st M j = t at *
        by_cases hst : s = t
        · subst hst
          have H2 := Lib.hid (show decide (L = M) = decide (L.drop (j + 1) = M.drop (j + 1)) by rw [H.out]; simp)
          clear H
          go_wp2
          go_quiet (fail)
          go_wp2
          go_roundg (gk - 1)
          case rel => exact ⟨bdrewN hb _, j + 1, by omega, by go_num, H2⟩
          case measure => omega
        · have H2 := Lib.hid (show decide (L = M) = false by rw [H.out]; simp [hst])
          clear H
          have hne := str_ne hst
          clear hst
          go_wp2
          go_quiet (fail)
          go_wp2
          go_ret
          refine ⟨(bdrewN hb1 _), ?_⟩
          rw [HT2.out, H2.out]
          rfl
      · have hj2 : (L.length : Int) ≤ (j : Int) := by omega
        rw [List.drop_eq_nil_of_le (by omega), List.drop_eq_nil_of_le (by have := HLen.out; omega)] at H
        go_wp2
        go_ret
        refine ⟨hb1, ?_⟩
        rw [HT2.out, H.out]
        rfl
  · have hTf : T = false := by
      rw [← HT.out, decide_eq_false_iff_not]; rintro ⟨rfl, rfl⟩; exact hcd ⟨rfl, rfl⟩
    replace hcd : ¬ c = d ∨ ¬ L.length = M.length := by
      by_cases h : c = d
      · exact .inr fun h2 => hcd ⟨h, h2⟩
      · exact .inl h
    clear HT
    rcases hcd with h1 | h1
    · have H1 := Lib.hid h1; clear h1
      go_enter Tryd.func14, Tryd.ntmps14
      have h2 : (c != d) = true := by simpa using H1.out
      go_wp2
      all_goals
        go_ret
        exact ⟨((Below.refl _ _).alloc (Nat.le_refl _) _).alloc (by simp) _, by rw [hTf]; rfl⟩
    · have h2 : ((L.length : Int) != (M.length : Int)) = true := by simp; omega
      have H1 := Lib.hid h1; clear h1
      go_enter Tryd.func14, Tryd.ntmps14
      go_wp2
      all_goals
        go_ret
        exact ⟨((Below.refl _ _).alloc (Nat.le_refl _) _).alloc (by simp) _, by rw [hTf]; rfl⟩
end Go.Proofs.YteicojighhhgjaaDoor
