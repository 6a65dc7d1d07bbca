/-
  The walks of reply.Right, waybillref14.Right. No condition but the sizes that the form gives.
-/
import Derived.Test.YteicojighhhgjaaDoorText
import Derived.Test.YteicojighhhgjaaDoorStrs
namespace Go.Proofs.YteicojighhhgjaaDoor
open Go.RowKit
set_option linter.unusedVariables false

def lineOk (s : ByteArray) : Bool := textOk s.data.toList
/-- may a reply be? -/
def rightOk (c : Int) (L : List ByteArray) : Bool := L.all lineOk && (codeOk c && (decide (1 ≤ L.length) && decide (L.length ≤ 50)))
theorem all_false_drop {L : List ByteArray} {j : Nat} (h : (L.drop j).all lineOk = false) : L.all lineOk = false := by
  rw [← List.take_append_drop j L, List.all_append, h, Bool.and_false]

set_option maxHeartbeats 2000000 in
theorem right_walk (c : Int) (A : Option Addr) (L : List ByteArray) (cp : Nat) (w : World) (h : RS w w.heap.size A L) (hl : L.length ≤ maxLen) (hs : ∀ s ∈ L, s.size ≤ maxLen) :
    Calls Tryd.prog 10 #[.agg #[.int .i64 c, .slice A L.length cp]] w fun e w' => Below w.heap.size w w' ∧ e = .returned (.bool (rightOk c L)) := by
  unfold maxLen at hl
  obtain ⟨T, hT⟩ : ∃ T, rightOk c L = T := ⟨_, rfl⟩
  have HT := Lib.hid hT
  rw [hT]; clear hT
  have HS := Lib.hid hs; clear hs
  go_enter Tryd.func10, Tryd.ntmps10
  go_wp2
  go_loopg [8] L.length (fun k i wr => Below (w.heap.size + 1) (w.alloc (.cells #[.int .i64 c, .slice A L.length cp] 24)) wr ∧ ∃ (j : Nat), j + k = L.length ∧ i = .int .i64 j ∧ Hid (L.all lineOk = (L.drop j).all lineOk))
  case atStart => exact ⟨Below.refl _ _, 0, by omega, rfl, Lib.hid rfl⟩
  case round =>
    obtain ⟨hb, j, hj, rfl, H⟩ := hrel
    have hblk : Blk wr w.heap.size 24 #[.int .i64 c, .slice A L.length cp] := (Blk.new w _ _).below hb (Nat.lt_succ_self _)
    have c0 : wr.cell? ⟨w.heap.size, 0, none⟩ = some (.int .i64 c) := hblk.cell 0
    have c1 : wr.cell? ⟨w.heap.size, 1, none⟩ = some (.slice A L.length cp) := hblk.cell 1
    have hb0 : Below w.heap.size w wr := ((Below.refl _ _).alloc (Nat.le_refl _) _).trans (hb.mono (Nat.le_succ _))
    have hs0 := hb0.size
    have hb1 := hb.size
    simp only [World.size_alloc] at hb1
    clear hblk
    by_cases hlt : j < L.length
    · obtain ⟨b, off, rfl, hB, hcell⟩ := (h.below hb0).at_ hlt
      have cj := hcell j hlt
      rw [drop_st hlt, List.all_cons] at H
      have hsz := HS.out _ (st_mem hlt)
      have hj2 : (j : Int) < (L.length : Int) := by omega
      have ht := Lib.hid (text_walk (st L j) wr hsz)
      have hln : Hid (lineOk (st L j) = textOk (st L j).data.toList) := Lib.hid rfl
      clear hcell h hsz
      generalize st L j = s at *
      generalize textOk s.data.toList = t at *
      cases t
      all_goals
        go_wp2_with (go_at_call 21; refine ht.out.mono ?_; rintro e w2 ⟨hb2, rfl⟩)
      · go_ret
        refine ⟨hb0.trans (hb2.mono hs0), ?_⟩
        go_light
        rw [← HT.out]
        unfold rightOk
        rw [H.out, hln.out]
        rfl
      · go_roundg (gk - 1)
        case rel =>
          go_light
          rw [hln.out, Bool.true_and] at H
          exact ⟨hb.trans (hb2.mono (by omega)), j + 1, by omega, by go_num, H⟩
        case measure => omega
    · rw [List.drop_eq_nil_of_le (by omega)] at H
      have hj2 : (L.length : Int) ≤ (j : Int) := by omega
      have hc := Lib.hid (code_walk c wr)
      generalize hco : codeOk c = co at *
      have HCO := Lib.hid hco
      clear hco h hlt
      cases co
      all_goals
        go_wp2_with (go_at_call 22; refine hc.out.mono ?_; rintro e w2 ⟨rfl, rfl⟩)
      all_goals
        go_ret
        refine ⟨hb0, ?_⟩
        go_light
        rw [← HT.out]
        unfold rightOk
        rw [H.out, HCO.out]
        simp only [List.all_nil, Bool.true_and, Bool.false_and]
        try simp only [decide_eq_true_eq, decide_eq_false_iff_not] at *
        first
        | rfl
        | (refine congrArg (fun b => Ending.returned (.bool b)) ?_; first | (rw [decide_eq_true (show 1 ≤ L.length by omega), Bool.true_and, decide_eq_decide]; omega) | (rw [decide_eq_false (show ¬ 1 ≤ L.length by omega), Bool.false_and]))

set_option maxHeartbeats 2000000 in
theorem rright_walk (c : Int) (A : Option Addr) (L : List ByteArray) (cp : Nat) (w : World) (h : RS w w.heap.size A L) (hl : L.length ≤ maxLen) (hs : ∀ s ∈ L, s.size ≤ maxLen) :
    Calls Tryd.prog 11 #[.agg #[.int .i64 c, .slice A L.length cp]] w fun e w' => Below w.heap.size w w' ∧ e = .returned (.bool (rightOk c L)) := by
  unfold maxLen at hl
  obtain ⟨T, hT⟩ : ∃ T, rightOk c L = T := ⟨_, rfl⟩
  have HT := Lib.hid hT
  rw [hT]; clear hT
  have HS := Lib.hid hs; clear hs
  have hc := Lib.hid (rcode_walk c (w.alloc (.cells #[.int .i64 c, .slice A L.length cp] 24)))
  generalize hco : codeOk c = co at *
  have HCO := Lib.hid hco
  clear hco
  by_cases hbad : co = false ∨ L.length < 1 ∨ 50 < L.length
  · have hTf : T = false := by
      rw [← HT.out]; unfold rightOk; rw [HCO.out]
      rcases hbad with rfl | h1 | h1
      · rw [Bool.false_and, Bool.and_false]
      · rw [decide_eq_false (show ¬ 1 ≤ L.length by omega), Bool.false_and, Bool.and_false, Bool.and_false]
      · rw [decide_eq_false (show ¬ L.length ≤ 50 by omega), Bool.and_false, Bool.and_false, Bool.and_false]
    rcases hbad with rfl | h1 | h1
    · clear HCO HT
      go_enter Tryd.func11, Tryd.ntmps11
      go_wp2_with (go_at_call 23; refine hc.out.mono ?_; rintro e w2 ⟨rfl, rfl⟩)
      all_goals
        go_ret
        exact ⟨(Below.refl _ _).alloc (Nat.le_refl _) _, by rw [hTf]; rfl⟩
    all_goals
      have h1' := Lib.hid h1
      cases co
    all_goals
      first
      | have h3 : (L.length : Int) < 1 := by omega
      | have h3 : (50 : Int) < (L.length : Int) := by omega
      clear HCO HT h1
      go_enter Tryd.func11, Tryd.ntmps11
      go_wp2_with (go_at_call 23; refine hc.out.mono ?_; rintro e w2 ⟨rfl, rfl⟩)
    all_goals
      go_ret
      exact ⟨(Below.refl _ _).alloc (Nat.le_refl _) _, by rw [hTf]; rfl⟩
  · simp only [not_or, Bool.not_eq_false] at hbad
    obtain ⟨rfl, h1, h2⟩ := hbad
    have h3 : (1 : Int) ≤ (L.length : Int) := by omega
    have h4 : (L.length : Int) ≤ 50 := by omega
    have hTe : Hid (T = L.all lineOk) := Lib.hid (by
      rw [← HT.out]; unfold rightOk; rw [HCO.out, decide_eq_true (show 1 ≤ L.length by omega), decide_eq_true (show L.length ≤ 50 by omega), Bool.and_self, Bool.and_self, Bool.and_true])
    clear HCO HT h1 h2
    go_enter Tryd.func11, Tryd.ntmps11
    go_wp2_with (go_at_call 23; refine hc.out.mono ?_; rintro e w2 ⟨rfl, rfl⟩)
    clear hc
    go_loopg [4] L.length (fun k i wr => wr = w.alloc (.cells #[.int .i64 c, .slice A L.length cp] 24) ∧ ∃ (j : Nat), j + k = L.length ∧ i = .int .i64 j ∧ Hid (L.all lineOk = (L.drop j).all lineOk))
    case atStart => exact ⟨rfl, 0, by omega, rfl, Lib.hid rfl⟩
    case round =>
      obtain ⟨rfl, j, hj, rfl, H⟩ := hrel
      have hb0 : Below w.heap.size w (w.alloc (.cells #[.int .i64 c, .slice A L.length cp] 24)) := (Below.refl _ _).alloc (Nat.le_refl _) _
      by_cases hlt : j < L.length
      · obtain ⟨b, off, rfl, hB, hcell⟩ := (h.below hb0).at_ hlt
        have cj := hcell j hlt
        rw [drop_st hlt, List.all_cons] at H
        have hsz := HS.out _ (st_mem hlt)
        have hj2 : (j : Int) < (L.length : Int) := by omega
        have ht := Lib.hid (rtext_walk (st L j) (w.alloc (.cells #[.int .i64 c, .slice (some ⟨b, off, none⟩) L.length cp] 24)) hsz)
        have hln : Hid (lineOk (st L j) = textOk (st L j).data.toList) := Lib.hid rfl
        clear hcell h hsz
        generalize st L j = s at *
        generalize textOk s.data.toList = t at *
        cases t
        all_goals
          go_wp2_with (go_at_call 24; refine ht.out.mono ?_; rintro e w2 ⟨rfl, rfl⟩)
        · go_ret
          refine ⟨hb0, ?_⟩
          go_light
          rw [hTe.out, H.out, hln.out]
          rfl
        · go_roundg (gk - 1)
          case rel =>
            go_light
            rw [hln.out, Bool.true_and] at H
            exact ⟨by trivial, j + 1, by omega, by go_num, H⟩
          case measure => omega
      · rw [List.drop_eq_nil_of_le (by omega)] at H
        have hj2 : (L.length : Int) ≤ (j : Int) := by omega
        go_wp2
        go_ret
        refine ⟨hb0, ?_⟩
        rw [hTe.out, H.out]
        rfl
end Go.Proofs.YteicojighhhgjaaDoor
