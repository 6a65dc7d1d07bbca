/-
  The walk of record.Right. No condition but the sizes that the form gives.
-/
import Derived.Test.YtfnhaddgdfkmcaaDoorMsg
import Derived.Test.YtfnhaddgdfkmcaaDoorAddr2
import Derived.Deep.CutBlock
import Derived.Deep.DeepCutAuto
namespace Go.Proofs.YtfnhaddgdfkmcaaDoor
open Go.RowKit Go.Sort
set_option linter.unusedVariables false

set_option maxRecDepth 100000 in
set_option maxHeartbeats 4000000 in
theorem mright_walk (m : Msg) (A1 : Option Addr) (c1 : Nat) (A2 : Option Addr) (c2 : Nat) (w : World) (h : MsgAt w w.heap.size m A1 c1 A2 c2) :
    Calls Tryd.prog 11 #[.agg (mCells m A1 c1 A2 c2)] w fun e w' => Below w.heap.size w w' ∧ e = .returned (.int .i64 (rightE m)) := by
  unfold mCells
  have hl2 := h.l2
  have hm2 := h.m2
  have hl1 := h.l1
  have hm1 := h.m1
  have hsf := h.sf
  have HST := Lib.hid h.st
  have HRR := Lib.hid h.rr
  clear h
  obtain ⟨t, fr, L, d⟩ := m
  dsimp only at *
  have hE : Hid (rightE ⟨t, fr, L, d⟩ = if longM ⟨t, fr, L, d⟩ = true then 31 else if mayM ⟨t, fr, L, d⟩ = true then 0 else 30) := Lib.hid rfl
  have hLS : Hid (longS ⟨t, fr, L, d⟩ = decide (1048576 < d.length ∨ 200 < L.length ∨ 320 < fr.size)) := Lib.hid rfl
  have hMS : Hid (mayS ⟨t, fr, L, d⟩ = (decide (0 ≤ t ∧ t ≤ 9007199254740992) && ((decide (fr = ⟨#[]⟩) || addrOk fr.data.toList) && decide (0 < L.length)))) := Lib.hid rfl
  have hLM : Hid (longM ⟨t, fr, L, d⟩ = (longS ⟨t, fr, L, d⟩ || L.any longR)) := Lib.hid rfl
  have hMM : Hid (mayM ⟨t, fr, L, d⟩ = (mayS ⟨t, fr, L, d⟩ && L.all mayR)) := Lib.hid rfl
  generalize rightE ⟨t, fr, L, d⟩ = E at *
  generalize longM ⟨t, fr, L, d⟩ = lm at *
  generalize mayM ⟨t, fr, L, d⟩ = mm at *
  generalize longS ⟨t, fr, L, d⟩ = ls at *
  generalize mayS ⟨t, fr, L, d⟩ = ms at *
  have hblk := Blk.new w 25 #[.int .i64 t, .string fr, .slice A1 L.length c1, .slice A2 d.length c2]
  generalize hw0 : w.alloc (.cells #[.int .i64 t, .string fr, .slice A1 L.length c1, .slice A2 d.length c2] 25) = w0 at hblk
  have hb0 : Below w.heap.size w w0 := by rw [← hw0]; exact (Below.refl _ _).alloc (Nat.le_refl _) _
  have hs0 : w0.heap.size = w.heap.size + 1 := by rw [← hw0]; simp
  have K : Hid (∀ w', Below (w.heap.size + 1) w0 w' → w'.cell? ⟨w.heap.size, 0, none⟩ = some (.int .i64 t) ∧ w'.cell? ⟨w.heap.size, 1, none⟩ = some (.string fr) ∧ w'.cell? ⟨w.heap.size, 2, none⟩ = some (.slice A1 L.length c1) ∧ w'.cell? ⟨w.heap.size, 3, none⟩ = some (.slice A2 d.length c2)) :=
    Lib.hid fun w' hb => ⟨(hblk.below hb (by omega)).cell 0, (hblk.below hb (by omega)).cell 1, (hblk.below hb (by omega)).cell 2, (hblk.below hb (by omega)).cell 3⟩
  have HS0 := Lib.hid hs0
  clear hs0 hblk
  obtain ⟨k0, k1, k2, k3⟩ := K.out w0 (Below.refl _ _)
  go_enter Tryd.func11, Tryd.ntmps11
  go_upto_region 1 with fail
  go_cut [3] from 7 to 22 (fun x wr => w0 = wr ∧ x = .bool ls)
  case first =>
    go_wp2
    all_goals
      go_meet
      refine ⟨rfl, congrArg Value.bool ?_⟩
      rw [hLS.out]
      rw [Bool.eq_iff_iff]
      simp only [Bool.or_eq_true, decide_eq_true_eq, true_iff, false_iff, reduceCtorEq]
      omega
  case rest =>
    obtain ⟨rfl, rfl⟩ := hcut
    have HA := Lib.hid (fun w => addressed_walk fr w hsf)
    go_upto_region 2 with fail
    go_cut [4] from 23 to 46 (fun x wr => Below (w.heap.size + 1) w0 wr ∧ x = .bool ms)
    case first =>
      by_cases hf : fr = ⟨#[]⟩
      · subst hf
        go_wp2
        all_goals
          go_meet
          refine ⟨Below.refl _ _, congrArg Value.bool ?_⟩
          rw [hMS.out]
          rw [Bool.eq_iff_iff]
          simp only [Bool.and_eq_true, Bool.or_eq_true, decide_eq_true_eq, true_iff, false_iff, reduceCtorEq, true_or, true_and, not_and]
          omega
      · have h1 : fr.toList.isEmpty = false := by
          rw [ByteArray.toList_eq]
          cases hl : fr.data.toList with
          | nil => exact absurd (str_eq hl) hf
          | cons _ _ => rfl
        rw [decide_eq_false hf, Bool.false_or] at hMS
        generalize addrOk fr.data.toList = ao at *
        clear hf
        cases ao
        all_goals
          go_wp2_with (go_at_call 27; refine (HA.out _).mono ?_; rintro e w' ⟨hb, rfl⟩; replace hb := hb.mono (show w.heap.size + 1 ≤ w0.heap.size by have := HS0.out; omega); obtain ⟨q0, q1, q2, q3⟩ := K.out w' hb)
          all_goals
            go_meet
            refine ⟨by first | exact Below.refl _ _ | exact hb, congrArg Value.bool ?_⟩
            rw [hMS.out, Bool.eq_iff_iff]
            simp only [Bool.and_eq_true, Bool.or_eq_true, decide_eq_true_eq, true_iff, false_iff, reduceCtorEq, true_or, true_and, not_and, false_and, and_false, Bool.false_and, Bool.and_false]
            try omega
    case rest =>
      obtain ⟨hbw, rfl⟩ := hcut
      clear HA hMS hLS k0 k1 k2 k3
      obtain ⟨k0, k1, k2, k3⟩ := K.out wc hbw
      have hmxI : (L.length : Int) ≤ 6000000000000 := by omega
      go_wp2
      go_loopg [50, 3, 4] L.length (fun k i lg my wr => Below (w.heap.size + 1) w0 wr ∧ ∃ (j : Nat) (bl bm : Bool), j + k = L.length ∧ i = .int .i64 j ∧ lg = .bool bl ∧ my = .bool bm ∧ Hid (lm = (bl || (L.drop j).any longR)) ∧ Hid (mm = (bm && (L.drop j).all mayR)))
      case atStart => exact ⟨hbw, 0, ls, ms, by omega, rfl, rfl, rfl, Lib.hid (by rw [List.drop_zero]; exact hLM.out), Lib.hid (by rw [List.drop_zero]; exact hMM.out)⟩
      case round =>
        obtain ⟨hb, j, bl, bm, hj, rfl, rfl, rfl, HL, HM⟩ := hrel
        by_cases hlt : j < L.length
        · have hbel : Below w.heap.size w wr := hb0.trans (hb.mono (Nat.le_succ _))
          obtain ⟨b, off, rfl, hB, hcell⟩ := (HRR.out.below hbel).at_ hlt
          obtain ⟨e1, e2⟩ := hcell j hlt
          have hst := HST.out _ (List.getElem_mem hlt)
          rw [List.drop_eq_getElem_cons hlt, List.any_cons] at HL
          rw [List.drop_eq_getElem_cons hlt, List.all_cons] at HM
          have hj1 : (j : Int) < (L.length : Int) := by omega
          have hoff : off + j * 2 < 9223372036854775807 ∨ True := .inr trivial
          clear hcell
          generalize L[j] = r at *
          obtain ⟨tx, mk⟩ := r
          dsimp only at *
          have hk0 : 0 ≤ (mk.toNat : Int) := by omega
          have hk1 : (mk.toNat : Int) ≤ 255 := by have := mk.toNat_lt; omega
          have HA := Lib.hid (fun w => addressed_walk tx w hst)
          have HK := Lib.hid (fun w => marked_walk (mk.toNat : Int) w hk0 hk1)
          have hnb := Blk.new wr 41 #[.string tx, .int .u8 (mk.toNat : Int)]
          have hwb : w.heap.size + 1 ≤ wr.heap.size := by have := hb.size; have := HS0.out; omega
          have hbn : Below (w.heap.size + 1) w0 (wr.alloc (.cells #[.string tx, .int .u8 (mk.toNat : Int)] 41)) := hb.alloc hwb _
          have HBN := Lib.hid hbn
          have HNB := Lib.hid hnb
          have HLR : Hid (longR ⟨tx, mk⟩ = decide ((320 : Int) < (tx.size : Int))) := Lib.hid (by unfold longR; rw [decide_eq_decide]; dsimp only; omega)
          have HMR : Hid (mayR ⟨tx, mk⟩ = (addrOk tx.data.toList && markOk (mk.toNat : Int))) := Lib.hid rfl
          rw [HLR.out] at HL
          rw [HMR.out] at HM
          clear hbn hnb HLR HMR
          generalize addrOk tx.data.toList = ao at *
          generalize markOk (mk.toNat : Int) = mo at *
          cases bl <;> cases bm <;> cases ao
          all_goals
            go_wp2_with (first
              | (go_at_call 27; refine (HA.out _).mono ?_; rintro e w1 ⟨hb1, rfl⟩; have q0 := (HNB.out.keep hb1).cell 0; have q1 : w1.cell? ⟨wr.heap.size, 1, none⟩ = some (.int .u8 (mk.toNat : Int)) := (HNB.out.keep hb1).cell 1)
              | (go_at_call 28; refine (HK.out _).mono ?_; rintro e w2 ⟨rfl, rfl⟩))
            go_roundg (gk - 1)
            case rel =>
              refine ⟨by first | exact HBN.out | exact HBN.out.trans (hb1.mono (by simp; omega)), j + 1, _, _, by omega, by go_num, rfl, rfl, Lib.hid ?_, Lib.hid ?_⟩
              · rw [HL.out]; simp
              · rw [HM.out]; simp
            case measure => omega
        · have hj1 : (L.length : Int) ≤ (j : Int) := by omega
          rw [List.drop_eq_nil_of_le (by omega), List.any_nil, Bool.or_false] at HL
          rw [List.drop_eq_nil_of_le (by omega), List.all_nil, Bool.and_true] at HM
          have hbel : Below w.heap.size w wr := hb0.trans (hb.mono (Nat.le_succ _))
          cases bl <;> cases bm
          all_goals
            go_wp2
            go_ret
            refine ⟨hbel, ?_⟩
            rw [hE.out, HL.out, HM.out]
            rfl
end Go.Proofs.YtfnhaddgdfkmcaaDoor
