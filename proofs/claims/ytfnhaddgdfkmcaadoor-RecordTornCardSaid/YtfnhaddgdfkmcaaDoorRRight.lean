/-
  The walk of waybillref03.Right. No condition but the sizes that the form gives.
-/
import Derived.Test.YtfnhaddgdfkmcaaDoorMsg
import Derived.Test.YtfnhaddgdfkmcaaDoorAddr2
import Derived.Deep.CutBlock
import Derived.Deep.DeepCutAuto
namespace Go.Proofs.YtfnhaddgdfkmcaaDoor
open Go.RowKit Go.Sort
set_option linter.unusedVariables false

set_option maxRecDepth 100000 in
set_option maxHeartbeats 4000000 in
theorem rright_walk (m : Msg) (A1 : Option Addr) (c1 : Nat) (A2 : Option Addr) (c2 : Nat) (w : World) (h : MsgAt w w.heap.size m A1 c1 A2 c2) :
    Calls Tryd.prog 15 #[.agg (mCells m A1 c1 A2 c2)] w fun e w' => Below w.heap.size w w' ∧ e = .returned (.int .i64 (rightE m)) := by
  unfold mCells
  have hl2 := h.l2
  have hm2 := h.m2
  have hl1 := h.l1
  have hm1 := h.m1
  have hsf := h.sf
  have HST := Lib.hid h.st
  have HRR := Lib.hid h.rr
  clear h
  obtain ⟨t, fr, L, d⟩ := m
  dsimp only at *
  have hE : Hid (rightE ⟨t, fr, L, d⟩ = if longM ⟨t, fr, L, d⟩ = true then 31 else if mayM ⟨t, fr, L, d⟩ = true then 0 else 30) := Lib.hid rfl
  have hLS : Hid (longS ⟨t, fr, L, d⟩ = decide (1048576 < d.length ∨ 200 < L.length ∨ 320 < fr.size)) := Lib.hid rfl
  have hMS : Hid (mayS ⟨t, fr, L, d⟩ = (decide (0 ≤ t ∧ t ≤ 9007199254740992) && ((decide (fr = ⟨#[]⟩) || addrOk fr.data.toList) && decide (0 < L.length)))) := Lib.hid rfl
  have hLM : Hid (longM ⟨t, fr, L, d⟩ = (longS ⟨t, fr, L, d⟩ || L.any longR)) := Lib.hid rfl
  have hMM : Hid (mayM ⟨t, fr, L, d⟩ = (mayS ⟨t, fr, L, d⟩ && L.all mayR)) := Lib.hid rfl
  generalize rightE ⟨t, fr, L, d⟩ = E at *
  generalize longM ⟨t, fr, L, d⟩ = lm at *
  generalize mayM ⟨t, fr, L, d⟩ = mm at *
  generalize longS ⟨t, fr, L, d⟩ = ls at *
  generalize mayS ⟨t, fr, L, d⟩ = ms at *
  have hblk := Blk.new w 25 #[.int .i64 t, .string fr, .slice A1 L.length c1, .slice A2 d.length c2]
  generalize hw0 : w.alloc (.cells #[.int .i64 t, .string fr, .slice A1 L.length c1, .slice A2 d.length c2] 25) = w0 at hblk
  have hb0 : Below w.heap.size w w0 := by rw [← hw0]; exact (Below.refl _ _).alloc (Nat.le_refl _) _
  have hs0 : w0.heap.size = w.heap.size + 1 := by rw [← hw0]; simp
  have K : Hid (∀ w', Below (w.heap.size + 1) w0 w' → w'.cell? ⟨w.heap.size, 0, none⟩ = some (.int .i64 t) ∧ w'.cell? ⟨w.heap.size, 1, none⟩ = some (.string fr) ∧ w'.cell? ⟨w.heap.size, 2, none⟩ = some (.slice A1 L.length c1) ∧ w'.cell? ⟨w.heap.size, 3, none⟩ = some (.slice A2 d.length c2)) :=
    Lib.hid fun w' hb => ⟨(hblk.below hb (by omega)).cell 0, (hblk.below hb (by omega)).cell 1, (hblk.below hb (by omega)).cell 2, (hblk.below hb (by omega)).cell 3⟩
  have HS0 := Lib.hid hs0
  clear hs0 hblk
  obtain ⟨k0, k1, k2, k3⟩ := K.out w0 (Below.refl _ _)
  have hMS2 : Hid (ms = (decide (0 ≤ t ∧ t ≤ 9007199254740992) && decide (0 < L.length) && (decide (fr = ⟨#[]⟩) || addrOk fr.data.toList))) := Lib.hid (by rw [hMS.out]; cases decide (0 ≤ t ∧ t ≤ 9007199254740992) <;> cases decide (0 < L.length) <;> cases (decide (fr = ⟨#[]⟩) || addrOk fr.data.toList) <;> rfl)
  clear hMS
  go_enter Tryd.func15, Tryd.ntmps15
  have HA := Lib.hid (fun w => isAddr_walk fr w hsf)
  go_upto_region 1 with fail
  go_cut [3] from 9 to 24 (fun x wr => w0 = wr ∧ x = .bool ls)
  case first =>
    go_wp2
    all_goals
      go_meet
      refine ⟨rfl, congrArg Value.bool ?_⟩
      rw [hLS.out]
      rw [Bool.eq_iff_iff]
      simp only [Bool.or_eq_true, decide_eq_true_eq, true_iff, false_iff, reduceCtorEq]
      omega
  case rest =>
    obtain ⟨rfl, rfl⟩ := hcut
    go_upto_region 2 with fail
    go_cut [4] from 25 to 38 (fun x wr => w0 = wr ∧ x = .bool (decide (0 ≤ t ∧ t ≤ 9007199254740992) && decide (0 < L.length)))
    case first =>
      go_wp2
      all_goals
        go_meet
        refine ⟨rfl, congrArg Value.bool ?_⟩
        rw [Bool.eq_iff_iff]
        simp only [Bool.and_eq_true, decide_eq_true_eq, true_iff, false_iff, reduceCtorEq]
        omega
    case rest =>
      obtain ⟨rfl, rfl⟩ := hcut
      generalize (decide (0 ≤ t ∧ t ≤ 9007199254740992) && decide (0 < L.length)) = m1 at *
      generalize hm2 : (decide (fr = ⟨#[]⟩) || addrOk fr.data.toList) = m2 at *
      go_upto_region 3 with fail
      go_cut [5] from 39 to 46 (fun x wr => w0 = wr ∧ x = .bool m2)
      case first =>
        by_cases hf : fr = ⟨#[]⟩
        · subst hf
          rw [decide_eq_true rfl, Bool.true_or] at hm2
          subst hm2
          clear hMS2
          go_wp2
          all_goals
            go_meet
            exact ⟨rfl, rfl⟩
        · have h1 : fr.toList.isEmpty = false := by
            rw [ByteArray.toList_eq]
            cases hl : fr.data.toList with
            | nil => exact absurd (str_eq hl) hf
            | cons _ _ => rfl
          rw [decide_eq_false hf, Bool.false_or] at hm2
          subst hm2
          clear hf hMS2
          go_wp2_with (go_at_call 29; refine (HA.out _).mono ?_; rintro e w' ⟨rfl, rfl⟩)
          all_goals
            go_meet
            exact ⟨rfl, rfl⟩
      case rest =>
        obtain ⟨rfl, rfl⟩ := hcut
        clear HA hm2 hLS
        have hmxI : (L.length : Int) ≤ 6000000000000 := by omega
        have hMM3 : Hid (mm = (m1 && m2 && L.all mayR)) := Lib.hid (by rw [hMM.out, hMS2.out])
        clear hMS2 hMM
        go_wp2
        go_loopg [6, 3, 4] L.length (fun k i lg my wr => Below (w.heap.size + 1) w0 wr ∧ ∃ (j : Nat) (bl bm : Bool), j + k = L.length ∧ i = .int .i64 j ∧ lg = .bool bl ∧ my = .bool bm ∧ Hid (lm = (bl || (L.drop j).any longR)) ∧ Hid (mm = (bm && m2 && (L.drop j).all mayR)))
        case atStart => exact ⟨Below.refl _ _, 0, ls, m1, by omega, rfl, rfl, rfl, Lib.hid (by rw [List.drop_zero]; exact hLM.out), Lib.hid (by rw [List.drop_zero]; exact hMM3.out)⟩
        case round =>
          obtain ⟨hb, j, bl, bm, hj, rfl, rfl, rfl, HL, HM⟩ := hrel
          obtain ⟨q0, q1, q2, q3⟩ := K.out wr hb
          by_cases hlt : j < L.length
          · have hbel : Below w.heap.size w wr := hb0.trans (hb.mono (Nat.le_succ _))
            obtain ⟨b, off, rfl, hB, hcell⟩ := (HRR.out.below hbel).at_ hlt
            obtain ⟨e1, e2⟩ := hcell j hlt
            have hst := HST.out _ (List.getElem_mem hlt)
            rw [List.drop_eq_getElem_cons hlt, List.any_cons] at HL
            rw [List.drop_eq_getElem_cons hlt, List.all_cons] at HM
            have hj1 : (j : Int) < (L.length : Int) := by omega
            clear hcell
            generalize L[j] = r at *
            obtain ⟨tx, mk⟩ := r
            dsimp only at *
            have HA := Lib.hid (fun w => isAddr_walk tx w hst)
            have HK := Lib.hid (fun w => isMark_walk (mk.toNat : Int) w)
            have HLR : Hid (longR ⟨tx, mk⟩ = decide ((320 : Int) < (tx.size : Int))) := Lib.hid (by unfold longR; rw [decide_eq_decide]; dsimp only; omega)
            have HMR : Hid (mayR ⟨tx, mk⟩ = (addrOk tx.data.toList && markOk (mk.toNat : Int))) := Lib.hid rfl
            rw [HLR.out] at HL
            rw [HMR.out] at HM
            clear HLR HMR
            generalize addrOk tx.data.toList = ao at *
            generalize markOk (mk.toNat : Int) = mo at *
            cases bl <;> cases bm <;> cases ao
            all_goals
              go_wp2_with (first
                | (go_at_call 29; refine (HA.out _).mono ?_; rintro e w1 ⟨rfl, rfl⟩)
                | (go_at_call 30; refine (HK.out _).mono ?_; rintro e w2 ⟨rfl, rfl⟩))
              go_roundg (gk - 1)
              case rel =>
                refine ⟨hb, j + 1, _, _, by omega, by go_num, rfl, rfl, Lib.hid ?_, Lib.hid ?_⟩
                · rw [HL.out]; simp
                · rw [HM.out]; cases m2 <;> simp
              case measure => omega
          · have hj1 : (L.length : Int) ≤ (j : Int) := by omega
            rw [List.drop_eq_nil_of_le (by omega), List.any_nil, Bool.or_false] at HL
            rw [List.drop_eq_nil_of_le (by omega), List.all_nil, Bool.and_true] at HM
            have hbel : Below w.heap.size w wr := hb0.trans (hb.mono (Nat.le_succ _))
            cases bl <;> cases bm <;> cases m2
            all_goals
              go_wp2
              go_ret
              refine ⟨hbel, ?_⟩
              rw [hE.out, HL.out, HM.out]
              rfl
end Go.Proofs.YtfnhaddgdfkmcaaDoor
