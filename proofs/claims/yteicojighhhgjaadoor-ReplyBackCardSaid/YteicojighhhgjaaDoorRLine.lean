/-
  The walk of waybillref14.line. No condition but the sizes that the form gives.
-/
import Derived.Test.YteicojighhhgjaaDoorLn
import Derived.Test.YteicojighhhgjaaDoorStrs
import Derived.RegionTactic
import Derived.ChangeAlike
import Derived.Outline
namespace Go.Proofs.YteicojighhhgjaaDoor
open Go.RowKit Go.Sort
set_option linter.unusedVariables false

theorem crlf_iff {l : List UInt8} (h : 2 ≤ l.length) : crlf l = decide (bt l (l.length - 1) = 10 ∧ bt l (l.length - 2) = 13) := by
  have e : l = l.take (l.length - 2) ++ [l[l.length - 2]'(by omega), l[l.length - 1]'(by omega)] := by
    conv => lhs; rw [← List.take_append_drop (l.length - 2) l]
    rw [List.drop_eq_getElem_cons (by omega)]
    congr 2
    rw [show l.length - 2 + 1 = l.length - 1 by omega, List.drop_eq_getElem_cons (by omega), List.drop_eq_nil_of_le (by omega)]
  unfold crlf Lib.hasSuffix
  rw [Bool.eq_iff_iff, List.isSuffixOf_iff_suffix, decide_eq_true_eq, bt_getElem (by omega), bt_getElem (by omega)]
  constructor
  · rintro ⟨t, ht⟩
    rw [e] at ht
    have := (List.append_inj' ht (by simp)).2
    simp only [List.cons.injEq, and_true] at this
    rw [← this.1, ← this.2]; exact ⟨rfl, rfl⟩
  · rintro ⟨h1, h2⟩
    refine ⟨l.take (l.length - 2), ?_⟩
    have h1' : l[l.length - 1]'(by omega) = 10 := UInt8.toNat_inj.1 (by show _ = 10; omega)
    have h2' : l[l.length - 2]'(by omega) = 13 := UInt8.toNat_inj.1 (by show _ = 13; omega)
    conv => rhs; rw [e, h1', h2']
theorem bodyL_bt {l : List UInt8} {j : Nat} (h : j + 2 < l.length) : bt (bodyL l) j = bt l j := by
  unfold bodyL bt
  rw [List.getD_eq_getElem?_getD, List.getD_eq_getElem?_getD, List.getElem?_take_of_lt (by omega)]
theorem lOk_short {l : List UInt8} (h : l.length < 5) : lOk l = false := by
  cases hc : crlf l
  · unfold lOk; rw [hc]; rfl
  · have := bodyL_len hc
    unfold lOk bodyOk
    rw [decide_eq_false (show ¬ 3 ≤ (bodyL l).length by omega), Bool.false_and, Bool.and_false]
theorem lOk_no {l : List UInt8} (h : 2 ≤ l.length) (hx : ¬ (bt l (l.length - 1) = 10 ∧ bt l (l.length - 2) = 13)) : lOk l = false := by
  unfold lOk; rw [crlf_iff h, decide_eq_false hx]; rfl
theorem lOk_yes {l : List UInt8} (h : 5 ≤ l.length) (hx : bt l (l.length - 1) = 10 ∧ bt l (l.length - 2) = 13) :
    lOk l = ((isDig (bt l 0) && (isDig (bt l 1) && isDig (bt l 2))) && (codeOk (lN l) && (decide (l.length = 5) || (decide (bt l 3 = 45 ∨ bt l 3 = 32) && textOk (lT l))))) := by
  have hl : (bodyL l).length = l.length - 2 := by unfold bodyL; rw [List.length_take]; omega
  unfold lOk bodyOk digs3 lN lT
  rw [crlf_iff (by omega), decide_eq_true hx, Bool.true_and, hl, decide_eq_true (show 3 ≤ l.length - 2 by omega), Bool.true_and, bodyL_bt (by omega), bodyL_bt (by omega), bodyL_bt (by omega)]
  congr 2
  by_cases h5 : l.length = 5
  · rw [decide_eq_true h5, decide_eq_true (show l.length - 2 = 3 by omega)]; rfl
  · rw [decide_eq_false h5, decide_eq_false (show ¬ l.length - 2 = 3 by omega), bodyL_bt (by omega)]
/-- the number of the first j digits -/
def pc (l : List UInt8) : Nat → Int
  | 0 => 0
  | j + 1 => 10 * pc l j + bt l j - 48
def digTo (l : List UInt8) : Nat → Bool
  | 0 => true
  | j + 1 => digTo l j && isDig (bt l j)
theorem pc_rng {l : List UInt8} : ∀ {j : Nat}, j ≤ 3 → digTo l j = true → 0 ≤ pc l j ∧ pc l j ≤ 999 := by
  intro j hj h
  match j, hj with
  | 0, _ => simp [pc]
  | 1, _ => simp [pc, digTo, isDig] at *; omega
  | 2, _ => simp [pc, digTo, isDig] at *; omega
  | 3, _ => simp [pc, digTo, isDig] at *; omega
theorem pc3 {l : List UInt8} (h : 5 ≤ l.length) : pc l 3 = lN l := by
  unfold lN code3
  rw [bodyL_bt (by omega), bodyL_bt (by omega), bodyL_bt (by omega)]
  simp [pc]; omega
theorem digTo3 (l : List UInt8) : digTo l 3 = (isDig (bt l 0) && (isDig (bt l 1) && isDig (bt l 2))) := by
  simp only [digTo, Bool.true_and, Bool.and_assoc]
theorem digTo_no {l : List UInt8} {j : Nat} (hj : j < 3) (h : digTo l (j + 1) = false) : digTo l 3 = false := by
  match j, hj with
  | 0, _ => simp only [digTo, Bool.true_and] at *; rw [h]; rfl
  | 1, _ => simp only [digTo, Bool.true_and] at *; rw [h]; rfl
  | 2, _ => exact h
/-- what waybillref14.line answers -/
def RLineAns (l : List UInt8) (e : Ending) : Prop :=
  ∃ (n : Int) (more : Bool) (t : ByteArray), e = .returned (.tuple #[.int .i64 n, .bool more, .string t, .bool (lOk l)]) ∧ (lOk l = true → n = lN l ∧ t = ⟨(lT l).toArray⟩ ∧ more = lM l)

set_option maxHeartbeats 2000000 in
theorem rline_walk (A : Option Addr) (l : List UInt8) (cp : Nat) (w : World) (h : RB w w.heap.size A l) (hl : l.length ≤ cp) (hc : cp ≤ maxLen) :
    Calls Tryd.prog 32 #[.slice A l.length cp] w fun e w' => Below w.heap.size w w' ∧ RLineAns l e := by
  unfold maxLen at hc
  by_cases h5 : l.length < 5
  · have hno := lOk_short h5
    unfold RLineAns
    rw [hno]
    have h6 : (l.length : Int) < 5 := by omega
    go_enter Tryd.func32, Tryd.ntmps32
    go_wp2
    all_goals
      (try simp only [Exit.inBlock, Exit.then])
      refine bodyPost_ret (results_t4 rfl _ _ _) rfl ?_
      exact ⟨Below.refl _ _, _, _, _, rfl, fun h => by cases h⟩
  · have h6 : (5 : Int) ≤ (l.length : Int) := by omega
    have hn5 : 5 ≤ l.length := by omega
    obtain ⟨b, off, rfl, hb, hcell⟩ := h.at_ (show 0 < l.length by omega)
    have c1 : w.cell? ⟨b, off + (l.length - 1), none⟩ = some (.int .u8 (bt l (l.length - 1))) := hcell _ (by omega)
    have c2 : w.cell? ⟨b, off + (l.length - 2), none⟩ = some (.int .u8 (bt l (l.length - 2))) := hcell _ (by omega)
    by_cases hx : bt l (l.length - 1) = 10 ∧ bt l (l.length - 2) = 13
    · have hok := lOk_yes hn5 hx
      obtain ⟨hx1, hx2⟩ := hx
      rw [hx1] at c1
      rw [hx2] at c2
      rw [← digTo3, ← pc3 hn5] at hok
      have hN := Lib.hid (pc3 hn5)
      have HOK := Lib.hid hok
      have ex1 : ((l.length : Int) - 1).toNat = l.length - 1 := by omega
      have ex2 : ((l.length : Int) - 2).toNat = l.length - 2 := by omega
      clear hok hx1 hx2
      go_enter Tryd.func32, Tryd.ntmps32
      go_wp2
      go_loopg [7, 8] 3 (fun k c i wr => w = wr ∧ ∃ j : Nat, j + k = 3 ∧ i = .int .i64 j ∧ c = .int .i64 (pc l j) ∧ Hid (digTo l j = true))
      case atStart => exact ⟨rfl, 0, by omega, rfl, rfl, Lib.hid rfl⟩
      case round =>
        obtain ⟨rfl, j, hj, rfl, rfl, HD⟩ := hrel
        by_cases hlt : j < 3
        · have cj := hcell j (by omega)
          have hx0 := bt_lo l j
          have hx1 := bt_hi l j
          obtain ⟨hp0, hp1⟩ := pc_rng (by omega) HD.out
          have hj1 : (j : Int) < 3 := by omega
          have hj2 : (j : Int) < (l.length : Int) := by omega
          have hpc : Hid (pc l (j + 1) = 10 * pc l j + bt l j - 48) := Lib.hid rfl
          have hdg : Hid (digTo l (j + 1) = (digTo l j && isDig (bt l j))) := Lib.hid rfl
          clear hcell h c1 c2
          generalize bt l j = x at *
          generalize pc l j = p at *
          go_wp2
          all_goals first
            | (refine bodyPost_ret (results_t4 rfl _ _ _) rfl ?_
               go_light
               have e1 : isDig x = false := by unfold isDig; rw [decide_eq_false_iff_not]; (try simp only [decide_eq_true_eq, decide_eq_false_iff_not] at *); omega
               have e2 : digTo l 3 = false := digTo_no hlt (by rw [hdg.out, e1, Bool.and_false])
               have e3 : lOk l = false := by rw [HOK.out, e2, Bool.false_and]
               unfold RLineAns
               rw [e3]
               exact ⟨Below.refl _ _, _, _, _, rfl, fun h => by cases h⟩)
            | (go_roundg (gk - 1)
               case rel =>
                 go_light
                 have e1 : isDig x = true := by unfold isDig; rw [decide_eq_true_eq]; (try simp only [decide_eq_true_eq, decide_eq_false_iff_not] at *); omega
                 exact ⟨by trivial, j + 1, by omega, by go_num, by rw [hpc.out], Lib.hid (by rw [hdg.out, HD.out, e1]; rfl)⟩
               case measure => omega)
        · obtain rfl : j = 3 := by omega
          have HC := Lib.hid (rcode_walk (pc l 3) w)
          rw [HD.out, Bool.true_and] at HOK
          generalize pc l 3 = c at *
          cases hco : codeOk c
          · rw [hco] at HC HOK
            rw [Bool.false_and] at HOK
            clear hco hcell h c1 c2 ex1 ex2 hlt hj
            go_wp2_with fail
            refine HC.out.mono ?_
            rintro e w' ⟨rfl, rfl⟩
            go_wp2
            refine bodyPost_ret (results_t4 rfl _ _ _) rfl ?_
            unfold RLineAns
            rw [HOK.out]
            exact ⟨Below.refl _ _, _, _, _, rfl, fun h => by cases h⟩
          · rw [hco] at HC HOK
            rw [Bool.true_and] at HOK
            clear hco
            by_cases h55 : l.length = 5
            · rw [decide_eq_true h55, Bool.true_or] at HOK
              have h56 : ((l.length : Int) == 5) = true := beq_iff_eq.2 (by omega)
              have H55 := Lib.hid h55
              clear h55 hcell h c1 c2 ex1 ex2 hlt hj
              go_wp2_with fail
              refine HC.out.mono ?_
              rintro e w' ⟨rfl, rfl⟩
              go_wp2
              refine bodyPost_ret (results_t4 rfl _ _ _) rfl ?_
              have hbl : (bodyL l).length = 3 := by unfold bodyL; rw [List.length_take]; have := H55.out; omega
              refine ⟨Below.refl _ _, _, _, _, (by rw [HOK.out]; rfl), fun _ => ⟨hN.out, ?_, ?_⟩⟩
              · unfold lT; rw [List.drop_eq_nil_of_le (by omega)]
              · symm
                unfold lM
                rw [decide_eq_false_iff_not]
                unfold bt
                rw [List.getD_eq_getElem?_getD, List.getElem?_eq_none (by omega)]
                decide
            · rw [decide_eq_false h55, Bool.false_or] at HOK
              have h56 : ((l.length : Int) == 5) = false := beq_eq_false_iff_ne.2 (by omega)
              have h57 : (6 : Int) ≤ (l.length : Int) := by omega
              have h58 : 6 ≤ l.length := by omega
              have c3 : w.cell? ⟨b, off + 3, none⟩ = some (.int .u8 (bt l 3)) := hcell 3 (by omega)
              have hM : Hid (lM l = decide (bt l 3 = 45)) := Lib.hid (by unfold lM; rw [bodyL_bt (by omega)])
              have hx0 := bt_lo l 3
              have hx1 := bt_hi l 3
              have hTL : ((l.drop 4).take (l.length - 2 - 4)) = lT l := by unfold lT bodyL; rw [List.drop_take]
              have hrb := RB.sub hb hcell 4 (l.length - 2 - 4) (by omega)
              rw [hTL] at hrb
              have hln : l.length - 2 - 4 = (lT l).length := by rw [← hTL]; exact take_drop_len (by omega)
              have hcv := run_convRB (P := Tryd.prog) 27 9 5 Tryd.underlying27 Tryd.underlying5 Tryd.underlying9 hrb (l.length - 2 - 4) (cp - 4) hln
              have HTW := Lib.hid (rtext_walk ⟨(lT l).toArray⟩ w (by rw [size_len]; simp; rw [← hln]; unfold maxLen; omega))
              have ex3 : ((l.length : Int) - 2).toNat - 4 = l.length - 2 - 4 := by omega
              rw [show (⟨(lT l).toArray⟩ : ByteArray).data.toList = lT l by simp] at HTW
              clear h55 hcell h c1 c2 ex1 hlt hj hrb hln hTL
              generalize bt l 3 = x at *
              generalize textOk (lT l) = tk at *
              go_wp2_with fail
              refine HC.out.mono ?_
              rintro e w' ⟨rfl, rfl⟩
              go_wp2_with fail
              refine HTW.out.mono ?_
              rintro e w' ⟨rfl, rfl⟩
              clear HTW HC hcv
              cases tk
              · go_wp2
                refine bodyPost_ret (results_t4 rfl _ _ _) rfl ?_
                unfold RLineAns
                rw [HOK.out, Bool.and_false]
                exact ⟨Below.refl _ _, _, _, _, rfl, fun h => by cases h⟩
              · refine on_ne x 45 (fun X1 X2 => ?_) (fun X1 X2 => ?_) <;> obtain ⟨X3, X5⟩ := X2.out <;> clear X2
                · have HF : Hid (lOk l = true ∧ lM l = true) := Lib.hid ⟨by rw [HOK.out, decide_eq_true (Or.inl X1.out)]; rfl, by rw [hM.out, decide_eq_true X1.out]⟩
                  go_wp2
                  go_quiet (fail)
                  go_wp2
                  refine bodyPost_ret (results_t4 rfl _ _ _) rfl ?_
                  unfold RLineAns
                  rw [HF.out.1, HF.out.2]
                  exact ⟨bdrewN (Below.refl _ _) _, _, _, _, rfl, fun _ => ⟨hN.out, rfl, rfl⟩⟩
                · refine on_ne x 32 (fun Y1 Y2 => ?_) (fun Y1 Y2 => ?_) <;> obtain ⟨Y3, Y5⟩ := Y2.out <;> clear Y2
                  · have HF : Hid (lOk l = true ∧ lM l = false) := Lib.hid ⟨by rw [HOK.out, decide_eq_true (Or.inr Y1.out)]; rfl, by rw [hM.out, decide_eq_false X1.out]⟩
                    go_wp2
                    go_quiet (fail)
                    go_wp2
                    refine bodyPost_ret (results_t4 rfl _ _ _) rfl ?_
                    unfold RLineAns
                    rw [HF.out.1, HF.out.2]
                    exact ⟨bdrewN (Below.refl _ _) _, _, _, _, rfl, fun _ => ⟨hN.out, rfl, rfl⟩⟩
                  · have HF : Hid (lOk l = false) := Lib.hid (by rw [HOK.out, decide_eq_false (fun h => h.elim X1.out Y1.out)]; rfl)
                    go_wp2
                    refine bodyPost_ret (results_t4 rfl _ _ _) rfl ?_
                    unfold RLineAns
                    rw [HF.out]
                    exact ⟨Below.refl _ _, _, _, _, rfl, fun h => by cases h⟩
    · have hno := lOk_no (by omega) hx
      unfold RLineAns
      rw [hno]
      have hx' : bt l (l.length - 1) ≠ 10 ∨ bt l (l.length - 2) ≠ 13 := by omega
      clear hx hcell h hno
      generalize bt l (l.length - 1) = x at *
      generalize bt l (l.length - 2) = y at *
      have ex1 : ((l.length : Int) - 1).toNat = l.length - 1 := by omega
      have ex2 : ((l.length : Int) - 2).toNat = l.length - 2 := by omega
      refine on_ne x 10 (fun X1 X2 => ?_) (fun X1 X2 => ?_) <;> obtain ⟨X3, X5⟩ := X2.out <;> clear X2
      · refine on_ne y 13 (fun Y1 Y2 => ?_) (fun Y1 Y2 => ?_) <;> obtain ⟨Y3, Y5⟩ := Y2.out <;> clear Y2
        · have := X1.out; have := Y1.out; omega
        · clear hx'
          go_enter Tryd.func32, Tryd.ntmps32
          go_wp2
          all_goals
            (try simp only [Exit.inBlock, Exit.then])
            refine bodyPost_ret (results_t4 rfl _ _ _) rfl ?_
            exact ⟨Below.refl _ _, _, _, _, rfl, fun h => by cases h⟩
      · clear hx'
        go_enter Tryd.func32, Tryd.ntmps32
        go_wp2
        all_goals
          (try simp only [Exit.inBlock, Exit.then])
          refine bodyPost_ret (results_t4 rfl _ _ _) rfl ?_
          exact ⟨Below.refl _ _, _, _, _, rfl, fun h => by cases h⟩
end Go.Proofs.YteicojighhhgjaaDoor
