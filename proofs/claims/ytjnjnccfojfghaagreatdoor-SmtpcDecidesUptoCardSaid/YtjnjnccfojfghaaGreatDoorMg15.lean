/-
  Several texts in one: RLine, LawPlain. Conditions: each part names its own.
-/
import Derived.Test.YtjnjnccfojfghaaGreatDoorMg7
import Derived.Test.YtjnjnccfojfghaaGreatDoorMg1
import Derived.RegionTactic
import Derived.ChangeAlike
import Derived.Outline
set_option linter.unusedSimpArgs false
/-! The walk of waybillref14.line. No condition but the sizes that the form gives. -/
namespace Go.Proofs.YtjnjnccfojfghaaGreatDoor
open Go.RowKit Go.Sort
set_option linter.unusedVariables false

theorem crlf_iff {l : List UInt8} (h : 2 ≤ l.length) : crlfR l = decide (bt l (l.length - 1) = 10 ∧ bt l (l.length - 2) = 13) := by
  have e : l = l.take (l.length - 2) ++ [l[l.length - 2]'(by omega), l[l.length - 1]'(by omega)] := by
    conv => lhs; rw [← List.take_append_drop (l.length - 2) l]
    rw [List.drop_eq_getElem_cons (by omega)]
    congr 2
    rw [show l.length - 2 + 1 = l.length - 1 by omega, List.drop_eq_getElem_cons (by omega), List.drop_eq_nil_of_le (by omega)]
  unfold crlfR Lib.hasSuffix
  rw [Bool.eq_iff_iff, List.isSuffixOf_iff_suffix, decide_eq_true_eq, bt_getElem (by omega), bt_getElem (by omega)]
  constructor
  · rintro ⟨t, ht⟩
    rw [e] at ht
    have := (List.append_inj' ht (by simp)).2
    simp only [List.cons.injEq, and_true] at this
    rw [← this.1, ← this.2]; exact ⟨rfl, rfl⟩
  · rintro ⟨h1, h2⟩
    refine ⟨l.take (l.length - 2), ?_⟩
    have h1' : l[l.length - 1]'(by omega) = 10 := UInt8.toNat_inj.1 (by show _ = 10; omega)
    have h2' : l[l.length - 2]'(by omega) = 13 := UInt8.toNat_inj.1 (by show _ = 13; omega)
    conv => rhs; rw [e, h1', h2']
theorem bodyL_bt {l : List UInt8} {j : Nat} (h : j + 2 < l.length) : bt (bodyL l) j = bt l j := by
  unfold bodyL bt
  rw [List.getD_eq_getElem?_getD, List.getD_eq_getElem?_getD, List.getElem?_take_of_lt (by omega)]
theorem lOk_short {l : List UInt8} (h : l.length < 5) : lOk l = false := by
  cases hc : crlfR l
  · unfold lOk; rw [hc]; rfl
  · have := bodyL_len hc
    unfold lOk bodyOk
    rw [decide_eq_false (show ¬ 3 ≤ (bodyL l).length by omega), Bool.false_and, Bool.and_false]
theorem lOk_no {l : List UInt8} (h : 2 ≤ l.length) (hx : ¬ (bt l (l.length - 1) = 10 ∧ bt l (l.length - 2) = 13)) : lOk l = false := by
  unfold lOk; rw [crlf_iff h, decide_eq_false hx]; rfl
theorem lOk_yes {l : List UInt8} (h : 5 ≤ l.length) (hx : bt l (l.length - 1) = 10 ∧ bt l (l.length - 2) = 13) :
    lOk l = ((isDig (bt l 0) && (isDig (bt l 1) && isDig (bt l 2))) && (codeOk (lN l) && (decide (l.length = 5) || (decide (bt l 3 = 45 ∨ bt l 3 = 32) && textOk (lT l))))) := by
  have hl : (bodyL l).length = l.length - 2 := by unfold bodyL; rw [List.length_take]; omega
  unfold lOk bodyOk digs3 lN lT
  rw [crlf_iff (by omega), decide_eq_true hx, Bool.true_and, hl, decide_eq_true (show 3 ≤ l.length - 2 by omega), Bool.true_and, bodyL_bt (by omega), bodyL_bt (by omega), bodyL_bt (by omega)]
  congr 2
  by_cases h5 : l.length = 5
  · rw [decide_eq_true h5, decide_eq_true (show l.length - 2 = 3 by omega)]; rfl
  · rw [decide_eq_false h5, decide_eq_false (show ¬ l.length - 2 = 3 by omega), bodyL_bt (by omega)]
/-- the number of the first j digits -/
def pc (l : List UInt8) : Nat → Int
  | 0 => 0
  | j + 1 => 10 * pc l j + bt l j - 48
def digTo (l : List UInt8) : Nat → Bool
  | 0 => true
  | j + 1 => digTo l j && isDig (bt l j)
theorem pc_rng {l : List UInt8} : ∀ {j : Nat}, j ≤ 3 → digTo l j = true → 0 ≤ pc l j ∧ pc l j ≤ 999 := by
  intro j hj h
  match j, hj with
  | 0, _ => simp [pc]
  | 1, _ => simp [pc, digTo, isDig] at *; omega
  | 2, _ => simp [pc, digTo, isDig] at *; omega
  | 3, _ => simp [pc, digTo, isDig] at *; omega
theorem pc3 {l : List UInt8} (h : 5 ≤ l.length) : pc l 3 = lN l := by
  unfold lN code3
  rw [bodyL_bt (by omega), bodyL_bt (by omega), bodyL_bt (by omega)]
  simp [pc]; omega
theorem digTo3 (l : List UInt8) : digTo l 3 = (isDig (bt l 0) && (isDig (bt l 1) && isDig (bt l 2))) := by
  simp only [digTo, Bool.true_and, Bool.and_assoc]
theorem digTo_no {l : List UInt8} {j : Nat} (hj : j < 3) (h : digTo l (j + 1) = false) : digTo l 3 = false := by
  match j, hj with
  | 0, _ => simp only [digTo, Bool.true_and] at *; rw [h]; rfl
  | 1, _ => simp only [digTo, Bool.true_and] at *; rw [h]; rfl
  | 2, _ => exact h
/-- what waybillref14.line answers -/
def RLineAns (l : List UInt8) (e : Ending) : Prop :=
  ∃ (n : Int) (more : Bool) (t : ByteArray), e = .returned (.tuple #[.int .i64 n, .bool more, .string t, .bool (lOk l)]) ∧ (lOk l = true → n = lN l ∧ t = ⟨(lT l).toArray⟩ ∧ more = lM l)

set_option maxHeartbeats 2000000 in
theorem rline_walk (A : Option Addr) (l : List UInt8) (cp : Nat) (w : World) (h : RB w w.heap.size A l) (hl : l.length ≤ cp) (hc : cp ≤ maxLen) :
    Calls Tryz.prog 71 #[.slice A l.length cp] w fun e w' => Below w.heap.size w w' ∧ RLineAns l e := by
  unfold maxLen at hc
  by_cases h5 : l.length < 5
  · have hno := lOk_short h5
    unfold RLineAns
    rw [hno]
    have h6 : (l.length : Int) < 5 := by omega
    go_enter Tryz.func71, Tryz.ntmps71
    go_wp2
    all_goals
      (try simp only [Exit.inBlock, Exit.then])
      refine bodyPost_ret (results_t4 rfl _ _ _) rfl ?_
      exact ⟨Below.refl _ _, _, _, _, rfl, fun h => by cases h⟩
  · have h6 : (5 : Int) ≤ (l.length : Int) := by omega
    have hn5 : 5 ≤ l.length := by omega
    obtain ⟨b, off, rfl, hb, hcell⟩ := h.at_ (show 0 < l.length by omega)
    have c1 : w.cell? ⟨b, off + (l.length - 1), none⟩ = some (.int .u8 (bt l (l.length - 1))) := hcell _ (by omega)
    have c2 : w.cell? ⟨b, off + (l.length - 2), none⟩ = some (.int .u8 (bt l (l.length - 2))) := hcell _ (by omega)
    by_cases hx : bt l (l.length - 1) = 10 ∧ bt l (l.length - 2) = 13
    · have hok := lOk_yes hn5 hx
      obtain ⟨hx1, hx2⟩ := hx
      rw [hx1] at c1
      rw [hx2] at c2
      rw [← digTo3, ← pc3 hn5] at hok
      have hN := Lib.hid (pc3 hn5)
      have HOK := Lib.hid hok
      have ex1 : ((l.length : Int) - 1).toNat = l.length - 1 := by omega
      have ex2 : ((l.length : Int) - 2).toNat = l.length - 2 := by omega
      clear hok hx1 hx2
      go_enter Tryz.func71, Tryz.ntmps71
      go_wp2
      go_loopg [7, 8] 3 (fun k c i wr => w = wr ∧ ∃ j : Nat, j + k = 3 ∧ i = .int .i64 j ∧ c = .int .i64 (pc l j) ∧ Hid (digTo l j = true))
      case atStart => exact ⟨rfl, 0, by omega, rfl, rfl, Lib.hid rfl⟩
      case round =>
        obtain ⟨rfl, j, hj, rfl, rfl, HD⟩ := hrel
        by_cases hlt : j < 3
        · have cj := hcell j (by omega)
          have hx0 := bt_lo l j
          have hx1 := bt_hi l j
          obtain ⟨hp0, hp1⟩ := pc_rng (by omega) HD.out
          have hj1 : (j : Int) < 3 := by omega
          have hj2 : (j : Int) < (l.length : Int) := by omega
          have hpc : Hid (pc l (j + 1) = 10 * pc l j + bt l j - 48) := Lib.hid rfl
          have hdg : Hid (digTo l (j + 1) = (digTo l j && isDig (bt l j))) := Lib.hid rfl
          clear hcell h c1 c2
          generalize bt l j = x at *
          generalize pc l j = p at *
          go_wp2
          all_goals first
            | (refine bodyPost_ret (results_t4 rfl _ _ _) rfl ?_
               go_light
               have e1 : isDig x = false := by unfold isDig; rw [decide_eq_false_iff_not]; (try simp only [decide_eq_true_eq, decide_eq_false_iff_not] at *); omega
               have e2 : digTo l 3 = false := digTo_no hlt (by rw [hdg.out, e1, Bool.and_false])
               have e3 : lOk l = false := by rw [HOK.out, e2, Bool.false_and]
               unfold RLineAns
               rw [e3]
               exact ⟨Below.refl _ _, _, _, _, rfl, fun h => by cases h⟩)
            | (go_roundg (gk - 1)
               case rel =>
                 go_light
                 have e1 : isDig x = true := by unfold isDig; rw [decide_eq_true_eq]; (try simp only [decide_eq_true_eq, decide_eq_false_iff_not] at *); omega
                 exact ⟨by trivial, j + 1, by omega, by go_num, by rw [hpc.out], Lib.hid (by rw [hdg.out, HD.out, e1]; rfl)⟩
               case measure => omega)
        · obtain rfl : j = 3 := by omega
          have HC := Lib.hid (rcode_walk (pc l 3) w)
          rw [HD.out, Bool.true_and] at HOK
          generalize pc l 3 = c at *
          cases hco : codeOk c
          · rw [hco] at HC HOK
            rw [Bool.false_and] at HOK
            clear hco hcell h c1 c2 ex1 ex2 hlt hj
            go_wp2_with fail
            refine HC.out.mono ?_
            rintro e w' ⟨rfl, rfl⟩
            go_wp2
            refine bodyPost_ret (results_t4 rfl _ _ _) rfl ?_
            unfold RLineAns
            rw [HOK.out]
            exact ⟨Below.refl _ _, _, _, _, rfl, fun h => by cases h⟩
          · rw [hco] at HC HOK
            rw [Bool.true_and] at HOK
            clear hco
            by_cases h55 : l.length = 5
            · rw [decide_eq_true h55, Bool.true_or] at HOK
              have h56 : ((l.length : Int) == 5) = true := beq_iff_eq.2 (by omega)
              have H55 := Lib.hid h55
              clear h55 hcell h c1 c2 ex1 ex2 hlt hj
              go_wp2_with fail
              refine HC.out.mono ?_
              rintro e w' ⟨rfl, rfl⟩
              go_wp2
              refine bodyPost_ret (results_t4 rfl _ _ _) rfl ?_
              have hbl : (bodyL l).length = 3 := by unfold bodyL; rw [List.length_take]; have := H55.out; omega
              refine ⟨Below.refl _ _, _, _, _, (by rw [HOK.out]; rfl), fun _ => ⟨hN.out, ?_, ?_⟩⟩
              · unfold lT; rw [List.drop_eq_nil_of_le (by omega)]
              · symm
                unfold lM
                rw [decide_eq_false_iff_not]
                unfold bt
                rw [List.getD_eq_getElem?_getD, List.getElem?_eq_none (by omega)]
                decide
            · rw [decide_eq_false h55, Bool.false_or] at HOK
              have h56 : ((l.length : Int) == 5) = false := beq_eq_false_iff_ne.2 (by omega)
              have h57 : (6 : Int) ≤ (l.length : Int) := by omega
              have h58 : 6 ≤ l.length := by omega
              have c3 : w.cell? ⟨b, off + 3, none⟩ = some (.int .u8 (bt l 3)) := hcell 3 (by omega)
              have hM : Hid (lM l = decide (bt l 3 = 45)) := Lib.hid (by unfold lM; rw [bodyL_bt (by omega)])
              have hx0 := bt_lo l 3
              have hx1 := bt_hi l 3
              have hTL : ((l.drop 4).take (l.length - 2 - 4)) = lT l := by unfold lT bodyL; rw [List.drop_take]
              have hrb := RB.sub hb hcell 4 (l.length - 2 - 4) (by omega)
              rw [hTL] at hrb
              have hln : l.length - 2 - 4 = (lT l).length := by rw [← hTL]; exact take_drop_len (by omega)
              have hcv := run_convRB (P := Tryz.prog) 25 9 5 Tryz.underlying25 Tryz.underlying5 Tryz.underlying9 hrb (l.length - 2 - 4) (cp - 4) hln
              have HTW := Lib.hid (rtext_walk ⟨(lT l).toArray⟩ w (by rw [size_len]; simp; rw [← hln]; unfold maxLen; omega))
              have ex3 : ((l.length : Int) - 2).toNat - 4 = l.length - 2 - 4 := by omega
              rw [show (⟨(lT l).toArray⟩ : ByteArray).data.toList = lT l by simp] at HTW
              clear h55 hcell h c1 c2 ex1 hlt hj hrb hln hTL
              generalize bt l 3 = x at *
              generalize textOk (lT l) = tk at *
              go_wp2_with fail
              refine HC.out.mono ?_
              rintro e w' ⟨rfl, rfl⟩
              go_wp2_with fail
              refine HTW.out.mono ?_
              rintro e w' ⟨rfl, rfl⟩
              clear HTW HC hcv
              cases tk
              · go_wp2
                refine bodyPost_ret (results_t4 rfl _ _ _) rfl ?_
                unfold RLineAns
                rw [HOK.out, Bool.and_false]
                exact ⟨Below.refl _ _, _, _, _, rfl, fun h => by cases h⟩
              · refine on_ne x 45 (fun X1 X2 => ?_) (fun X1 X2 => ?_) <;> obtain ⟨X3, X5⟩ := X2.out <;> clear X2
                · have HF : Hid (lOk l = true ∧ lM l = true) := Lib.hid ⟨by rw [HOK.out, decide_eq_true (Or.inl X1.out)]; rfl, by rw [hM.out, decide_eq_true X1.out]⟩
                  go_wp2
                  go_quiet (fail)
                  go_wp2
                  refine bodyPost_ret (results_t4 rfl _ _ _) rfl ?_
                  unfold RLineAns
                  rw [HF.out.1, HF.out.2]
                  exact ⟨bdrewN (Below.refl _ _) _, _, _, _, rfl, fun _ => ⟨hN.out, rfl, rfl⟩⟩
                · refine on_ne x 32 (fun Y1 Y2 => ?_) (fun Y1 Y2 => ?_) <;> obtain ⟨Y3, Y5⟩ := Y2.out <;> clear Y2
                  · have HF : Hid (lOk l = true ∧ lM l = false) := Lib.hid ⟨by rw [HOK.out, decide_eq_true (Or.inr Y1.out)]; rfl, by rw [hM.out, decide_eq_false X1.out]⟩
                    go_wp2
                    go_quiet (fail)
                    go_wp2
                    refine bodyPost_ret (results_t4 rfl _ _ _) rfl ?_
                    unfold RLineAns
                    rw [HF.out.1, HF.out.2]
                    exact ⟨bdrewN (Below.refl _ _) _, _, _, _, rfl, fun _ => ⟨hN.out, rfl, rfl⟩⟩
                  · have HF : Hid (lOk l = false) := Lib.hid (by rw [HOK.out, decide_eq_false (fun h => h.elim X1.out Y1.out)]; rfl)
                    go_wp2
                    refine bodyPost_ret (results_t4 rfl _ _ _) rfl ?_
                    unfold RLineAns
                    rw [HF.out]
                    exact ⟨Below.refl _ _, _, _, _, rfl, fun h => by cases h⟩
    · have hno := lOk_no (by omega) hx
      unfold RLineAns
      rw [hno]
      have hx' : bt l (l.length - 1) ≠ 10 ∨ bt l (l.length - 2) ≠ 13 := by omega
      clear hx hcell h hno
      generalize bt l (l.length - 1) = x at *
      generalize bt l (l.length - 2) = y at *
      have ex1 : ((l.length : Int) - 1).toNat = l.length - 1 := by omega
      have ex2 : ((l.length : Int) - 2).toNat = l.length - 2 := by omega
      refine on_ne x 10 (fun X1 X2 => ?_) (fun X1 X2 => ?_) <;> obtain ⟨X3, X5⟩ := X2.out <;> clear X2
      · refine on_ne y 13 (fun Y1 Y2 => ?_) (fun Y1 Y2 => ?_) <;> obtain ⟨Y3, Y5⟩ := Y2.out <;> clear Y2
        · have := X1.out; have := Y1.out; omega
        · clear hx'
          go_enter Tryz.func71, Tryz.ntmps71
          go_wp2
          all_goals
            (try simp only [Exit.inBlock, Exit.then])
            refine bodyPost_ret (results_t4 rfl _ _ _) rfl ?_
            exact ⟨Below.refl _ _, _, _, _, rfl, fun h => by cases h⟩
      · clear hx'
        go_enter Tryz.func71, Tryz.ntmps71
        go_wp2
        all_goals
          (try simp only [Exit.inBlock, Exit.then])
          refine bodyPost_ret (results_t4 rfl _ _ _) rfl ?_
          exact ⟨Below.refl _ _, _, _, _, rfl, fun h => by cases h⟩
end Go.Proofs.YtjnjnccfojfghaaGreatDoor

/-! The plain laws of reading: what is read may be; what is printed is read again; each beginning is too short. No condition. -/
namespace Go.Proofs.YtjnjnccfojfghaaGreatDoor
set_option linter.unusedVariables false

theorem rd_len : ∀ (k : Nat) (l : List UInt8) (a c : Int) (L : List ByteArray), L.length ≤ 50 → (rd k l a c L).L.length ≤ 50
  | 0, _, _, _, _, _ => by simp [rd, bad]
  | k + 1, l, a, c, L, h => by
    by_cases he : eol l < 0
    · rw [rd_short (by omega) he]; simp [bad]
    by_cases hf : lOk (fst l) = false ∨ (0 < a ∧ lN (fst l) ≠ c)
    · rw [rd_form (by omega) he hf]; simp [bad]
    by_cases h5 : L.length = 50
    · rw [rd_long (by omega) he hf h5]; simp [bad]
    cases hm : lM (fst l)
    · rw [rd_last (by omega) he hf h5 hm]; simp; omega
    · rw [rd_more (by omega) he hf h5 hm]
      exact rd_len _ _ _ _ _ (by simp; omega)
theorem readP_len (l : List UInt8) : (readP l).L.length ≤ 50 := rd_len _ _ _ _ _ (by simp)
theorem lOk_parts {x : List UInt8} (h : lOk x = true) : codeOk (lN x) = true ∧ textOk (lT x) = true := by
  unfold lOk bodyOk at h
  simp only [Bool.and_eq_true, Bool.or_eq_true, decide_eq_true_eq] at h
  obtain ⟨hc, h3, hd, hco, hm | ⟨_, ht⟩⟩ := h
  · refine ⟨hco, ?_⟩
    unfold lT
    rw [List.drop_eq_nil_of_le (by omega)]
    rfl
  · exact ⟨hco, ht⟩
theorem rd_right : ∀ (k : Nat) (l : List UInt8) (a c : Int) (L : List ByteArray), l.length < k → 0 ≤ a → L.all lineOk = true → L.length ≤ 50 → (rd k l a c L).e = 0 →
    rightOk (rd k l a c L).c (rd k l a c L).L = true ∧ a + 1 ≤ (rd k l a c L).n ∧ (rd k l a c L).n ≤ a + l.length
  | 0, _, _, _, _, h, _, _, _, _ => by omega
  | k + 1, l, a, c, L, hk, ha, hL, h50, h => by
    by_cases he : eol l < 0
    · rw [rd_short (by omega) he] at h; unfold bad short at h; simp only at h; split at h <;> omega
    by_cases hf : lOk (fst l) = false ∨ (0 < a ∧ lN (fst l) ≠ c)
    · rw [rd_form (by omega) he hf] at h; simp [bad] at h
    by_cases h5 : L.length = 50
    · rw [rd_long (by omega) he hf h5] at h; simp [bad] at h
    have hok : lOk (fst l) = true := by
      cases hx : lOk (fst l)
      · exact absurd (.inl hx) hf
      · rfl
    obtain ⟨p1, p2⟩ := lOk_parts hok
    have hm1 := (eol_at he).2.1
    have hL' : (L ++ [(⟨(lT (fst l)).toArray⟩ : ByteArray)]).all lineOk = true := by
      rw [List.all_append, hL, Bool.true_and, List.all_cons, List.all_nil, Bool.and_true]
      exact p2
    cases hm : lM (fst l)
    · rw [rd_last (by omega) he hf h5 hm]
      refine ⟨?_, ?_, ?_⟩
      · unfold rightOk
        rw [hL', p1, decide_eq_true (by simp), decide_eq_true (by simp; omega)]; rfl
      · simp only; omega
      · simp only; omega
    · rw [rd_more (by omega) he hf h5 hm] at h ⊢
      obtain ⟨q1, q2, q3⟩ := rd_right _ _ _ _ _ (by rw [List.length_drop]; omega) (by omega) hL' (by simp; omega) h
      refine ⟨q1, by omega, ?_⟩
      rw [List.length_drop] at q3
      omega
theorem indexByte_app {c : UInt8} {z : List UInt8} : ∀ (y : List UInt8), (∀ b ∈ y, b ≠ c) → Lib.indexByte (y ++ c :: z) c = y.length
  | [], _ => by simp [Lib.indexByte]
  | b :: y, h => by
    have ih := indexByte_app (z := z) y (fun b hb => h b (by simp [hb]))
    have hb : (b == c) = false := beq_eq_false_iff_ne.2 (h b (by simp))
    rw [List.cons_append]
    unfold Lib.indexByte
    rw [hb, ih]
    simp
theorem indexByte_no {c : UInt8} : ∀ (y : List UInt8), (∀ b ∈ y, b ≠ c) → Lib.indexByte y c = -1
  | [], _ => rfl
  | b :: y, h => by
    have ih := indexByte_no y (fun b hb => h b (by simp [hb]))
    have hb : (b == c) = false := beq_eq_false_iff_ne.2 (h b (by simp))
    unfold Lib.indexByte
    rw [hb, ih]
    rfl
theorem eol_line {y z : List UInt8} (hy : ∀ b ∈ y, b ≠ 10) (hl : y.length < 512) : eol (y ++ 10 :: z) = y.length := by
  unfold eol
  rw [List.take_append, List.take_of_length_le (by omega)]
  obtain ⟨k, hk⟩ : ∃ k, 512 - y.length = k + 1 := ⟨511 - y.length, by omega⟩
  rw [hk, List.take_succ_cons]
  exact indexByte_app y hy
theorem eol_no {y : List UInt8} (hy : ∀ b ∈ y, b ≠ 10) : eol y < 0 := by
  unfold eol
  rw [indexByte_no _ (fun b hb => hy b (List.mem_of_mem_take hb))]
  omega
/-- a line's bytes, but the last -/
def lnA (c : Int) (sep : UInt8) (s : List UInt8) : List UInt8 := dig3 c ++ (sep :: (s ++ [13]))
theorem lnA_len (c : Int) (sep : UInt8) (s : List UInt8) : (lnA c sep s).length = s.length + 5 := by
  unfold lnA; simp [dig3_len]; omega
theorem dig3_nat {c : Int} (h : codeOk c = true) : ∃ a b d : UInt8, dig3 c = [a, b, d] ∧ (a.toNat : Int) = 48 + c / 100 ∧ (b.toNat : Int) = 48 + c / 10 % 10 ∧ (d.toNat : Int) = 48 + c % 10 ∧ 200 ≤ c ∧ c ≤ 599 := by
  unfold codeOk at h
  rw [decide_eq_true_eq] at h
  refine ⟨_, _, _, rfl, ?_, ?_, ?_, h.1, h.2.1⟩
  all_goals
    rw [UInt8.toNat_ofNat']
    omega
theorem lnA_no {c : Int} {sep : UInt8} {s : ByteArray} (hc : codeOk c = true) (hs : lineOk s = true) (hsep : sep = 32 ∨ sep = 45) : ∀ b ∈ lnA c sep s.data.toList, b ≠ 10 := by
  obtain ⟨x, y, z, e, hx, hy, hz, h0, h1⟩ := dig3_nat hc
  unfold lineOk textOk at hs
  rw [Bool.and_eq_true] at hs
  intro b hb
  unfold lnA at hb
  rw [e] at hb
  simp only [List.cons_append, List.nil_append, List.mem_cons, List.mem_append, List.not_mem_nil, or_false] at hb
  rintro rfl
  have h10 : ((10 : UInt8).toNat : Int) = 10 := rfl
  rcases hb with hb | hb | hb | hb | hb | hb
  · rw [← hb] at hx; omega
  · rw [← hb] at hy; omega
  · rw [← hb] at hz; omega
  · rcases hsep with h | h <;> rw [h] at hb <;> cases hb
  · have := (List.all_eq_true.1 hs.1) _ hb
    exact absurd this (by decide)
  · cases hb
theorem line_back {c : Int} {sep : UInt8} {s : ByteArray} (hc : codeOk c = true) (hs : lineOk s = true) (hsep : sep = 32 ∨ sep = 45) :
    lOk (lnA c sep s.data.toList ++ [10]) = true ∧ lN (lnA c sep s.data.toList ++ [10]) = c ∧ lT (lnA c sep s.data.toList ++ [10]) = s.data.toList ∧ lM (lnA c sep s.data.toList ++ [10]) = (sep == 45) := by
  obtain ⟨x, y, z, e, hx, hy, hz, h0, h1⟩ := dig3_nat hc
  have hcut : lnA c sep s.data.toList ++ [10] = (x :: y :: z :: sep :: s.data.toList) ++ [13, 10] := by unfold lnA; rw [e]; simp
  have hb : bodyL (lnA c sep s.data.toList ++ [10]) = x :: y :: z :: sep :: s.data.toList := by
    unfold bodyL
    rw [hcut, List.take_append_of_le_length (by simp), List.take_of_length_le (by simp)]
  have hcr : crlfR (lnA c sep s.data.toList ++ [10]) = true := by
    unfold crlfR Lib.hasSuffix
    rw [hcut, List.isSuffixOf_iff_suffix]
    exact ⟨_, rfl⟩
  have b0 : bt (x :: y :: z :: sep :: s.data.toList) 0 = (x.toNat : Int) := rfl
  have b1 : bt (x :: y :: z :: sep :: s.data.toList) 1 = (y.toNat : Int) := rfl
  have b2 : bt (x :: y :: z :: sep :: s.data.toList) 2 = (z.toNat : Int) := rfl
  have b3 : bt (x :: y :: z :: sep :: s.data.toList) 3 = (sep.toNat : Int) := rfl
  have hn : code3 (x :: y :: z :: sep :: s.data.toList) = c := by
    unfold code3; rw [b0, b1, b2, hx, hy, hz]; omega
  have hd : digs3 (x :: y :: z :: sep :: s.data.toList) = true := by
    unfold digs3 isDig
    rw [b0, b1, b2, hx, hy, hz, decide_eq_true (by omega), decide_eq_true (by omega), decide_eq_true (by omega)]; rfl
  have hsp : (sep.toNat : Int) = 45 ∨ (sep.toNat : Int) = 32 := by
    rcases hsep with h | h <;> subst h
    · exact .inr rfl
    · exact .inl rfl
  refine ⟨?_, ?_, ?_, ?_⟩
  · unfold lOk bodyOk
    rw [hcr, hb, hd, hn, hc, b3, decide_eq_true hsp, decide_eq_true (by simp), show (x :: y :: z :: sep :: s.data.toList).drop 4 = s.data.toList from rfl]
    unfold lineOk at hs
    rw [hs]
    simp
  · unfold lN; rw [hb]; exact hn
  · unfold lT; rw [hb]; rfl
  · unfold lM; rw [hb, b3]
    rcases hsep with h | h <;> subst h <;> rfl
theorem prt_cons (c : Int) (s : ByteArray) (r : List ByteArray) (more : List UInt8) :
    prt (dig3 c) (s :: r) ++ more = lnA c (if r.isEmpty then 32 else 45) s.data.toList ++ 10 :: (prt (dig3 c) r ++ more) := by
  unfold lnA; simp [prt]
theorem sep_or (r : List ByteArray) : (if r.isEmpty then (32 : UInt8) else 45) = 32 ∨ (if r.isEmpty then (32 : UInt8) else 45) = 45 := by
  cases r <;> simp
theorem line_len' {s : ByteArray} (h : lineOk s = true) : s.data.toList.length ≤ 506 := by
  unfold lineOk textOk at h
  rw [Bool.and_eq_true, decide_eq_true_eq] at h
  exact h.2
theorem rd_back {c : Int} (hc : codeOk c = true) (more : List UInt8) : ∀ (L : List ByteArray) (k : Nat) (a cc : Int) (M : List ByteArray), 1 ≤ L.length → L.all lineOk = true → M.length + L.length ≤ 50 → L.length ≤ k → 0 ≤ a → (0 < a → cc = c) →
    rd k (prt (dig3 c) L ++ more) a cc M = ⟨c, M ++ L, a + (prt (dig3 c) L).length, 0⟩
  | [], _, _, _, _, h, _, _, _, _, _ => by simp at h
  | s :: r, k, a, cc, M, _, hL, h50, hk, ha, hcc => by
    rw [List.all_cons, Bool.and_eq_true] at hL
    simp only [List.length_cons] at h50 hk
    obtain ⟨q1, q2, q3, q4⟩ := line_back hc hL.1 (sep_or r)
    have hno := lnA_no hc hL.1 (sep_or r)
    have hlen := lnA_len c (if r.isEmpty then 32 else 45) s.data.toList
    have hs5 := line_len' hL.1
    have hp := congrArg List.length (prt_cons c s r [])
    simp only [List.append_nil, List.length_append, List.length_cons] at hp
    rw [prt_cons]
    have hz := fun z => eol_line (z := z) hno (by omega)
    generalize hA : lnA c (if r.isEmpty then 32 else 45) s.data.toList = A at *
    have he := hz (prt (dig3 c) r ++ more)
    have hfst : fst (A ++ 10 :: (prt (dig3 c) r ++ more)) = A ++ [10] := by
      unfold fst
      rw [he, Int.toNat_natCast, show A ++ 10 :: (prt (dig3 c) r ++ more) = (A ++ [10]) ++ (prt (dig3 c) r ++ more) by simp, List.take_append_of_le_length (by simp), List.take_of_length_le (by simp)]
    have hdrop : (A ++ 10 :: (prt (dig3 c) r ++ more)).drop ((eol (A ++ 10 :: (prt (dig3 c) r ++ more))).toNat + 1) = prt (dig3 c) r ++ more := by
      rw [he, Int.toNat_natCast, show A ++ 10 :: (prt (dig3 c) r ++ more) = (A ++ [10]) ++ (prt (dig3 c) r ++ more) by simp]
      exact List.drop_left' (by simp)
    have hneg : ¬ eol (A ++ 10 :: (prt (dig3 c) r ++ more)) < 0 := by rw [he]; omega
    have hf : ¬ (lOk (fst (A ++ 10 :: (prt (dig3 c) r ++ more))) = false ∨ (0 < a ∧ lN (fst (A ++ 10 :: (prt (dig3 c) r ++ more))) ≠ cc)) := by
      rw [hfst, q1, q2]
      rintro (h | ⟨h1, h2⟩)
      · cases h
      · exact h2 (hcc h1).symm
    have hst : (⟨(lT (A ++ [10])).toArray⟩ : ByteArray) = s := by rw [q3]
    cases r with
    | nil =>
      rw [rd_last (by omega) hneg hf (by omega) (by rw [hfst, q4]; rfl), hfst, q2, hst, he, Int.toNat_natCast, hp]
      simp [prt]
    | cons u r =>
      rw [rd_more (by omega) hneg hf (by omega) (by rw [hfst, q4]; rfl), hfst, q2, hst, hdrop, he, Int.toNat_natCast,
        rd_back hc more (u :: r) (k - 1) _ _ _ (by simp) hL.2 (by simp at h50 ⊢; omega) (by simp at hk ⊢; omega) (by omega) (fun _ => rfl), hp]
      simp
      omega
theorem readP_back {c : Int} {L : List ByteArray} (h : rightOk c L = true) (more : List UInt8) : readP (prt (dig3 c) L ++ more) = ⟨c, L, (prt (dig3 c) L).length, 0⟩ := by
  obtain ⟨h1, h2, h3, h4⟩ := rightOk_parts h
  unfold readP
  have hk : L.length ≤ (prt (dig3 c) L ++ more).length + 1 := by
    have : ∀ M : List ByteArray, M.length ≤ (prt (dig3 c) M).length := by
      intro M
      induction M with
      | nil => simp
      | cons s r ih => simp only [prt, List.length_append, List.length_cons]; omega
    have := this L
    rw [List.length_append]; omega
  rw [rd_back h2 more L _ 0 0 [] h3 h1 (by simpa using h4) hk (by omega) (by omega)]
  simp
theorem rd_torn {c : Int} (hc : codeOk c = true) : ∀ (L : List ByteArray) (cut k : Nat) (a cc : Int) (M : List ByteArray), L.all lineOk = true → M.length + L.length ≤ 50 → cut < k → 0 ≤ a → (0 < a → cc = c) → cut < (prt (dig3 c) L).length →
    rd k ((prt (dig3 c) L).take cut) a cc M = bad 140
  | [], cut, _, _, _, _, _, _, _, _, _, h => by simp [prt] at h
  | s :: r, cut, k, a, cc, M, hL, h50, hk, ha, hcc, hcut => by
    rw [List.all_cons, Bool.and_eq_true] at hL
    simp only [List.length_cons] at h50
    obtain ⟨q1, q2, q3, q4⟩ := line_back hc hL.1 (sep_or r)
    have hno := lnA_no hc hL.1 (sep_or r)
    have hlen := lnA_len c (if r.isEmpty then 32 else 45) s.data.toList
    have hs5 := line_len' hL.1
    have hpc := prt_cons c s r []
    rw [List.append_nil, List.append_nil] at hpc
    rw [hpc] at hcut ⊢
    simp only [List.length_append, List.length_cons] at hcut
    have hz := fun z => eol_line (z := z) hno (by omega)
    generalize hA : lnA c (if r.isEmpty then 32 else 45) s.data.toList = A at *
    by_cases hlt : cut ≤ A.length
    · rw [List.take_append_of_le_length hlt]
      have he := eol_no (y := A.take cut) (fun b hb => hno b (List.mem_of_mem_take hb))
      rw [rd_short (by omega) he]
      unfold short
      rw [if_neg (by rw [List.length_take]; omega)]
    · have hsp : (A ++ 10 :: prt (dig3 c) r).take cut = A ++ 10 :: ((prt (dig3 c) r).take (cut - A.length - 1)) := by
        rw [List.take_append, List.take_of_length_le (by omega)]
        obtain ⟨j, hj⟩ : ∃ j, cut - A.length = j + 1 := ⟨cut - A.length - 1, by omega⟩
        rw [hj, List.take_succ_cons]
        rfl
      rw [hsp]
      have he := hz ((prt (dig3 c) r).take (cut - A.length - 1))
      generalize hz' : (prt (dig3 c) r).take (cut - A.length - 1) = Z at *
      have hfst : fst (A ++ 10 :: Z) = A ++ [10] := by
        unfold fst
        rw [he, Int.toNat_natCast, show A ++ 10 :: Z = (A ++ [10]) ++ Z by simp, List.take_append_of_le_length (by simp), List.take_of_length_le (by simp)]
      have hdrop : (A ++ 10 :: Z).drop ((eol (A ++ 10 :: Z)).toNat + 1) = Z := by
        rw [he, Int.toNat_natCast, show A ++ 10 :: Z = (A ++ [10]) ++ Z by simp]
        exact List.drop_left' (by simp)
      have hneg : ¬ eol (A ++ 10 :: Z) < 0 := by rw [he]; omega
      have hf : ¬ (lOk (fst (A ++ 10 :: Z)) = false ∨ (0 < a ∧ lN (fst (A ++ 10 :: Z)) ≠ cc)) := by
        rw [hfst, q1, q2]
        rintro (h | ⟨h1, h2⟩)
        · cases h
        · exact h2 (hcc h1).symm
      cases r with
      | nil => simp [prt] at hcut; omega
      | cons u r =>
        rw [rd_more (by omega) hneg hf (by omega) (by rw [hfst, q4]; rfl), hfst, q2, hdrop, ← hz']
        exact rd_torn hc (u :: r) _ (k - 1) _ _ _ hL.2 (by simp at h50 ⊢; omega) (by omega) (by omega) (fun _ => rfl) (by omega)
theorem readP_torn {c : Int} {L : List ByteArray} (h : rightOk c L = true) {cut : Nat} (hcut : cut < (prt (dig3 c) L).length) : (readP ((prt (dig3 c) L).take cut)).e = 140 := by
  obtain ⟨h1, h2, h3, h4⟩ := rightOk_parts h
  unfold readP
  rw [rd_torn h2 L cut _ 0 0 [] h1 (by simpa using h4) (by rw [List.length_take]; omega) (by omega) (by omega) hcut]
  rfl
theorem readP_right {l : List UInt8} (h : (readP l).e = 0) : rightOk (readP l).c (readP l).L = true ∧ 1 ≤ (readP l).n ∧ (readP l).n ≤ l.length := by
  have := rd_right (l.length + 1) l 0 0 [] (by omega) (by omega) rfl (by simp) h
  unfold readP
  refine ⟨this.1, by omega, by omega⟩
end Go.Proofs.YtjnjnccfojfghaaGreatDoor
