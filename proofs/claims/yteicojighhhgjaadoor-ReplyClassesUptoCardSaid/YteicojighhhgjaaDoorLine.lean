/-
  What a line of a reply is, in plain words; the walk of reply.line. No condition but the sizes that the form gives, and what the library's variables hold.
-/
import Derived.Test.YteicojighhhgjaaDoorPrint
import Derived.Test.YteicojighhhgjaaDoorLn
import Derived.Test.YteicojighhhgjaaDoorMore
import Derived.Lib.Strings
import Derived.Lib.ParseIntB
import Derived.Test.YteicojighhhgjaaDoorBelowQ
namespace Go.Proofs.YteicojighhhgjaaDoor
open Go.RowKit Go.Sort
set_option linter.unusedVariables false

/-- what the library's variables hold -/
structure Errs (w : World) : Prop where
  c3 : ∃ t p, w.cell? ⟨3, 0, none⟩ = some (.iface t p)
  c4 : ∃ t p, w.cell? ⟨4, 0, none⟩ = some (.iface t p)
  lt3 : 3 < w.heap.size
  lt4 : 4 < w.heap.size
theorem Errs.keep {w w' : World} (h : Errs w) (hb : Below w.heap.size w w') : Errs w' := by
  obtain ⟨⟨t, p, h3⟩, ⟨t', p', h4⟩, l3, l4⟩ := h
  exact ⟨⟨t, p, (hb.cell l3).trans h3⟩, ⟨t', p', (hb.cell l4).trans h4⟩, Nat.lt_of_lt_of_le l3 hb.size, Nat.lt_of_lt_of_le l4 hb.size⟩

/-- strconv.ParseUint(s, 10, 16), whatever s -/
theorem pu16_any (s : ByteArray) (w : World) (hs : s.size ≤ 281474976710656) (T : Errs w) :
    Calls Tryd.prog 43 #[.string s, .int .i64 10, .int .i64 16] w fun e w' => Below w.heap.size w w' ∧
      ((∃ u, Lib.parseUintB 16 s.data.toList = .ok u ∧ e = .returned (.tuple #[.int .u64 u, .nilIface])) ∨
       ((∀ u, Lib.parseUintB 16 s.data.toList ≠ .ok u) ∧ ∃ (z : Int) (t : TypeId) (p : Value), 0 ≤ z ∧ z ≤ 65535 ∧ e = .returned (.tuple #[.int .u64 z, .iface t p]))) := by
  obtain ⟨⟨t3, p3, h3⟩, ⟨t4, p4, h4⟩, -, -⟩ := T
  rcases hR : Lib.parseUintB 16 s.data.toList with u | _ | _
  · refine (Any.strconv_ParseUint_10_at16_ok Tryd.laysPu14 s (by omega) u hR w).mono ?_
    rintro e w' ⟨rfl, hw⟩
    refine ⟨?_, .inl ⟨u, rfl, rfl⟩⟩
    rcases hw with rfl | rfl
    · exact Below.refl _ _
    · exact below_bytesWorld _ _ _
  · refine (Any.strconv_ParseUint_10_at16_syntax Tryd.laysPu14 s hs hR _ w h3 (.inr ⟨_, _, rfl⟩)).mono ?_
    rintro e w' ⟨N, rfl, -, -, hb⟩
    exact ⟨hb, .inr ⟨by simp, _, _, _, Int.le_refl _, by omega, rfl⟩⟩
  · refine (Any.strconv_ParseUint_10_at16_range Tryd.laysPu14 s hs hR _ w h4 (.inr ⟨_, _, rfl⟩)).mono ?_
    rintro e w' ⟨N, rfl, -, -, hb⟩
    exact ⟨hb, .inr ⟨by simp, _, _, _, by omega, Int.le_refl _, rfl⟩⟩

theorem parse3 {m : List UInt8} (h : 3 ≤ m.length) : (digs3 m = true → Lib.parseUintB 16 (m.take 3) = .ok (code3 m).toNat) ∧ (digs3 m = false → ∀ u, Lib.parseUintB 16 (m.take 3) ≠ .ok u) := by
  match m, h with
  | a :: b :: c :: r, _ =>
    have e : (a :: b :: c :: r).take 3 = [a, b, c] := rfl
    have e0 : bt (a :: b :: c :: r) 0 = (a.toNat : Int) := rfl
    have e1 : bt (a :: b :: c :: r) 1 = (b.toNat : Int) := rfl
    have e2 : bt (a :: b :: c :: r) 2 = (c.toNat : Int) := rfl
    unfold digs3 isDig code3
    rw [e, e0, e1, e2]
    have ha := a.toNat_lt
    have hb := b.toNat_lt
    have hc := c.toNat_lt
    refine ⟨fun h => ?_, fun h u hu => ?_⟩
    · simp only [Bool.and_eq_true, decide_eq_true_eq] at h
      obtain ⟨h1, h2, h3⟩ := h
      simp only [Lib.parseUintB, Lib.parseUintM, reduceCtorEq, if_false]
      rw [if_pos (by omega), if_neg (by omega), if_neg (by omega), if_pos (by omega), if_neg (by omega), if_neg (by omega), if_pos (by omega), if_neg (by omega), if_neg (by omega)]
      congr 1
      omega
    · simp only [Lib.parseUintB, Lib.parseUintM, reduceCtorEq, if_false] at hu
      by_cases h1 : 48 ≤ a.toNat ∧ a.toNat ≤ 57
      · rw [if_pos h1, if_neg (by omega), if_neg (by omega)] at hu
        by_cases h2 : 48 ≤ b.toNat ∧ b.toNat ≤ 57
        · rw [if_pos h2, if_neg (by omega), if_neg (by omega)] at hu
          by_cases h3 : 48 ≤ c.toNat ∧ c.toNat ≤ 57
          · rw [decide_eq_true (by omega), decide_eq_true (by omega), decide_eq_true (by omega)] at h
            cases h
          · rw [if_neg h3] at hu
            cases hu
        · rw [if_neg h2] at hu
          cases hu
      · rw [if_neg h1] at hu
        cases hu
/-- what reply.line answers -/
def LineAns (l : List UInt8) (e : Ending) : Prop :=
  ∃ (n : Int) (t : ByteArray) (more : Bool), e = .returned (.tuple #[.int .i64 n, .string t, .bool more, .bool (lOk l)]) ∧ (lOk l = true → n = lN l ∧ t = ⟨(lT l).toArray⟩ ∧ more = lM l)

set_option maxHeartbeats 2000000 in
theorem line_walk (l : List UInt8) (w : World) (hl : l.length ≤ 1000000) (T : Errs w) :
    Calls Tryd.prog 31 #[.string ⟨l.toArray⟩] w fun e w' => Below w.heap.size w w' ∧ LineAns l e := by
  have hcs := Tryd.strings_CutSuffix ⟨l.toArray⟩ ⟨#[13, 10]⟩ w (by rw [size_len]; simp; omega)
  rw [show (⟨l.toArray⟩ : ByteArray).data.toList = l by simp, show (⟨#[13, 10]⟩ : ByteArray).data.toList = [13, 10] from rfl, trim_crlf, show Lib.hasSuffix l [13, 10] = crlf l from rfl] at hcs
  have HC := Lib.hid hcs; clear hcs
  cases hcr : crlf l
  · rw [hcr] at HC
    have hno : lOk l = false := by unfold lOk; rw [hcr]; rfl
    unfold LineAns
    rw [hno]
    clear hcr
    go_enter Tryd.func31, Tryd.ntmps31
    go_wp2_with fail
    refine HC.out.mono ?_
    rintro e w' ⟨rfl, rfl⟩
    go_wp2
    all_goals
      (try simp only [Exit.inBlock, Exit.then])
      refine bodyPost_ret (results_t4 rfl _ _ _) rfl ?_
      exact ⟨Below.refl _ _, _, _, _, rfl, fun h => by cases h⟩
  · rw [hcr] at HC
    have hlen := bodyL_len hcr
    simp only [if_true] at HC
    have hlo : Hid (lOk l = bodyOk (bodyL l)) := Lib.hid (by unfold lOk; rw [hcr, Bool.true_and])
    have h1 : Hid (lN l = code3 (bodyL l)) := Lib.hid rfl
    have h2 : Hid (lT l = (bodyL l).drop 4) := Lib.hid rfl
    have h3 : Hid (lM l = decide (bt (bodyL l) 3 = 45)) := Lib.hid rfl
    unfold LineAns
    rw [hlo.out, h1.out, h2.out, h3.out]
    clear h1 h2 h3 hlo hcr
    generalize bodyL l = m at *
    have hsz : (⟨m.toArray⟩ : ByteArray).size = m.length := by rw [size_len]
    by_cases hm3 : m.length < 3
    · have hno : bodyOk m = false := by unfold bodyOk; rw [decide_eq_false (show ¬ 3 ≤ m.length by omega), Bool.false_and]
      rw [hno]
      have hm4 : (m.length : Int) < 3 := by omega
      go_enter Tryd.func31, Tryd.ntmps31
      go_wp2_with fail
      refine HC.out.mono ?_
      rintro e w' ⟨rfl, rfl⟩
      go_wp2
      all_goals
        (try simp only [Exit.inBlock, Exit.then])
        refine bodyPost_ret (results_t4 rfl _ _ _) rfl ?_
        exact ⟨Below.refl _ _, _, _, _, rfl, fun h => by cases h⟩
    · have hm4 : (3 : Int) ≤ (m.length : Int) := by omega
      have hm5 : 3 ≤ m.length := by omega
      have hpu := pu16_any ((⟨m.toArray⟩ : ByteArray).extract 0 3) w (by rw [ByteArray.size_extract]; omega) T
      rw [← ByteArray.toList_eq, Lib.extract_toList, show (⟨m.toArray⟩ : ByteArray).data.toList = m by simp, List.drop_zero, Nat.sub_zero] at hpu
      obtain ⟨hp1, hp2⟩ := parse3 hm5
      cases hd : digs3 m
      · have hno : bodyOk m = false := by unfold bodyOk; rw [hd, Bool.false_and, Bool.and_false]
        rw [hno]
        replace hpu : Calls Tryd.prog 43 #[.string ((⟨m.toArray⟩ : ByteArray).extract 0 3), .int .i64 10, .int .i64 16] w fun e w' => Below w.heap.size w w' ∧ ∃ (z : Int) (t : TypeId) (p : Value), e = .returned (.tuple #[.int .u64 z, .iface t p]) := by
          refine hpu.mono ?_
          rintro e w2 ⟨hb2, ⟨u, hu, rfl⟩ | ⟨-, z, t, p, hz0, hz1, rfl⟩⟩
          · exact absurd hu (hp2 hd u)
          · exact ⟨hb2, _, _, _, rfl⟩
        have HPU := Lib.hid hpu; clear hp1 hp2 hd hno hpu
        go_enter Tryd.func31, Tryd.ntmps31
        go_wp2_with fail
        refine HC.out.mono ?_
        rintro e w' ⟨rfl, rfl⟩
        go_wp2_with fail
        refine HPU.out.mono ?_
        rintro e w2 ⟨hb2, z, t, p, rfl⟩
        go_wp2
        all_goals
          (try simp only [Exit.inBlock, Exit.then])
          refine bodyPost_ret (results_t4 rfl _ _ _) rfl ?_
          exact ⟨hb2, _, _, _, rfl, fun h => by cases h⟩
      · have hp3 := hp1 hd
        obtain ⟨hr0, hr1⟩ := code3_rng hd
        have hbo : bodyOk m = (codeOk (code3 m) && (decide (m.length = 3) || (decide (bt m 3 = 45 ∨ bt m 3 = 32) && textOk (m.drop 4)))) := by unfold bodyOk; rw [hd, decide_eq_true hm5, Bool.true_and, Bool.true_and]
        clear hp1 hp2 hd
        generalize code3 m = c at *
        replace hpu : Calls Tryd.prog 43 #[.string ((⟨m.toArray⟩ : ByteArray).extract 0 3), .int .i64 10, .int .i64 16] w fun e w' => Below w.heap.size w w' ∧ e = .returned (.tuple #[.int .u64 c, .nilIface]) := by
          refine hpu.mono ?_
          rintro e w2 ⟨hb2, ⟨u, hu, rfl⟩ | ⟨hnu, -⟩⟩
          · rw [hp3] at hu
            injection hu with hu
            subst hu
            exact ⟨hb2, by rw [Int.toNat_of_nonneg hr0]⟩
          · exact absurd hp3 (hnu _)
        have HPU := Lib.hid hpu; clear hpu hp3
        have HCW := Lib.hid (fun w2 => code_walk c w2)
        cases hco : codeOk c
        · rw [hco] at HCW hbo
          rw [Bool.false_and] at hbo
          rw [hbo]
          clear hbo hco
          go_enter Tryd.func31, Tryd.ntmps31
          go_wp2_with fail
          refine HC.out.mono ?_
          rintro e w' ⟨rfl, rfl⟩
          go_wp2_with fail
          refine HPU.out.mono ?_
          rintro e w2 ⟨hb2, rfl⟩
          go_wp2_with fail
          refine (HCW.out _).mono ?_
          rintro e w3 ⟨rfl, rfl⟩
          go_wp2
          all_goals
            (try simp only [Exit.inBlock, Exit.then])
            refine bodyPost_ret (results_t4 rfl _ _ _) rfl ?_
            exact ⟨hb2, _, _, _, rfl, fun h => by cases h⟩
        · rw [hco] at HCW hbo
          rw [Bool.true_and] at hbo
          clear hco
          by_cases h33 : m.length = 3
          · have h34 : (m.length : Int) = 3 := by omega
            rw [decide_eq_true h33, Bool.true_or] at hbo
            have H33 := Lib.hid h33; clear h33
            rw [hbo]
            clear hbo
            go_enter Tryd.func31, Tryd.ntmps31
            go_wp2_with fail
            refine HC.out.mono ?_
            rintro e w' ⟨rfl, rfl⟩
            go_wp2_with fail
            refine HPU.out.mono ?_
            rintro e w2 ⟨hb2, rfl⟩
            go_wp2_with fail
            refine (HCW.out _).mono ?_
            rintro e w3 ⟨rfl, rfl⟩
            go_wp2
            all_goals
              (try simp only [Exit.inBlock, Exit.then])
              refine bodyPost_ret (results_t4 rfl _ _ _) rfl ?_
              refine ⟨hb2, _, _, _, rfl, fun _ => ⟨rfl, ?_, ?_⟩⟩
            · rw [List.drop_eq_nil_of_le (by have := H33.out; omega)]
            · symm
              rw [decide_eq_false_iff_not]
              unfold bt
              rw [List.getD_eq_getElem?_getD, List.getElem?_eq_none (by have := H33.out; omega)]
              decide
          · have h34 : ((m.length : Int) == 3) = false := beq_eq_false_iff_ne.2 (by omega)
            rw [decide_eq_false h33, Bool.false_or] at hbo
            have hm6 : (4 : Int) ≤ (m.length : Int) := by omega
            have hm7 : 4 ≤ m.length := by omega
            clear h33
            have hx : ((⟨m.toArray⟩ : ByteArray)[3]'(by rw [hsz]; omega)).toNat = bt m 3 := get_list ⟨m.toArray⟩ 3 (by rw [hsz]; omega)
            have hx0 := bt_lo m 3
            have hx1 := bt_hi m 3
            have htx : (⟨m.toArray⟩ : ByteArray).extract 4 m.length = ⟨(m.drop 4).toArray⟩ := by
              apply WideShapes.bytes_inj
              rw [← ByteArray.toList_eq, Lib.extract_toList]
              simp
              rw [List.take_of_length_le (by simp)]
            have HTX := Lib.hid htx; clear htx
            have HTW := Lib.hid (fun w2 => text_walk ⟨(m.drop 4).toArray⟩ w2 (by rw [size_len]; simp [maxLen]; omega))
            generalize bt m 3 = x at *
            by_cases hx45 : x = 45
            · rw [decide_eq_true (show x = 45 ∨ x = 32 by omega), Bool.true_and] at hbo
              subst hx45
              rw [hbo]
              clear hbo
              go_enter Tryd.func31, Tryd.ntmps31
              go_wp2_with fail
              refine HC.out.mono ?_
              rintro e w' ⟨rfl, rfl⟩
              go_wp2_with fail
              refine HPU.out.mono ?_
              rintro e w2 ⟨hb2, rfl⟩
              go_wp2_with fail
              refine (HCW.out _).mono ?_
              rintro e w3 ⟨rfl, rfl⟩
              go_wp2
              refine wp_region_below w2.heap.size (by kernel_rfl) (by kernel_rfl) ?_
              repeat (go_big_quiet_step ((go_at_call 21; rw [HTX.out]; exact calls_over _ (HTW.out _) (Nat.le_refl _))))
              refine wpQuiet_nil ?_
              rintro _ ⟨⟨w4, hb4⟩, rfl⟩
              go_wp2
              refine bodyPost_ret (results_t4 rfl _ _ _) rfl ?_
              exact ⟨hb2.trans (hb4.mono hb2.size), _, _, _, rfl, fun _ => ⟨rfl, HTX.out, rfl⟩⟩
            · have h4f : (x == 45) = false := by simpa using hx45
              have h4n : (x != 45) = true := by simpa using hx45
              by_cases hx32 : x = 32
              · rw [decide_eq_true (show x = 45 ∨ x = 32 by omega), Bool.true_and] at hbo
                rw [hbo]
                have HX := Lib.hid hx45
                subst hx32
                clear hbo hx45
                go_enter Tryd.func31, Tryd.ntmps31
                go_wp2_with fail
                refine HC.out.mono ?_
                rintro e w' ⟨rfl, rfl⟩
                go_wp2_with fail
                refine HPU.out.mono ?_
                rintro e w2 ⟨hb2, rfl⟩
                go_wp2_with fail
                refine (HCW.out _).mono ?_
                rintro e w3 ⟨rfl, rfl⟩
                go_wp2
                refine wp_region_below w2.heap.size (by kernel_rfl) (by kernel_rfl) ?_
                repeat (go_big_quiet_step ((go_at_call 21; rw [HTX.out]; exact calls_over _ (HTW.out _) (Nat.le_refl _))))
                refine wpQuiet_nil ?_
                rintro _ ⟨⟨w4, hb4⟩, rfl⟩
                go_wp2
                refine bodyPost_ret (results_t4 rfl _ _ _) rfl ?_
                refine ⟨hb2.trans (hb4.mono hb2.size), _, _, _, rfl, fun _ => ⟨rfl, HTX.out, rfl⟩⟩

              · rw [decide_eq_false (show ¬ (x = 45 ∨ x = 32) by omega), Bool.false_and] at hbo
                rw [hbo]
                have h3f : (x == 32) = false := by simpa using hx32
                clear hbo hx45 hx32
                go_enter Tryd.func31, Tryd.ntmps31
                go_wp2_with fail
                refine HC.out.mono ?_
                rintro e w' ⟨rfl, rfl⟩
                go_wp2_with fail
                refine HPU.out.mono ?_
                rintro e w2 ⟨hb2, rfl⟩
                go_wp2_with fail
                refine (HCW.out _).mono ?_
                rintro e w3 ⟨rfl, rfl⟩
                go_wp2
                refine wp_region_below w2.heap.size (by kernel_rfl) (by kernel_rfl) ?_
                repeat (go_big_quiet_step (fail))
                refine wpQuiet_nil ?_
                rintro _ ⟨⟨w4, hb4⟩, rfl⟩
                go_wp2
                refine bodyPost_ret (results_t4 rfl _ _ _) rfl ?_
                refine ⟨hb2.trans (hb4.mono hb2.size), _, _, _, rfl, fun h => by cases h⟩
end Go.Proofs.YteicojighhhgjaaDoor
