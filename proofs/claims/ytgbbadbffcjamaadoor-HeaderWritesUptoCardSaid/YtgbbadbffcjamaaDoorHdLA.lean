/-
  The walk of HeaderAdds. It asks that MaxLen is a number, and the sizes.
-/
import Derived.Test.YtgbbadbffcjamaaDoorHdAdd
import Derived.Test.YtgbbadbffcjamaaDoorHdLW
import Derived.BigQuiet
import Derived.Deep.QuietTactic
import Derived.IntWalk
namespace Go.Proofs.YtgbbadbffcjamaaDoor
open Go.RowKit Go.Sort
set_option linter.unusedVariables false
theorem slice_low (A : Option Addr) (n c j : Nat) (h1 : j ≤ n) (W : World) : (Instr.slice 22 (.slice A n c) (some (.int .i64 (j : Int))) none none).run Tryd.prog W = .ok (.slice (subA A c j) (n - j) (c - j)) W := by
  have ht' : Tryd.prog.underlying 22 = some (.slice (Tryd.prog.elem 22)) := by simp [Program.elem, Tryd.underlying22]
  have he : Tryd.prog.elem 22 = 5 := by simp [Program.elem, Tryd.underlying22]
  rw [run_slice_l W 22 _ _ _ ht' .i64 _ (by omega) (by omega), he, Tryd.sizeOf5]
  simp only [Result.andThen, sliced, Int.toNat_natCast, Nat.mul_one]
  rfl
theorem add11_cases (D nm bd : List UInt8) : (∃ er, er ≠ 0 ∧ add11 D nm bd = ([], er)) ∨ (nameB nm = true ∧ bd.any badC = false ∧ add11 D nm bd = (txt11 nm bd ++ D, 0)) := by
  unfold add11 wr11
  by_cases h1 : bd.any badC = true
  · rw [if_pos h1]; exact .inl ⟨110, by decide, rfl⟩
  rw [if_neg h1]
  by_cases h2 : nameB nm = false
  · rw [if_pos h2]; exact .inl ⟨110, by decide, rfl⟩
  rw [if_neg h2]
  by_cases h3 : longL (txt11 nm bd) = true
  · rw [if_pos h3]; exact .inl ⟨111, by decide, rfl⟩
  rw [if_neg h3]
  exact .inr ⟨by simpa using h2, by simpa using h1, rfl⟩
theorem split11_two (D : List UInt8) : (∃ L b, split11 D = (L, b, 0) ∧ splP D = (L, b)) ∨ split11 D = ([], 0, 111) ∨ split11 D = ([], 0, 112) := by
  obtain ⟨t, ht⟩ : ∃ t, split11 D = if 65536 < t then ([], 0, 111) else if 1000 < (splP D).1.length then ([], 0, 112) else ((splP D).1, (splP D).2, 0) := ⟨_, rfl⟩
  rw [ht]
  by_cases h1 : 65536 < t
  · rw [if_pos h1]; exact .inr (.inl rfl)
  · rw [if_neg h1]
    by_cases h2 : 1000 < (splP D).1.length
    · rw [if_pos h2]; exact .inr (.inr rfl)
    · rw [if_neg h2]; exact .inl ⟨_, _, rfl, rfl⟩
theorem mk_str (s : ByteArray) : (⟨s.data.toList.toArray⟩ : ByteArray) = s := by simp
theorem splP_end {D : List UInt8} {L : List Fd} {b : Nat} (h : splP D = (L, b)) : b ≤ D.length := by
  obtain ⟨e, h1, -, h3 | h3⟩ := splP_chain h
  · omega
  · omega
theorem txt11_len (nm bd : List UInt8) : (txt11 nm bd).length ≤ nm.length + 4 * bd.length + 4 := by
  have h := fold11_len bd ((nm.length : Int) + 2)
  unfold txt11; simp; omega
theorem blH_bt {l : List UInt8} (h : blH l = true) : 0 < l.length ∧ (bt l 0 = 32 ∨ bt l 0 = 9) := by
  cases l with
  | nil => cases h
  | cons c r =>
    have h1 : c.toNat = 32 ∨ c.toNat = 9 := by simpa [blH, blC] using h
    have h2 : bt (c :: r) 0 = (c.toNat : Int) := rfl
    exact ⟨by simp, by omega⟩
theorem blH_nbt {l : List UInt8} (h : blH l = false) : l = [] ∨ (0 < l.length ∧ bt l 0 ≠ 32 ∧ bt l 0 ≠ 9) := by
  cases l with
  | nil => exact .inl rfl
  | cons c r =>
    have h1 : ¬ (c.toNat = 32 ∨ c.toNat = 9) := by simpa [blH, blC] using h
    have h2 : bt (c :: r) 0 = (c.toNat : Int) := rfl
    exact .inr ⟨by simp, by omega, by omega⟩
theorem chainF_mem {N e : Nat} : ∀ {L : List Fd} {a : Nat} {g : Fd}, chainF N a e L → g ∈ L → g.fr ≤ N ∧ g.tt ≤ N
  | [], a, g, _, h => by cases h
  | x :: L, a, g, h, hm => by
    obtain ⟨h1, h2, h3, h4⟩ := h
    rcases List.mem_cons.1 hm with rfl | hm
    · omega
    · exact chainF_mem h4 hm
theorem splP_mem {D : List UInt8} {L : List Fd} {b : Nat} (h : splP D = (L, b)) {g : Fd} (hg : g ∈ L) : g.fr ≤ D.length ∧ g.tt ≤ D.length := by
  obtain ⟨e, -, h2, -⟩ := splP_chain h
  exact chainF_mem h2 hg
theorem RB.zero {w : World} {B : Nat} {A : Option Addr} {l : List UInt8} (h : RB w B A l) (hl : 0 < l.length) : ∃ b off, A = some ⟨b, off, none⟩ ∧ w.cell? ⟨b, off, none⟩ = some (.int .u8 (bt l 0)) := by
  obtain ⟨b, off, rfl, -, hc⟩ := h.at_ hl
  exact ⟨b, off, rfl, by have h := hc 0 hl; rwa [Nat.add_zero] at h⟩
set_option maxRecDepth 1000000 in
set_option maxHeartbeats 4000000 in
theorem adds_walk (w : World) (hM : Mx w) (A : Option Addr) (l : List UInt8) (n c : Nat) (hn : n = l.length) (hr : RB w w.heap.size A l) (hc : n ≤ c) (hm : c ≤ 9223372036854775807) (hl : n ≤ 1048576) (s b : ByteArray) (hs : s.size ≤ 1048576) (hb : b.size ≤ 1048576) :
    Calls Tryd.prog 6 #[.slice A n c, .string s, .string b] w fun e w' => Below w.heap.size w w' ∧ e = .returned (.bool true) := by
  have HM := Lib.hid hM
  have HR := Lib.hid hr
  have HN := Lib.hid hn
  have KS := Lib.hid (shown_walk w hM)
  clear hr hn hM
  go_enter Tryd.func6, Tryd.ntmps6
  go_wp2_with fail
  with_reducible refine KS.out.mono ?_
  rintro e1 w1 ⟨hb1, rfl⟩
  have HB1 := Lib.hid hb1
  have KP := Lib.hid (split_walk w1 (HM.out.below hb1) A l n c HN.out ((HR.out.below hb1).mono hb1.size) hc hm (by omega))
  clear hb1 KS
  obtain ⟨L, B, er, hE⟩ : ∃ L B er, split11 l = (L, B, er) := ⟨_, _, _, rfl⟩
  have HE := Lib.hid hE
  clear hE
  go_wp2_with fail
  with_reducible refine KP.out.mono ?_
  rintro e2 w2 hp
  obtain ⟨hb2, A2, c2, rfl, hR2, hc2, hm2⟩ := hp.get HE.out
  have HB2 := Lib.hid (HB1.out.trans (hb2.mono HB1.out.size))
  have HR2 := Lib.hid hR2
  obtain ⟨no, hno⟩ : ∃ no, no = L.length := ⟨_, rfl⟩
  rw [← hno] at hc2 ⊢
  have HNO := Lib.hid hno
  have KA := Lib.hid (add_walk w2 (HM.out.below HB2.out) A l n c s b HN.out ((HR.out.below HB2.out).mono HB2.out.size) (by omega) (by omega) (by omega))
  have HSZ := Lib.hid (Lib.size_eq s)
  have HSB := Lib.hid (Lib.size_eq b)
  have HSS := Lib.hid (mk_str s)
  have KW := Lib.hid (fun w => lwords_walk b w (by omega))
  obtain ⟨nm, hnm⟩ : ∃ nm, nm = s.data.toList := ⟨_, rfl⟩
  obtain ⟨bd, hbd⟩ : ∃ bd, bd = b.data.toList := ⟨_, rfl⟩
  rw [← hnm] at HSZ HSS KA
  rw [← hbd] at HSB KW KA
  unfold maxLen at hm2
  clear hp hb2 hR2 KP hno HB1 hnm hbd
  unfold AddPost at KA
  obtain ⟨C, er2, hF⟩ : ∃ C er2, add11 l nm bd = (C, er2) := ⟨_, _, rfl⟩
  have HF := Lib.hid hF
  rw [hF] at KA
  clear hF
  simp only [] at KA
  go_wp2_with fail
  with_reducible refine KA.out.mono ?_
  rintro e3 w3 ⟨hb3, A3, c3, rfl, hV3⟩
  have HB3 := Lib.hid (HB2.out.trans (hb3.mono HB2.out.size))
  have HR3 := Lib.hid ((HR2.out.below hb3).mono hb3.size)
  have HV3 := Lib.hid hV3.sl
  obtain ⟨cn, hcn⟩ : ∃ cn, cn = C.length := ⟨_, rfl⟩
  have HCN := Lib.hid hcn
  rw [← hcn] at HV3 ⊢
  clear hb3 hV3 KA HR2 hcn
  by_cases he1 : er = 0
  · subst he1
    have q1 : ((0 : Int) != 0) = false := by decide
    by_cases he2 : er2 = 0
    · subst he2
      obtain ⟨hnB, hbB, rfl⟩ : nameB nm = true ∧ bd.any badC = false ∧ txt11 nm bd ++ l = C := by
        rcases add11_cases l nm bd with ⟨er, h1, h2⟩ | ⟨h1, h2, h3⟩
        · rw [HF.out] at h2; injection h2 with h2 h3; exact absurd h3.symm h1
        · rw [HF.out] at h3; injection h3 with h3 h4; exact ⟨h1, h2, h3.symm⟩
      have hSp : splP l = (L, B) := by
        rcases split11_two l with ⟨L1, b1, h1, h2⟩ | h1 | h1
        · rw [HE.out] at h1; injection h1 with h1 h3; injection h3 with h3 h4; subst h1; subst h3; exact h2
        · rw [HE.out] at h1; simp at h1
        · rw [HE.out] at h1; simp at h1
      have hcn : cn = (txt11 nm bd).length + n := by rw [HCN.out, List.length_append, ← HN.out]
      have htl := txt11_len nm bd
      obtain ⟨hv1, hv2, hv3, hv4⟩ := HV3.out
      have hcs : cn ≤ 7000000 := by have := HSZ.out; have := HSB.out; omega
      unfold maxLen at hv3
      have KQ := Lib.hid (split_walk w3 (HM.out.below HB3.out) A3 (txt11 nm bd ++ l) cn c3 HCN.out hv4 hv2 hv3 hcs)
      have HNB := Lib.hid hnB
      have HBB := Lib.hid hbB
      have HSP := Lib.hid hSp
      have HR4 := Lib.hid hv4
      have HTL := Lib.hid htl
      have HC := Lib.hid hcn
      clear hnB hbB hSp hv1 hv4 hcn HE HF HV3 htl
      go_wp2_with fail
      with_reducible refine KQ.out.mono ?_
      rintro e4 w4 hp4
      rcases split11_two (txt11 nm bd ++ l) with ⟨L4, B4, hE4, hS4⟩ | hE4 | hE4
      · obtain ⟨hb4, A4, c4, rfl, hR4, hc4, hm4⟩ := hp4.get hE4
        have HB4 := Lib.hid (HB3.out.trans (hb4.mono HB3.out.size))
        have HC4 := Lib.hid ((HR4.out.below hb4).mono hb4.size)
        have HL4 := Lib.hid ((HR.out.below HB4.out).mono HB4.out.size)
        have HF2 := Lib.hid ((HR3.out.below hb4).mono hb4.size)
        obtain ⟨ko, hko⟩ : ∃ ko, ko = L4.length := ⟨_, rfl⟩
        rw [← hko] at hc4 ⊢
        unfold maxLen at hm4
        by_cases hbl : blH l = true
        · have hk0 : (0 : Int) < (ko : Int) := by
            have h := put_some (D := l) HNB.out HBB.out
            rw [hS4] at h
            have := List.length_pos_iff.2 h
            simp only [] at this
            omega
          obtain ⟨hl0, hbt⟩ := blH_bt hbl
          have hn0 : (0 : Int) < (n : Int) := by rw [HN.out]; omega
          obtain ⟨ba, fa, rfl, hca⟩ := HL4.out.zero hl0
          clear hp4 hE4 hb4 KQ hko hR4 hS4 hbl hl0
          have q0 : ((0 : Int) != 0) = false := by decide
          rcases hbt with hbt | hbt
          all_goals (rw [hbt] at hca; clear hbt)
          · have q5 : ((32 : Int) == 32) = true := by decide
            go_wp2
            go_ret
            exact ⟨HB4.out, congrArg (fun x => Ending.returned (.bool x)) (decide_eq_true (by omega))⟩
          · have q5 : ((9 : Int) == 32) = false := by decide
            have q6 : ((9 : Int) == 9) = true := by decide
            go_wp2
            go_ret
            exact ⟨HB4.out, congrArg (fun x => Ending.returned (.bool x)) (decide_eq_true (by omega))⟩
        · have hPF := put_fields HNB.out HBB.out (by simpa using hbl) HSP.out
          rw [hS4] at hPF
          injection hPF with hL4 hB4'
          subst hL4
          obtain ⟨q, hq⟩ : ∃ q, q = (txt11 nm bd).length := ⟨_, rfl⟩
          have hko2 : ko = no + 1 := by rw [hko, HNO.out]; simp
          have hBn : B ≤ n := by rw [HN.out]; exact splP_end HSP.out
          have hcn : cn = q + n := by rw [hq]; exact HC.out
          obtain ⟨m, hm8, hm9⟩ : ∃ m, m = B4 ∧ m = B + q := ⟨B4, rfl, by rw [hB4', hq]⟩
          subst hm8
          clear hB4'
          obtain ⟨X, hX⟩ : ∃ X, X = l.drop B := ⟨_, rfl⟩
          have hX2 : (txt11 nm bd ++ l).drop m = X := by rw [hX, hm9, hq, Nat.add_comm]; exact drop_sh _ _ _
          have hv1 : (txt11 nm bd ++ l).length = cn := HCN.out.symm
          have hcv1 : ∀ k, (convert 22 9 (.slice (subA A3 c3 m) (cn - m) (c3 - m))).run Tryd.prog (w4.drewN k) = .ok (.string ⟨X.toArray⟩) (w4.drewN k) := fun k => by
            have h := (HC4.out.subA c3 m (by rw [hv1]; exact hv2)).drewN k
            rw [hX2] at h
            exact conv_rb h _ _ (by rw [← hX2, List.length_drop, hv1])
          have hcv2 : ∀ k, (convert 22 9 (.slice (subA A c B) (n - B) (c - B))).run Tryd.prog (w4.drewN k) = .ok (.string ⟨X.toArray⟩) (w4.drewN k) := fun k => by
            have h := (HL4.out.subA c B (by rw [← HN.out]; exact hc)).drewN k
            rw [← hX] at h
            exact conv_rb h _ _ (by rw [hX, List.length_drop, ← HN.out])
          have hsl1 := fun W => slice_low A3 cn c3 m (by omega) W
          have hsl2 := fun W => slice_low A n c B hBn W
          generalize (⟨X.toArray⟩ : ByteArray) = XB at *
          generalize subA A3 c3 m = AA1 at *
          generalize cn - m = nn1 at *
          generalize c3 - m = cc1 at *
          generalize subA A c B = AA2 at *
          generalize n - B = nn2 at *
          generalize c - B = cc2 at *
          obtain ⟨bo, hbo⟩ : ∃ bo, bo = 32 :: fold11 bd ((nm.length : Int) + 2) := ⟨_, rfl⟩
          have hbol : bo.length ≤ 7000000 := by
            have := fold11_len bd ((nm.length : Int) + 2)
            have := HSB.out
            rw [hbo, List.length_cons]; omega
          have hbw : unfold11 bo = joinSp (wordsL bd) := by rw [hbo]; exact body_words HBB.out _
          rw [← hbo, ← hq] at hR4
          have KU : Hid (∀ w, Mx w → Calls Tryd.prog 19 #[.string ⟨bo.toArray⟩] w fun e w' => Below w.heap.size w w' ∧ e = .returned (.string ⟨(joinSp (wordsL bd)).toArray⟩)) := Lib.hid fun w hM => by
            have h := unfold_walk ⟨bo.toArray⟩ w hM (by rw [sv_size]; exact hbol)
            rw [← hbw]
            exact h
          rcases hR4 with h | ⟨b4, f4, rfl, hlt4, hall⟩
          · cases h
          obtain ⟨a0, a1, a2, a3⟩ := rangeAt_cells (hall 0 _ rfl)
          unfold sv at a0 a1
          rw [HSS.out] at a0
          simp only [Nat.zero_mul, Nat.add_zero] at a0 a1 a2 a3
          have HALL : Hid (∀ j g, L[j]? = some g → w4.rangeAt b4 (f4 + (j + 1) * 4) (fdc (g.sh q))) := Lib.hid fun j g hg => hall (j + 1) _ (by simp [hg])
          have HLT4 := Lib.hid hlt4
          have HX1 := Lib.hid hX
          generalize (⟨bo.toArray⟩ : ByteArray) = boB at *
          generalize (⟨(joinSp (wordsL bd)).toArray⟩ : ByteArray) = J at *
          have HMM := Lib.hid hm9
          have HCC := Lib.hid hcn
          have HQQ := Lib.hid hq
          have hmo : (cn : Int) - (n : Int) = (q : Int) := by omega
          have hn0 : Hid (¬ (0 : Int) < (n : Int) ∨ ∃ b f, A = some ⟨b, f, none⟩ ∧ w4.cell? ⟨b, f, none⟩ = some (.int .u8 (bt l 0)) ∧ bt l 0 ≠ 32 ∧ bt l 0 ≠ 9 ∧ (0 : Int) < (n : Int)) := Lib.hid (by
            rcases blH_nbt (l := l) (by simpa using hbl) with h | ⟨h1, h2, h3⟩
            · left; rw [HN.out, h]; simp
            · obtain ⟨ba, fa, h4, h5⟩ := HL4.out.zero h1
              exact .inr ⟨ba, fa, h4, h5, h2, h3, by rw [HN.out]; omega⟩)
          generalize bt l 0 = ch at *
          have t1 : ((ko : Int) != (no : Int) + 1) = false := by rw [bne_eq_false_iff_eq]; omega
          have t2 : ((m : Int) != (B : Int) + (q : Int)) = false := by rw [bne_eq_false_iff_eq]; omega
          have t4 : ((0 : Int) != 0) = false := by decide
          have t5 : ((q : Int) != (q : Int)) = false := by simp
          have u1 : IntKind.i64.wrap ((no : Int) + 1) = (no : Int) + 1 := IntWalk.i64_in _ (by omega)
          have u2 : IntKind.i64.wrap ((B : Int) + (q : Int)) = (B : Int) + (q : Int) := IntWalk.i64_in _ (by omega)
          have HM4 : Hid (∀ k, Mx (w4.drewN k)) := Lib.hid fun k => show Mx w4 from HM.out.below HB4.out
          have hk0 : (0 : Int) < (ko : Int) := by omega
          have hqb : q ≤ 7000000 := by omega
          have HKO := Lib.hid hko2
          clear hm9 hq hcn hX hX2 hv1 hbo hbol hbw hall hlt4 hko hko2 hp4 hE4 hb4 KQ hbl hS4
          rcases hn0.out with hn0 | ⟨ba, fa, rfl, hca, hch1, hch2, hn1⟩
          rotate_left
          have k5 : (ch == 32) = false := by rw [beq_eq_false_iff_ne]; exact hch1
          have k6 : (ch == 9) = false := by rw [beq_eq_false_iff_ne]; exact hch2
          clear hch1 hch2 hn0
          go_upto_region 12 with (fail)
          rotate_left
          go_upto_region 12 with (fail)
          all_goals
            go_quiet (fail)
            go_wp2_with fail
            with_reducible refine (KU.out _ (HM4.out _)).mono ?_; rintro e5 w5 ⟨hb5, rfl⟩
            go_wp2_with fail
            with_reducible refine (KW.out _).mono ?_; rintro e6 w6 ⟨hb6, rfl⟩
            have hb56 := (bdrewN (Below.refl w4.heap.size w4) _).trans hb5; have HB6 := Lib.hid (hb56.trans (hb6.mono hb56.size)); clear hb56 hb5 hb6 KU KW HM4
            go_wp2_with fail
            go_loopg [18] no (fun k s18 wr => ∃ j : Nat, j + k = no ∧ s18 = .int .i64 (j : Int) ∧ Hid (Below w4.heap.size w4 wr))
            case atStart => exact ⟨0, by omega, rfl, HB6⟩
            case round =>
              obtain ⟨j, hj, rfl, HBr⟩ := hrel
              clear hcv1 hcv2 hsl1 hsl2 HB6 a0 a1 a2 a3
              by_cases hlt : j < no
              · have hj1 : (j : Int) < (no : Int) := by omega
                have hj2 : (j : Int) + 1 < (ko : Int) := by have := HKO.out; omega
                obtain ⟨g, hg⟩ : ∃ g, L[j]? = some g := ⟨_, List.getElem?_eq_getElem (by rw [← HNO.out]; exact hlt)⟩
                obtain ⟨b2, f2, hA2, hb2, r2⟩ := (HF2.out.below HBr.out).at_ hg
                have r4 : wr.rangeAt b4 (f4 + (j + 1) * 4) (fdc (g.sh q)) := fun jj v hv => by rw [HBr.out.cell (show b4 < _ from HLT4.out)]; exact HALL.out j g hg jj v hv
                obtain ⟨e0, e1, e2, e3⟩ := rangeAt_cells r4
                obtain ⟨d0, d1, d2, d3⟩ := rangeAt_cells r2
                obtain ⟨hfr, htt⟩ := splP_mem HSP.out (List.mem_of_getElem? hg)
                rw [← HN.out] at hfr htt
                subst hA2
                unfold sv Fd.sh at e0 e1
                unfold sv at d0 d1
                simp only [Fd.sh] at e2 e3
                obtain ⟨x1, hx1⟩ : ∃ x, x = g.fr + q := ⟨_, rfl⟩
                obtain ⟨x2, hx2⟩ : ∃ x, x = g.tt + q := ⟨_, rfl⟩
                rw [← hx1] at e2
                rw [← hx2] at e3
                generalize (⟨g.nm.toArray⟩ : ByteArray) = sN at *
                generalize (⟨g.bd.toArray⟩ : ByteArray) = sB at *
                have v1 : IntKind.i64.wrap ((g.fr : Int) + (q : Int)) = (g.fr : Int) + (q : Int) := IntWalk.i64_in _ (by omega)
                have v2 : IntKind.i64.wrap ((g.tt : Int) + (q : Int)) = (g.tt : Int) + (q : Int) := IntWalk.i64_in _ (by omega)
                have v3 : ((x1 : Int) != (g.fr : Int) + (q : Int)) = false := by rw [bne_eq_false_iff_eq]; omega
                have v4 : ((x2 : Int) != (g.tt : Int) + (q : Int)) = false := by rw [bne_eq_false_iff_eq]; omega
                clear hg r2 r4 hx1 hx2
                generalize g.fr = fr at *
                generalize g.tt = tt at *
                have hbo := (Below.refl wr.heap.size wr).alloc (Nat.le_refl _) (.cells #[.string sN, .string sB, .int .i64 (x1 : Int), .int .i64 (x2 : Int)] 29)
                have hb2 := Nat.lt_of_lt_of_le hb2 HBr.out.size
                have HBO := Lib.hid (HBr.out.trans (hbo.mono HBr.out.size))
                have HK := Blk.new wr 29 #[.string sN, .string sB, .int .i64 (x1 : Int), .int .i64 (x2 : Int)]
                have z0 : (wr.alloc (.cells #[.string sN, .string sB, .int .i64 (x1 : Int), .int .i64 (x2 : Int)] 29)).cell? ⟨wr.heap.size, 0, none⟩ = some (.string sN) := HK.cell 0
                have z1 : (wr.alloc (.cells #[.string sN, .string sB, .int .i64 (x1 : Int), .int .i64 (x2 : Int)] 29)).cell? ⟨wr.heap.size, 1, none⟩ = some (.string sB) := HK.cell 1
                have z2 : (wr.alloc (.cells #[.string sN, .string sB, .int .i64 (x1 : Int), .int .i64 (x2 : Int)] 29)).cell? ⟨wr.heap.size, 2, none⟩ = some (.int .i64 (x1 : Int)) := HK.cell 2
                have z3 : (wr.alloc (.cells #[.string sN, .string sB, .int .i64 (x1 : Int), .int .i64 (x2 : Int)] 29)).cell? ⟨wr.heap.size, 3, none⟩ = some (.int .i64 (x2 : Int)) := HK.cell 3
                have y0 := (hbo.cell (p := ⟨b2, f2 + j * 4, none⟩) hb2).trans d0
                have y1 := (hbo.cell (p := ⟨b2, f2 + j * 4 + 1, none⟩) hb2).trans d1
                have y2 := (hbo.cell (p := ⟨b2, f2 + j * 4 + 2, none⟩) hb2).trans d2
                have y3 := (hbo.cell (p := ⟨b2, f2 + j * 4 + 3, none⟩) hb2).trans d3
                clear hbo HK d0 d1 d2 d3 hb2
                go_upto_region 21 with (fail)
                go_quiet (fail)
                go_wp2
                go_roundg (gk - 1)
                case rel => exact ⟨j + 1, by omega, by go_num, Lib.hid (bdrewN HBO.out _)⟩
                case measure => omega
              · have hj1 : ¬ (j : Int) < (no : Int) := by omega
                go_wp2
                go_ret
                exact ⟨HB4.out.trans (HBr.out.mono HB4.out.size), rfl⟩
      · obtain ⟨hb4, A4, c4, rfl, -, -, -⟩ := hp4.get hE4
        have HB4 := Lib.hid (HB3.out.trans (hb4.mono HB3.out.size))
        have q2 : ((111 : Int) != 0) = true := by decide
        have q3 : ((111 : Int) == 111) = true := by decide
        clear hp4 hE4 hb4 KQ
        go_wp2
        go_ret
        exact ⟨HB4.out, rfl⟩
      · obtain ⟨hb4, A4, c4, rfl, -, -, -⟩ := hp4.get hE4
        have HB4 := Lib.hid (HB3.out.trans (hb4.mono HB3.out.size))
        have q2 : ((112 : Int) != 0) = true := by decide
        have q3 : ((112 : Int) == 111) = false := by decide
        have q4 : ((112 : Int) == 112) = true := by decide
        clear hp4 hE4 hb4 KQ
        go_wp2
        go_ret
        exact ⟨HB4.out, rfl⟩
    · have q2 : (er2 != 0) = true := by rw [bne_iff_ne]; exact he2
      clear he2 HE HF
      go_wp2
      go_ret
      exact ⟨HB3.out, rfl⟩
  · have q1 : (er != 0) = true := by rw [bne_iff_ne]; exact he1
    clear he1 HE HF
    go_wp2
    go_ret
    exact ⟨HB3.out, rfl⟩
end Go.Proofs.YtgbbadbffcjamaaDoor
