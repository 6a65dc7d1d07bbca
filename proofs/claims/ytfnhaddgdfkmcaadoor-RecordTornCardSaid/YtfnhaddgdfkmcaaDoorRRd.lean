/-
  The walks of waybillref03's reader: took, fixed, number, text. No condition but what the reader holds.
-/
import Derived.Test.YtfnhaddgdfkmcaaDoorRdF
namespace Go.Proofs.YtfnhaddgdfkmcaaDoor
open Go.RowKit Go.Sort
set_option linter.unusedVariables false

theorem res0 {fn : Func} (h : fn.results = #[]) (tm : Array Value) (P : Program) (W : World) : (results fn tm).run P W = .ok (.tuple #[]) W := by simp [results, h]
theorem took_walk (g B : Nat) (n x : Int) (st : St) (w : World) (h : RdAt w g 58 B st) (hn : ∀ l, st = .ok l → x = 0 → 0 ≤ n ∧ n ≤ l.length) (h20 : x = 20 → x ≠ 0) :
    Calls Tryd.prog 37 #[.pointer (some ⟨g, 0, none⟩), .int .i64 n, .int .i64 x] w fun e w' => Only g w w' ∧ RdAt w' g 58 B (wentS n x st) ∧ e = .returned (.tuple #[]) := by
  obtain ⟨A, c, l, e, hr, rfl⟩ := h
  have k0 := hr.c0
  have k1 := hr.c1
  have f0 := hr.blk.frozen 0
  have f1 := hr.blk.frozen 1
  have HR := Lib.hid hr
  clear hr
  by_cases he : e = 0
  · subst he
    rw [stOf_ok] at hn ⊢
    refine on_ne x 20 (fun X1 X2 => ?_) (fun X1 X2 => ?_) <;> obtain ⟨X3, X5⟩ := X2.out <;> clear X2
    · have HW : Hid (wentS n x (.ok l) = .bad 32) := Lib.hid (wentS_20 _ _ X1.out)
      rw [HW.out]
      clear hn h20
      go_enter Tryd.func37, Tryd.ntmps37
      go_wp2
      go_end0
      refine ⟨(Only.refl w).set_ 1 _, ?_, rfl⟩
      have := (HR.out.setE 32).at_
      rwa [stOf_bad _ (by decide)] at this
    · refine on_ne x 0 (fun Y1 Y2 => ?_) (fun Y1 Y2 => ?_) <;> obtain ⟨Y3, Y5⟩ := Y2.out <;> clear Y2
      · have HW : Hid (wentS n x (.ok l) = .ok (l.drop n.toNat)) := Lib.hid (wentS_0 _ _ Y1.out)
        obtain ⟨hn0, hn1⟩ := hn l rfl Y1.out
        rw [HW.out]
        obtain ⟨m, rfl⟩ := Int.eq_ofNat_of_zero_le hn0
        rw [Int.toNat_natCast]
        have hcap := HR.out.cap
        have hmax := HR.out.max
        unfold maxLen at hmax
        have hnc : (m : Int) ≤ (c : Int) := by omega
        have hdl : (l.drop m).length = l.length - m := List.length_drop
        have HDL := Lib.hid hdl
        clear hn h20 hdl
        by_cases hm : c = m
        · have hd0 : l.drop m = [] := List.drop_eq_nil_of_le (by omega)
          have HD0 := Lib.hid hd0
          clear hd0
          rcases A with _ | ⟨b, off, sp⟩
          all_goals
            go_enter Tryd.func37, Tryd.ntmps37
            go_wp2
            go_end0
            refine ⟨(Only.refl w).set_ 0 _, ?_, rfl⟩
            exact RdAt.cut HR.out (.inl HD0.out) HDL.out (by omega) (by simp [maxLen])
        · have hmc : (m : Int) < (c : Int) := by omega
          by_cases hl0 : l = []
          · have hd0 : l.drop m = [] := by rw [hl0]; simp
            have HD0 := Lib.hid hd0
            clear hd0 hl0
            rcases A with _ | ⟨b, off, sp⟩
            all_goals
              go_enter Tryd.func37, Tryd.ntmps37
              go_wp2
              go_end0
              refine ⟨(Only.refl w).set_ 0 _, ?_, rfl⟩
              exact RdAt.cut HR.out (.inl HD0.out) HDL.out (by omega) (by unfold maxLen; omega)
          · obtain ⟨b, off, rfl, hb, hcell⟩ := HR.out.rb.at_ (List.length_pos_iff.2 hl0)
            have hsub := RB.sub hb hcell m (l.length - m) (by omega)
            rw [List.take_of_length_le (by rw [List.length_drop]; omega)] at hsub
            have HSB := Lib.hid hsub
            clear hsub hcell hl0
            go_enter Tryd.func37, Tryd.ntmps37
            go_wp2
            go_end0
            refine ⟨(Only.refl w).set_ 0 _, ?_, rfl⟩
            exact RdAt.cut HR.out HSB.out HDL.out (by omega) (by unfold maxLen; omega)
      · have HW : Hid (wentS n x (.ok l) = .bad 30) := Lib.hid (wentS_x _ _ X1.out Y1.out)
        rw [HW.out]
        clear hn h20
        go_enter Tryd.func37, Tryd.ntmps37
        go_wp2
        go_end0
        refine ⟨(Only.refl w).set_ 1 _, ?_, rfl⟩
        have := (HR.out.setE 30).at_
        rwa [stOf_bad _ (by decide)] at this
  · have he1 : (e == 0) = false := beq_eq_false_iff_ne.2 he
    have he2 : (e != 0) = true := bne_iff_ne.2 he
    have HE := Lib.hid (stOf_bad l he)
    rw [HE.out] at hn ⊢
    clear he hn h20
    go_enter Tryd.func37, Tryd.ntmps37
    go_wp2
    all_goals
      first
      | go_end0
      | refine bodyPost_ret (res0 rfl _ _ _) rfl ?_
      refine ⟨Only.refl w, ?_, rfl⟩
      have := HR.out.at_
      rw [HE.out] at this
      exact this

set_option maxHeartbeats 1000000 in
theorem rfixed_walk (g B : Nat) (s : ByteArray) (st : St) (w : World) (h : RdAt w g 58 B st) (hs : s.size ≤ 1000) :
    Calls Tryd.prog 31 #[.pointer (some ⟨g, 0, none⟩), .string s] w fun e w' => Only g w w' ∧ RdAt w' g 58 B (fixS s.data.toList st) ∧ e = .returned (.tuple #[]) := by
  obtain ⟨F, hF⟩ : ∃ F, fixS s.data.toList st = F := ⟨_, rfl⟩
  have HF := Lib.hid hF
  rw [hF]
  clear hF
  go_enter Tryd.func31, Tryd.ntmps31
  go_wp2
  go_loopg [4] s.size (fun k i wr => Only g w wr ∧ ∃ (j : Nat) (st' : St), j + k = s.size ∧ i = .int .i64 j ∧ Hid (RdAt wr g 58 B st') ∧ Hid (fixS (s.data.toList.drop j) st' = F))
  case atStart => exact ⟨Only.refl w, 0, st, by omega, rfl, Lib.hid h, Lib.hid (by rw [List.drop_zero]; exact HF.out)⟩
  case round =>
    obtain ⟨ho, j, st', hj, rfl, HR, HE⟩ := hrel
    obtain ⟨A, c, l, e, hr, hst⟩ := HR.out
    have k0 := hr.c0
    have k1 := hr.c1
    have f0 := hr.blk.frozen 0
    have f1 := hr.blk.frozen 1
    have HRD := Lib.hid hr
    have HS := Lib.hid hst
    clear hr hst HR
    by_cases hlt : j < s.size
    · obtain ⟨y, hc1, hc2⟩ := drop_bt (l := s.data.toList) (j := j) (by rw [← size_len]; exact hlt)
      have hg : ((s[j]'hlt).toNat : Int) = (y.toNat : Int) := by
        rw [hc2, bt_getElem (by rw [← size_len]; exact hlt)]; rfl
      have hj1 : (j : Int) < (s.size : Int) := by omega
      rw [hc1] at HE
      clear hc1 hc2 h HF
      by_cases he : e = 0
      · subst he
        cases l with
        | nil =>
          have HE2 : Hid (fixS (s.data.toList.drop (j + 1)) (.bad 32) = F) := Lib.hid (by rw [← HE.out, ← HS.out, stOf_ok, fixS_bad]; rfl)
          have h0 : (((([] : List UInt8).length : Nat) : Int) == 0) = true := by decide
          clear HE HS
          go_wp2
          go_roundg (gk - 1)
          case rel => exact ⟨ho.set_ 1 _, j + 1, .bad 32, by omega, by go_num, Lib.hid (by have := (HRD.out.setE 32).at_; rwa [stOf_bad _ (by decide)] at this), HE2⟩
          case measure => omega
        | cons x r =>
          have HE2 : Hid ((if x = y then fixS (s.data.toList.drop (j + 1)) (.ok r) else .bad 30) = F) := Lib.hid (by rw [← HE.out, ← HS.out, stOf_ok]; rfl)
          obtain ⟨b, off, rfl, hb, hcell⟩ := HRD.out.rb.at_ (show 0 < (x :: r).length by simp)
          have cx : wr.cell? ⟨b, off, none⟩ = some (.int .u8 (x.toNat : Int)) := hcell 0 (by simp)
          have hsub := RB.sub hb hcell 1 r.length (by simp; omega)
          rw [List.drop_succ_cons, List.drop_zero, List.take_of_length_le (Nat.le_refl _)] at hsub
          have hcap := HRD.out.cap
          have hmax := HRD.out.max
          unfold maxLen at hmax
          simp only [List.length_cons] at hcap
          have HSB := Lib.hid hsub
          have h1 : ((((x :: r).length : Nat) : Int) == 0) = false := by rw [beq_eq_false_iff_ne]; simp; omega
          have hx0 : 0 ≤ (x.toNat : Int) := by omega
          have hx1 : (x.toNat : Int) ≤ 255 := by have := x.toNat_lt; omega
          clear hsub hcell HE HS
          by_cases hxy : x = y
          · subst hxy
            have HE3 := Lib.hid ((if_pos rfl).symm.trans HE2.out)
            clear HE2
            by_cases hc1 : c = 1
            · have hr0 : r = [] := List.eq_nil_of_length_eq_zero (by omega)
              have HR0 := Lib.hid hr0
              clear hr0
              go_wp2
              go_quiet (fail)
              go_wp2
              go_roundg (gk - 1)
              case rel => exact ⟨(ho.drew nq).set_ 0 _, j + 1, .ok r, by omega, by go_num, Lib.hid (RdAt.cut (HRD.out.drew nq) (.inl HR0.out) rfl (by omega) (by simp [maxLen])), HE3⟩
              case measure => omega
            · go_wp2
              go_quiet (fail)
              go_wp2
              go_roundg (gk - 1)
              case rel => exact ⟨(ho.drew nq).set_ 0 _, j + 1, .ok r, by omega, by go_num, Lib.hid (RdAt.cut (HRD.out.drew nq) (HSB.out.heap rfl) rfl (by omega) (by unfold maxLen; omega)), HE3⟩
              case measure => omega
          · have HE3 : Hid (fixS (s.data.toList.drop (j + 1)) (.bad 30) = F) := Lib.hid (by rw [fixS_bad]; exact (if_neg hxy).symm.trans HE2.out)
            have hne : ¬ (x.toNat : Int) = (y.toNat : Int) := fun e => hxy (UInt8.toNat_inj.1 (by omega))
            have hn1 : ((x.toNat : Int) == (y.toNat : Int)) = false := beq_eq_false_iff_ne.2 hne
            have hn2 : ((x.toNat : Int) != (y.toNat : Int)) = true := bne_iff_ne.2 hne
            clear HE2 hxy hne
            go_wp2
            go_quiet (fail)
            go_wp2
            go_roundg (gk - 1)
            case rel => exact ⟨(ho.drew nq).set_ 1 _, j + 1, .bad 30, by omega, by go_num, Lib.hid (by have := ((HRD.out.drew nq).setE 30).at_; rwa [stOf_bad _ (by decide)] at this), HE3⟩
            case measure => omega
      · have he1 : (e == 0) = false := beq_eq_false_iff_ne.2 he
        have hF : Hid (F = .bad e) := Lib.hid (by rw [← HE.out, ← HS.out, stOf_bad _ he, fixS_bad])
        have hB : Hid (stOf l e = .bad e) := Lib.hid (stOf_bad _ he)
        clear he HE HS
        go_wp2
        all_goals
          go_end0
          refine ⟨ho, ?_, rfl⟩
          rw [hF.out, ← hB.out]
          exact HRD.out.at_
    · have hj1 : (s.size : Int) ≤ (j : Int) := by omega
      rw [List.drop_eq_nil_of_le (by rw [← size_len]; omega)] at HE
      go_wp2
      go_end0
      exact ⟨ho, by rw [← HE.out, ← HS.out]; exact HRD.out.at_, rfl⟩

-- TAIL
set_option maxHeartbeats 1000000 in
theorem rnumber_walk (g B : Nat) (s : ByteArray) (st : St) (w : World) (h : RdAt w g 58 B st) (hs : s.size ≤ 1000) :
    Calls Tryd.prog 32 #[.pointer (some ⟨g, 0, none⟩), .string s] w fun e w' => Only g w w' ∧ RdAt w' g 58 B (numS s.data.toList st) ∧ NumAnsR s.data.toList st e := by
  have HF := Lib.hid (rfixed_walk g B s st w h hs)
  clear h
  go_enter Tryd.func32, Tryd.ntmps32
  go_wp2_with fail
  refine HF.out.mono ?_
  rintro e w1 ⟨ho1, hr1, rfl⟩
  obtain ⟨A, c, l, x, hr, hx⟩ := hr1
  have hT := tkN_rng l
  obtain ⟨ha0, ha1⟩ := tkN_all l
  have hnum := rtakeNumber_any A l c w1 B hr.rb (Nat.le_trans hr.cap hr.max)
  change Calls _ _ _ _ fun e w' => w1 = w' ∧ e = .returned (.tuple #[.int .i64 (tkN l).1, .int .i64 (tkN l).2.1, .int .i64 (tkN l).2.2]) at hnum
  have k0 := hr.c0
  have hw := took_walk g B (tkN l).2.1 (tkN l).2.2 (stOf l x) w1 ⟨A, c, l, x, hr, rfl⟩ (fun l' h1 h2 => by
    have e : l' = l := by
      unfold stOf at h1
      split at h1
      · injection h1 with h1; exact h1.symm
      · cases h1
    rw [e]
    exact (hT h2).2.2) (fun h => by omega)
  have hfin : Hid (numS s.data.toList st = wentS (tkN l).2.1 (tkN l).2.2 (stOf l x) ∧ (∀ l', numS s.data.toList st = .ok l' → (tkN l).1 = numV s.data.toList st)) := Lib.hid (by
    unfold numS numV
    rw [← hx]
    unfold stOf
    by_cases h0 : x = 0
    · rw [if_pos h0]; exact ⟨rfl, fun _ _ => rfl⟩
    · rw [if_neg h0]; exact ⟨rfl, fun l' h => by cases h⟩)
  have HW := Lib.hid hw
  have HN := Lib.hid hnum
  clear hT hnum hx HF hw hr
  generalize tkN l = K at *
  obtain ⟨v, n, x'⟩ := K
  go_wp2_with fail
  refine HN.out.mono ?_
  rintro e w' ⟨rfl, rfl⟩
  go_wp2_with fail
  refine HW.out.mono ?_
  rintro e w2 ⟨ho2, hr2, rfl⟩
  go_wp2
  go_ret
  exact ⟨ho1.trans ho2, by rw [hfin.out.1]; exact hr2, v, ha0, ha1, rfl, hfin.out.2⟩

set_option maxHeartbeats 1000000 in
theorem rtext_walk (g B : Nat) (s : ByteArray) (st : St) (w : World) (h : RdAt w g 58 B st) (hs : s.size ≤ 1000) :
    Calls Tryd.prog 33 #[.pointer (some ⟨g, 0, none⟩), .string s] w fun e w' => Only g w w' ∧ RdAt w' g 58 B (textS s.data.toList st) ∧ TextAnsR s.data.toList st e := by
  have HF := Lib.hid (rfixed_walk g B s st w h hs)
  clear h
  go_enter Tryd.func33, Tryd.ntmps33
  go_wp2_with fail
  refine HF.out.mono ?_
  rintro e w1 ⟨ho1, hr1, rfl⟩
  obtain ⟨A, c, l, x, hr, hx⟩ := hr1
  obtain ⟨hs1, hs2⟩ := ttS_rng l
  have hnum := rtakeText_any A l c w1 B hr.rb (Nat.le_trans hr.cap hr.max) hr.cap hr.max
  have k0 := hr.c0
  have hw := took_walk g B (ttN l) (ttE l) (stOf l x) w1 ⟨A, c, l, x, hr, rfl⟩ (fun l' h1 h2 => by
    have e : l' = l := by
      unfold stOf at h1
      split at h1
      · injection h1 with h1; exact h1.symm
      · cases h1
    rw [e]
    exact hs2) (fun h => by omega)
  have hfin : Hid (textS s.data.toList st = wentS (ttN l) (ttE l) (stOf l x) ∧ (∀ l', textS s.data.toList st = .ok l' → ttS l = textV s.data.toList st)) := Lib.hid (by
    unfold textS textV
    rw [← hx]
    unfold stOf
    by_cases h0 : x = 0
    · rw [if_pos h0]; exact ⟨rfl, fun _ _ => rfl⟩
    · rw [if_neg h0]; exact ⟨rfl, fun l' h => by cases h⟩)
  have HW := Lib.hid hw
  have HN := Lib.hid hnum
  clear hnum hx HF hw hr hs2
  generalize ttS l = v at *
  generalize ttN l = n at *
  generalize ttE l = x' at *
  go_wp2_with fail
  refine HN.out.mono ?_
  rintro e w' ⟨rfl, rfl⟩
  go_wp2_with fail
  refine HW.out.mono ?_
  rintro e w2 ⟨ho2, hr2, rfl⟩
  go_wp2
  go_ret
  exact ⟨ho1.trans ho2, by rw [hfin.out.1]; exact hr2, v, hs1, rfl, hfin.out.2⟩
end Go.Proofs.YtfnhaddgdfkmcaaDoor
