/-
  The walks of record's reader: need, byte, went. No condition but what the reader holds.
-/
import Derived.Test.YtfnhaddgdfkmcaaDoorRd
import Derived.RegionTactic
import Derived.ChangeAlike
import Derived.Outline
namespace Go.Proofs.YtfnhaddgdfkmcaaDoor
open Go.RowKit Go.Sort
set_option linter.unusedVariables false

theorem need_walk (g B : Nat) (b : Bool) (st : St) (w : World) (h : RdAt w g 69 B st) :
    Calls Tryd.prog 40 #[.pointer (some ⟨g, 0, none⟩), .bool b] w fun e w' => Only g w w' ∧ RdAt w' g 69 B (needS b st) ∧ e = .returned (.tuple #[]) := by
  obtain ⟨A, c, l, e, hr, rfl⟩ := h
  have k0 := hr.c0
  have k1 := hr.c1
  have f1 := hr.blk.frozen 1
  have HR := Lib.hid hr
  clear hr
  by_cases he : e = 0
  · subst he
    cases b
    · go_enter Tryd.func40, Tryd.ntmps40
      go_wp2
      go_end0
      refine ⟨(Only.refl w).set_ 1 _, ?_, rfl⟩
      have := (HR.out.setE 30).at_
      rwa [stOf_bad _ (by decide)] at this
    · go_enter Tryd.func40, Tryd.ntmps40
      go_wp2
      go_end0
      refine ⟨Only.refl w, ?_, rfl⟩
      exact HR.out.at_
  · have he1 : (e == 0) = false := beq_eq_false_iff_ne.2 he
    have HE := Lib.hid (stOf_bad l he)
    rw [HE.out]
    clear he
    go_enter Tryd.func40, Tryd.ntmps40
    go_wp2
    all_goals
      go_end0
      refine ⟨Only.refl w, ?_, rfl⟩
      have := HR.out.at_
      rw [HE.out] at this
      exact this
/-- what byte answers -/
def ByteAns (st : St) (e : Ending) : Prop := ∃ z : Int, 0 ≤ z ∧ z ≤ 255 ∧ e = .returned (.int .u8 z) ∧ ∀ c l, st = .ok (c :: l) → z = (c.toNat : Int)
theorem byte_bad {st : St} (h : ∀ c l, st ≠ .ok (c :: l)) : ByteAns st (.returned (.int .u8 0)) := ⟨0, by omega, by omega, rfl, fun c l e => absurd e (h c l)⟩
theorem byte_walk (g B : Nat) (st : St) (w : World) (h : RdAt w g 69 B st) :
    Calls Tryd.prog 42 #[.pointer (some ⟨g, 0, none⟩)] w fun e w' => Only g w w' ∧ RdAt w' g 69 B (byteS st) ∧ ByteAns st e := by
  obtain ⟨A, c, l, e, hr, rfl⟩ := h
  have k0 := hr.c0
  have k1 := hr.c1
  have f0 := hr.blk.frozen 0
  have f1 := hr.blk.frozen 1
  have HR := Lib.hid hr
  clear hr
  by_cases he : e = 0
  · subst he
    rw [stOf_ok]
    cases l with
    | nil =>
      have h0 : (((([] : List UInt8).length : Nat) : Int) == 0) = true := by decide
      go_enter Tryd.func42, Tryd.ntmps42
      go_wp2
      go_ret
      refine ⟨(Only.refl w).set_ 1 _, ?_, byte_bad (fun c l h => by cases h)⟩
      have := (HR.out.setE 32).at_
      rwa [stOf_bad _ (by decide)] at this
    | cons x r =>
      have hl : (((x :: r).length : Nat) : Int) = (r.length : Int) + 1 := by simp
      obtain ⟨b, off, rfl, hb, hcell⟩ := HR.out.rb.at_ (show 0 < (x :: r).length by simp)
      have cx : w.cell? ⟨b, off, none⟩ = some (.int .u8 (x.toNat : Int)) := hcell 0 (by simp)
      have hsub := RB.sub hb hcell 1 r.length (by simp; omega)
      rw [List.drop_succ_cons, List.drop_zero, List.take_of_length_le (Nat.le_refl _)] at hsub
      have hcap := HR.out.cap
      have hmax := HR.out.max
      unfold maxLen at hmax
      simp only [List.length_cons] at hcap
      have HSB := Lib.hid hsub
      have h1 : ((((x :: r).length : Nat) : Int) == 0) = false := by rw [beq_eq_false_iff_ne]; simp; omega
      clear hsub hcell
      go_enter Tryd.func42, Tryd.ntmps42
      have fin : ByteAns (.ok (x :: r)) (.returned (.int .u8 (x.toNat : Int))) := ⟨_, by omega, by have := x.toNat_lt; omega, rfl, fun c l h => by injection h with h; injection h with h _; rw [h]⟩
      have FIN := Lib.hid fin
      clear fin
      by_cases hc1 : c = 1
      · have hr0 : r = [] := List.eq_nil_of_length_eq_zero (by omega)
        have HR0 := Lib.hid hr0
        clear hr0
        go_wp2
        go_ret
        exact ⟨(Only.refl w).set_ 0 _, ⟨_, _, _, _, HR.out.setL (.inl HR0.out) (by rw [HR0.out]; simp) (by simp [maxLen]), stOf_ok _⟩, FIN.out⟩
      · go_wp2
        go_ret
        exact ⟨(Only.refl w).set_ 0 _, ⟨_, _, _, _, HR.out.setL HSB.out (by omega) (by unfold maxLen; omega), stOf_ok _⟩, FIN.out⟩
  · have he1 : (e == 0) = false := beq_eq_false_iff_ne.2 he
    have he2 : (e != 0) = true := bne_iff_ne.2 he
    have HE := Lib.hid (stOf_bad l he)
    rw [HE.out]
    clear he
    go_enter Tryd.func42, Tryd.ntmps42
    go_wp2
    all_goals
      go_ret
      refine ⟨Only.refl w, ?_, byte_bad (fun c l h => by cases h)⟩
      have := HR.out.at_
      rw [HE.out] at this
      exact this

theorem went_walk (g B : Nat) (n x : Int) (st : St) (w : World) (h : RdAt w g 69 B st) (hn : ∀ l, st = .ok l → x = 0 → 0 ≤ n ∧ n ≤ l.length) (h20 : x = 20 → x ≠ 0) :
    Calls Tryd.prog 44 #[.pointer (some ⟨g, 0, none⟩), .int .i64 n, .int .i64 x] w fun e w' => Only g w w' ∧ RdAt w' g 69 B (wentS n x st) ∧ e = .returned (.tuple #[]) := by
  obtain ⟨A, c, l, e, hr, rfl⟩ := h
  have k0 := hr.c0
  have k1 := hr.c1
  have f0 := hr.blk.frozen 0
  have f1 := hr.blk.frozen 1
  have HR := Lib.hid hr
  clear hr
  by_cases he : e = 0
  · subst he
    rw [stOf_ok] at hn ⊢
    refine on_ne x 20 (fun X1 X2 => ?_) (fun X1 X2 => ?_) <;> obtain ⟨X3, X5⟩ := X2.out <;> clear X2
    · have HW : Hid (wentS n x (.ok l) = .bad 32) := Lib.hid (wentS_20 _ _ X1.out)
      rw [HW.out]
      clear hn h20
      go_enter Tryd.func44, Tryd.ntmps44
      go_wp2
      go_end0
      refine ⟨(Only.refl w).set_ 1 _, ?_, rfl⟩
      have := (HR.out.setE 32).at_
      rwa [stOf_bad _ (by decide)] at this
    · refine on_ne x 0 (fun Y1 Y2 => ?_) (fun Y1 Y2 => ?_) <;> obtain ⟨Y3, Y5⟩ := Y2.out <;> clear Y2
      · have HW : Hid (wentS n x (.ok l) = .ok (l.drop n.toNat)) := Lib.hid (wentS_0 _ _ Y1.out)
        obtain ⟨hn0, hn1⟩ := hn l rfl Y1.out
        rw [HW.out]
        obtain ⟨m, rfl⟩ := Int.eq_ofNat_of_zero_le hn0
        rw [Int.toNat_natCast]
        have hcap := HR.out.cap
        have hmax := HR.out.max
        unfold maxLen at hmax
        have hnc : (m : Int) ≤ (c : Int) := by omega
        have hdl : (l.drop m).length = l.length - m := List.length_drop
        have HDL := Lib.hid hdl
        clear hn h20 hdl
        by_cases hm : c = m
        · have hd0 : l.drop m = [] := List.drop_eq_nil_of_le (by omega)
          have HD0 := Lib.hid hd0
          clear hd0
          rcases A with _ | ⟨b, off, sp⟩
          all_goals
            go_enter Tryd.func44, Tryd.ntmps44
            go_wp2
            go_end0
            refine ⟨(Only.refl w).set_ 0 _, ?_, rfl⟩
            exact RdAt.cut HR.out (.inl HD0.out) HDL.out (by omega) (by simp [maxLen])
        · have hmc : (m : Int) < (c : Int) := by omega
          by_cases hl0 : l = []
          · have hd0 : l.drop m = [] := by rw [hl0]; simp
            have HD0 := Lib.hid hd0
            clear hd0 hl0
            rcases A with _ | ⟨b, off, sp⟩
            all_goals
              go_enter Tryd.func44, Tryd.ntmps44
              go_wp2
              go_end0
              refine ⟨(Only.refl w).set_ 0 _, ?_, rfl⟩
              exact RdAt.cut HR.out (.inl HD0.out) HDL.out (by omega) (by unfold maxLen; omega)
          · obtain ⟨b, off, rfl, hb, hcell⟩ := HR.out.rb.at_ (List.length_pos_iff.2 hl0)
            have hsub := RB.sub hb hcell m (l.length - m) (by omega)
            rw [List.take_of_length_le (by rw [List.length_drop]; omega)] at hsub
            have HSB := Lib.hid hsub
            clear hsub hcell hl0
            go_enter Tryd.func44, Tryd.ntmps44
            go_wp2
            go_end0
            refine ⟨(Only.refl w).set_ 0 _, ?_, rfl⟩
            exact RdAt.cut HR.out HSB.out HDL.out (by omega) (by unfold maxLen; omega)
      · have HW : Hid (wentS n x (.ok l) = .bad 30) := Lib.hid (wentS_x _ _ X1.out Y1.out)
        rw [HW.out]
        clear hn h20
        go_enter Tryd.func44, Tryd.ntmps44
        go_wp2
        go_end0
        refine ⟨(Only.refl w).set_ 1 _, ?_, rfl⟩
        have := (HR.out.setE 30).at_
        rwa [stOf_bad _ (by decide)] at this
  · have he1 : (e == 0) = false := beq_eq_false_iff_ne.2 he
    have he2 : (e != 0) = true := bne_iff_ne.2 he
    have HE := Lib.hid (stOf_bad l he)
    rw [HE.out] at hn ⊢
    clear he hn h20
    go_enter Tryd.func44, Tryd.ntmps44
    go_wp2
    all_goals
      go_end0
      refine ⟨Only.refl w, ?_, rfl⟩
      have := HR.out.at_
      rw [HE.out] at this
      exact this
end Go.Proofs.YtfnhaddgdfkmcaaDoor
