/-
  The walks of waybillref03's reader: fail, mark. No condition but what the reader holds.
-/
import Derived.Test.YtfnhaddgdfkmcaaDoorRRd
import Derived.Test.YtfnhaddgdfkmcaaDoorAddr
namespace Go.Proofs.YtfnhaddgdfkmcaaDoor
open Go.RowKit Go.Sort
set_option linter.unusedVariables false

def failS (x : Int) : St → St
  | .ok l => .bad x
  | .bad e => .bad e
theorem fail_walk (g B : Nat) (x : Int) (hx : x ≠ 0) (st : St) (w : World) (h : RdAt w g 58 B st) :
    Calls Tryd.prog 34 #[.pointer (some ⟨g, 0, none⟩), .int .i64 x] w fun e w' => Only g w w' ∧ RdAt w' g 58 B (failS x st) ∧ e = .returned (.tuple #[]) := by
  obtain ⟨A, c, l, e, hr, rfl⟩ := h
  have k1 := hr.c1
  have f1 := hr.blk.frozen 1
  have HR := Lib.hid hr
  have HX := Lib.hid hx
  clear hr hx
  by_cases he : e = 0
  · subst he
    rw [stOf_ok]
    go_enter Tryd.func34, Tryd.ntmps34
    go_wp2
    go_end0
    refine ⟨(Only.refl w).set_ 1 _, ?_, rfl⟩
    have := (HR.out.setE x).at_
    rwa [stOf_bad _ HX.out] at this
  · have he1 : (e == 0) = false := beq_eq_false_iff_ne.2 he
    have HE := Lib.hid (stOf_bad l he)
    rw [HE.out]
    clear he
    go_enter Tryd.func34, Tryd.ntmps34
    go_wp2
    all_goals
      go_end0
      refine ⟨Only.refl w, ?_, rfl⟩
      have := HR.out.at_
      rw [HE.out] at this
      exact this
/-- a recipient's mark -/
def mrkS (st : St) : St :=
  match fixS [114] st with
  | .ok (c :: l) => if markOk (c.toNat : Int) = true then .ok l else .bad 30
  | .ok [] => .bad 32
  | .bad e => .bad e
def mrkV (st : St) : Int :=
  match fixS [114] st with
  | .ok (c :: _) => (c.toNat : Int)
  | _ => 0
def MrkAns (st : St) (e : Ending) : Prop := ∃ z : Int, 0 ≤ z ∧ z ≤ 255 ∧ e = .returned (.int .u8 z) ∧ ∀ l, mrkS st = .ok l → z = mrkV st ∧ markOk z = true
theorem mrk_bad {st : St} {x : Int} (h : mrkS st = .bad x) {z : Int} (h0 : 0 ≤ z) (h1 : z ≤ 255) : MrkAns st (.returned (.int .u8 z)) := ⟨z, h0, h1, rfl, fun l e => by rw [h] at e; cases e⟩
set_option maxHeartbeats 1000000 in
theorem rmark_walk (g B : Nat) (st : St) (w : World) (h : RdAt w g 58 B st) :
    Calls Tryd.prog 35 #[.pointer (some ⟨g, 0, none⟩)] w fun e w' => Only g w w' ∧ RdAt w' g 58 B (mrkS st) ∧ MrkAns st e := by
  have HF := Lib.hid (rfixed_walk g B ⟨#[114]⟩ st w h (by decide))
  clear h
  go_enter Tryd.func35, Tryd.ntmps35
  go_wp2_with fail
  refine HF.out.mono ?_
  rintro e w1 ⟨ho1, hr1, rfl⟩
  obtain ⟨A, c, l, x, hr, hx⟩ := hr1
  have k0 := hr.c0
  have k1 := hr.c1
  have f0 := hr.blk.frozen 0
  have f1 := hr.blk.frozen 1
  have HR := Lib.hid hr
  have HX := Lib.hid hx
  clear hr hx HF
  by_cases he : x = 0
  · subst he
    cases l with
    | nil =>
      have hS : Hid (mrkS st = .bad 32) := Lib.hid (by unfold mrkS; rw [← HX.out]; rfl)
      have h0 : (((([] : List UInt8).length : Nat) : Int) == 0) = true := by decide
      clear HX
      go_wp2
      go_ret
      rw [hS.out]
      refine ⟨ho1.set_ 1 _, ?_, mrk_bad hS.out (by omega) (by omega)⟩
      have := (HR.out.setE 32).at_
      rwa [stOf_bad _ (by decide)] at this
    | cons y r =>
      have hS : Hid (mrkS st = (if markOk (y.toNat : Int) = true then .ok r else .bad 30) ∧ mrkV st = (y.toNat : Int)) := Lib.hid (by unfold mrkS mrkV; rw [← HX.out]; exact ⟨rfl, rfl⟩)
      obtain ⟨b, off, rfl, hb, hcell⟩ := HR.out.rb.at_ (show 0 < (y :: r).length by simp)
      have cx : w1.cell? ⟨b, off, none⟩ = some (.int .u8 (y.toNat : Int)) := hcell 0 (by simp)
      have hsub := RB.sub hb hcell 1 r.length (by simp; omega)
      rw [List.drop_succ_cons, List.drop_zero, List.take_of_length_le (Nat.le_refl _)] at hsub
      have hcap := HR.out.cap
      have hmax := HR.out.max
      unfold maxLen at hmax
      simp only [List.length_cons] at hcap
      have HSB := Lib.hid hsub
      have h1 : ((((y :: r).length : Nat) : Int) == 0) = false := by rw [beq_eq_false_iff_ne]; simp; omega
      have hy0 : 0 ≤ (y.toNat : Int) := by omega
      have hy1 : (y.toNat : Int) ≤ 255 := by have := y.toNat_lt; omega
      have HM := Lib.hid (fun w => isMark_walk (y.toNat : Int) w)
      clear hsub hcell HX
      by_cases hc1 : c = 1
      · have hr0 : r = [] := List.eq_nil_of_length_eq_zero (by omega)
        have HC : Hid (∀ A', RdAt (w1.setCell ⟨g, 0, none⟩ (.slice A' r.length 0)) g 58 B (.ok r)) := Lib.hid (fun A' => RdAt.cut HR.out (.inl hr0) rfl (by rw [hr0]; simp) (by simp [maxLen]))
        have HC2 : Hid (∀ A', RdAt ((w1.setCell ⟨g, 0, none⟩ (.slice A' r.length 0)).setCell ⟨g, 1, none⟩ (.int .i64 30)) g 58 B (.bad 30)) := Lib.hid (fun A' => by
          have := ((HR.out.setL (A' := A') (c' := 0) (l' := r) (.inl hr0) (by rw [hr0]; simp) (by simp [maxLen])).setE 30).at_
          rwa [stOf_bad _ (by decide)] at this)
        clear hr0
        cases hm : markOk (y.toNat : Int)
        · rw [hm] at HM hS
          have hS' : Hid (mrkS st = .bad 30) := hS.out.1
          have HMM := Lib.hid hm
          clear hm hS
          go_wp2_with (go_at_call 30; refine (HM.out _).mono ?_; rintro e w' ⟨rfl, rfl⟩)
          go_ret
          rw [hS'.out]
          exact ⟨(ho1.set_ 0 _).set_ 1 _, HC2.out _, mrk_bad hS'.out hy0 hy1⟩
        · rw [hm] at HM hS
          have hS' : Hid (mrkS st = .ok r ∧ mrkV st = (y.toNat : Int)) := hS
          have HMM := Lib.hid hm
          clear hm hS
          go_wp2_with (go_at_call 30; refine (HM.out _).mono ?_; rintro e w' ⟨rfl, rfl⟩)
          go_ret
          rw [hS'.out.1]
          exact ⟨ho1.set_ 0 _, HC.out _, _, hy0, hy1, rfl, fun _ _ => ⟨hS'.out.2.symm, HMM.out⟩⟩
      · have HC : Hid (RdAt (w1.setCell ⟨g, 0, none⟩ (.slice (some ⟨b, off + 1, none⟩) r.length (c - 1))) g 58 B (.ok r)) := Lib.hid (RdAt.cut HR.out HSB.out rfl (by omega) (by unfold maxLen; omega))
        have HC2 : Hid (RdAt ((w1.setCell ⟨g, 0, none⟩ (.slice (some ⟨b, off + 1, none⟩) r.length (c - 1))).setCell ⟨g, 1, none⟩ (.int .i64 30)) g 58 B (.bad 30)) := Lib.hid (by
          have := ((HR.out.setL (c' := c - 1) HSB.out (by omega) (by unfold maxLen; omega)).setE 30).at_
          rwa [stOf_bad _ (by decide)] at this)
        cases hm : markOk (y.toNat : Int)
        · rw [hm] at HM hS
          have hS' : Hid (mrkS st = .bad 30) := hS.out.1
          have HMM := Lib.hid hm
          clear hm hS
          go_wp2_with (go_at_call 30; refine (HM.out _).mono ?_; rintro e w' ⟨rfl, rfl⟩)
          go_ret
          rw [hS'.out]
          exact ⟨(ho1.set_ 0 _).set_ 1 _, HC2.out, mrk_bad hS'.out hy0 hy1⟩
        · rw [hm] at HM hS
          have hS' : Hid (mrkS st = .ok r ∧ mrkV st = (y.toNat : Int)) := hS
          have HMM := Lib.hid hm
          clear hm hS
          go_wp2_with (go_at_call 30; refine (HM.out _).mono ?_; rintro e w' ⟨rfl, rfl⟩)
          go_ret
          rw [hS'.out.1]
          exact ⟨ho1.set_ 0 _, HC.out, _, hy0, hy1, rfl, fun _ _ => ⟨hS'.out.2.symm, HMM.out⟩⟩
  · have he1 : (x == 0) = false := beq_eq_false_iff_ne.2 he
    have he2 : (x != 0) = true := bne_iff_ne.2 he
    have hS : Hid (mrkS st = .bad x ∧ stOf l x = .bad x) := Lib.hid ⟨by unfold mrkS; rw [← HX.out, stOf_bad _ he], stOf_bad _ he⟩
    clear he HX
    go_wp2
    go_ret
    rw [hS.out.1]
    refine ⟨ho1, ?_, mrk_bad hS.out.1 (by omega) (by omega)⟩
    rw [← hS.out.2]
    exact HR.out.at_
end Go.Proofs.YtfnhaddgdfkmcaaDoor
