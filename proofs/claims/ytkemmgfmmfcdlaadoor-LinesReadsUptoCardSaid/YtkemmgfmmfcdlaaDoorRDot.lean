/-
  The walk of waybillref12's Dotted. Conditions: the sizes.
-/
import Derived.Test.YtkemmgfmmfcdlaaDoorDot
namespace Go.Proofs.YtkemmgfmmfcdlaaDoor
open Go.RowKit
set_option linter.unusedVariables false
set_option maxHeartbeats 2000000 in
theorem rdot_walk (w : World) (A : Option Addr) (l : List UInt8) (n c : Nat) (hn : n = l.length) (hr : RB w w.heap.size A l) (hc : n ≤ c) (hm : c ≤ maxLen) (hl : n ≤ 140737488355328) :
    Calls Tryd.prog 20 #[.slice A n c] w (DotPost w l) := by
  have HR := Lib.hid hr
  have hd := rdot_pre l
  have hat : Hid (∀ (a : UInt8) r, l = a :: r → ∃ b off, A = some ⟨b, off, none⟩ ∧ w.cell? ⟨b, off, none⟩ = some (.int .u8 a.toNat)) := Lib.hid (by
    rintro a r rfl
    obtain ⟨b, off, e, _, hcl⟩ := hr.at_ (j := 0) (by simp)
    exact ⟨b, off, e, by have := hcl 0 (by simp); simpa [bt] using this⟩)
  unfold maxLen at hm
  clear hr
  rcases hd with rfl | rfl | ⟨a, r, rfl⟩ | ⟨a, r, rfl, ha⟩
  · obtain rfl : n = 0 := hn
    clear hat
    go_enter Tryd.func20, Tryd.ntmps20
    go_wp2_with (at_builtin; go_loud (refine wpList_appQ _ u8S (.tmp 27) (.tmp 28) rfl rfl w.heap.size rfl (OwnQ.nil _ _ _) _ _ rfl rfl HR.out (by simp) (Nat.le_refl _) ?_); intro v2 own3 w2 hO3 hg3 ho3; have HO3 := Lib.hid hO3; have HG3 := Lib.hid hg3; clear hO3 hg3 ho3)
    go_ret2
    unfold DotPost
    exact ⟨⟨HG3.out.os, HG3.out.tape, HG3.out.output, HG3.out.size, fun k hk => HG3.out.block k hk (by simp)⟩, _, rfl, OwnV.of_q HO3.out⟩
  · obtain rfl : n = 1 := hn
    obtain ⟨b, off, rfl, k0⟩ := hat.out _ _ rfl
    have k0 : w.cell? ⟨b, off, none⟩ = some (.int .u8 46) := k0
    clear hat
    go_enter Tryd.func20, Tryd.ntmps20
    go_wp2
    go_ret2
    unfold DotPost
    exact ⟨Below.refl _ _, _, rfl, _, 0, rfl, Nat.le_refl _, by simp [maxLen], .inl rfl⟩
  · obtain ⟨b, off, rfl, k0⟩ := hat.out _ _ rfl
    have k0 : w.cell? ⟨b, off, none⟩ = some (.int .u8 46) := k0
    have hn2 : n = r.length + 2 := hn
    subst hn2
    have hc1 : c ≠ 1 := by omega
    have HT : Hid (RB w w.heap.size (some ⟨b, off + 1, none⟩) (a :: r)) := Lib.hid (HR.out.drop 1)
    have q1 : ¬ ((r.length : Int) + 2 = 1) := by omega
    have q2 : (0 : Int) < (r.length : Int) + 2 := by omega
    clear hat hn
    go_enter Tryd.func20, Tryd.ntmps20
    go_wp2_with (at_builtin; go_loud (refine wpList_appQ _ u8S (.tmp 23) (.tmp 25) rfl rfl w.heap.size rfl (OwnQ.nil _ _ _) _ _ rfl (by simp) HT.out (by simp; omega) (Nat.le_refl _) ?_); intro v2 own3 w2 hO3 hg3 ho3; have HO3 := Lib.hid hO3; have HG3 := Lib.hid hg3; clear hO3 hg3 ho3)
    go_ret2
    unfold DotPost
    exact ⟨⟨HG3.out.os, HG3.out.tape, HG3.out.output, HG3.out.size, fun k hk => HG3.out.block k hk (by simp)⟩, _, rfl, OwnV.of_q HO3.out⟩
  · obtain ⟨b, off, rfl, k0⟩ := hat.out _ _ rfl
    have hn2 : n = r.length + 1 := hn
    subst hn2
    have qa : ((a.toNat : Int) == 46) = false := by rw [show (46 : Int) = ((46 : UInt8).toNat : Int) from rfl, byte_beq]; exact decide_eq_false ha
    have q2 : (0 : Int) < (r.length : Int) + 1 := by omega
    have HD : Hid (dotP (a :: r) = (a :: r, false)) := Lib.hid (by unfold dotP; simp [ha])
    clear hat hn ha
    generalize (a.toNat : Int) = av at *
    go_enter Tryd.func20, Tryd.ntmps20
    go_wp2_with (at_builtin; go_loud (refine wpList_appQ _ u8S (.tmp 27) (.tmp 28) rfl rfl w.heap.size rfl (OwnQ.nil _ _ _) _ _ rfl (by simp) HR.out (by simp; omega) (Nat.le_refl _) ?_); intro v2 own3 w2 hO3 hg3 ho3; have HO3 := Lib.hid hO3; have HG3 := Lib.hid hg3; clear hO3 hg3 ho3)
    all_goals go_ret2
    all_goals
      unfold DotPost
      rw [HD.out]
      exact ⟨⟨HG3.out.os, HG3.out.tape, HG3.out.output, HG3.out.size, fun k hk => HG3.out.block k hk (by simp)⟩, _, rfl, OwnV.of_q HO3.out⟩
end Go.Proofs.YtkemmgfmmfcdlaaDoor
