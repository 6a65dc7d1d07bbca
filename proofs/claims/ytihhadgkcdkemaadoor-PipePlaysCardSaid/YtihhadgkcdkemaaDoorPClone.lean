/-
  The walks of bytes.Clone and slices.Clip at bytes. Condition: the length.
-/
import Derived.Test.YtihhadgkcdkemaaDoorPSt
import Derived.WalkSpells
namespace Go.Proofs.YtihhadgkcdkemaaDoor
open Go.RowKit Go.Maps
set_option linter.unusedVariables false
theorem u8P : U8 Tryd.prog 30 5 := by
  obtain ⟨i, h1, h2, h3, h4⟩ := info_parts (show (Tryd.prog.info? 5).map (fun i => (i.zero, i.size, i.bytes)) = some (some (.int .u8 0), 1, 1) by kernel_rfl)
  exact ⟨Tryd.underlying30, Tryd.underlying5, i, h1, h2, h3, h4⟩
/-- a copy in a new block, or nil -/
def CopyPost (w : World) (l : List UInt8) (e : Ending) (w' : World) : Prop :=
  Below w.heap.size w w' ∧ ∃ A c, e = .returned (.slice A l.length c) ∧ OwnV w' w.heap.size (.slice A l.length c) l ∧ ∀ b, msgBlk (.slice A l.length c) = some b → w.heap.size ≤ b ∧ b < w'.heap.size
theorem OwnQ.belowG {w w' : World} {base : Nat} {own : Option Nat} {v : Value} {l : List UInt8} (h : OwnQ w base own v l) (hg : w.grownBy w' own) (hb : base ≤ w.heap.size) : Below base w w' :=
  ⟨hg.os, hg.tape, hg.output, hg.size, fun k hk => hg.block k (by omega) (fun e => by have := (h.base_ e.symm).1; omega)⟩
theorem clone_walk (w : World) (A : Option Addr) (l : List UInt8) (n c : Nat) (hn : n = l.length) (hr : RB w w.heap.size A l) (hA : A = none → n = 0) (hl : n ≤ 1000000000) :
    Calls Tryd.prog 16 #[.slice A n c] w (CopyPost w l) := by
  rcases A with _ | ad
  · obtain rfl : n = 0 := hA rfl
    obtain rfl : l = [] := List.eq_nil_of_length_eq_zero hn.symm
    have he := fun w => Lib.run_eql_slice_nil (P := Tryd.prog) w 30 5 none 0 c 0 0 Tryd.underlying30
    clear hn hA hl hr
    go_enter Tryd.func16, Tryd.ntmps16
    go_wp2
    go_ret
    exact ⟨Below.refl _ _, none, 0, rfl, ⟨none, 0, rfl, Nat.le_refl _, by simp [maxLen], .inl rfl⟩, fun b hb => by cases hb⟩
  · have HR := Lib.hid hr
    have HN := Lib.hid hn
    have he := fun w => Lib.run_eql_slice_nil (P := Tryd.prog) w 30 5 (some ad) n c 0 0 Tryd.underlying30
    have hba := (Below.refl w.heap.size w).alloc (Nat.le_refl _) (.cells #[] 5)
    have HBa := Lib.hid hba
    clear hr hn hA hba
    go_enter Tryd.func16, Tryd.ntmps16
    go_wp2_with (at_builtin; refine wpList_appQ _ u8P (.tmp 5) (.tmp 6) rfl rfl w.heap.size rfl (OwnQ.nil _ _ (some ⟨w.heap.size, 0, none⟩)) _ _ rfl HN.out (HR.out.below HBa.out) (by have := HN.out; simp; omega) HBa.out.size ?_; intro v2 own2 w2 hO2 hg2 ho2; rw [List.nil_append] at hO2; obtain ⟨A2, cc2, rfl, -⟩ := hO2.out; have HO2 := Lib.hid hO2; have HG2 := Lib.hid hg2; have HB2 := Lib.hid (HBa.out.trans ((OwnQ.nil _ _ (some ⟨w.heap.size, 0, none⟩)).belowG hg2 HBa.out.size)); clear hO2 hg2 ho2)
    go_ret
    refine ⟨HB2.out, A2, cc2, rfl, OwnV.of_q HO2.out, fun b hb => ?_⟩
    obtain ⟨A', c', e, h1, h2, h3⟩ := HO2.out
    injection e with e1 e2 e3
    subst e1 e3
    rcases h3 with ⟨h3, -⟩ | ⟨g, off, -, rfl, h5, h6, -⟩
    · have : l.length = 0 := by omega
      rw [this] at hb
      cases A2 <;> cases hb
    · cases l with
      | nil => cases hb
      | cons x l =>
        injection hb with hb
        subst hb
        exact ⟨h5, h6⟩
theorem clip_walk (w : World) (A : Option Addr) (n c : Nat) (hc : n ≤ c) (hm : c ≤ maxLen) :
    Calls Tryd.prog 17 #[.slice A n c] w fun e w' => e = .returned (.slice A n n) ∧ w' = w := by
  unfold maxLen at hm
  have h1 : (n : Int) ≤ (c : Int) := by omega
  go_enter Tryd.func17, Tryd.ntmps17
  go_wp2
  go_ret
  exact ⟨rfl, rfl⟩
end Go.Proofs.YtihhadgkcdkemaaDoor
