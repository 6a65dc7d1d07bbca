/-
  The walks of the program's lower, of the test of a text's runes, of strings.IndexAny at the two blanks. Conditions: the sizes; the tables.
-/
import Derived.Test.YtlknclkkhincfaaDoorTbPl
import Derived.Test.YtlknclkkhincfaaDoorShelf
import Derived.Deep.DeepCutAuto
namespace Go.Proofs.YtlknclkkhincfaaDoor
open Go.RowKit Go.Shelf
set_option linter.unusedVariables false
/-- the library's tables stand, and go on standing -/
def TabsT (B : Nat) (w : World) : Prop := ∀ w', Below B w w' → Lib.Utf8Tabs 1 2 w' ∧ ∃ m, w'.cell? ⟨0, 0, none⟩ = some (.int .i64 m)
theorem TabsT.below {B : Nat} {w w' : World} (h : TabsT B w) (hb : Below B w w') : TabsT B w' := fun v hv => h v (hb.trans hv)
theorem lower_clos (w : World) : MapAtRunes Tryd.prog 60 #[] lowU w := fun W x hx hb => by
  unfold FnGives lowU
  by_cases h1 : (65 : Int) ≤ (x : Int)
  · by_cases h2 : (x : Int) ≤ 90
    · rw [if_pos ⟨h1, h2⟩]
      go_enter Tryd.func60, Tryd.ntmps60
      go_wp2
      go_ret
      exact ⟨rfl, 0, rfl⟩
    · rw [if_neg (fun h => h2 h.2)]
      go_enter Tryd.func60, Tryd.ntmps60
      go_wp2
      go_ret
      exact ⟨rfl, 0, rfl⟩
  · rw [if_neg (fun h => h1 h.1)]
    go_enter Tryd.func60, Tryd.ntmps60
    go_wp2
    go_ret
    exact ⟨rfl, 0, rfl⟩
theorem lowU_rng (x : Nat) (h : x ≤ 1114111) : 0 ≤ lowU x ∧ lowU x ≤ 2147483647 := by unfold lowU; split <;> omega
set_option maxRecDepth 100000 in
theorem lower_walk (s : ByteArray) (w : World) (hs : s.size < 35184372088832) (hT : TabsT w.heap.size w) :
    Calls Tryd.prog 40 #[.string s] w fun e w' => Below w.heap.size w w' ∧ e = .returned (.string ⟨(Lib.mapD lowU s.data.toList).toArray⟩) := by
  have HK := Lib.hid (Tryd.strings_Map_runes 60 #[] (enters_of Tryd.func60 (by kernel_rfl) rfl) lowU s w hs (lower_clos w) lowU_rng (hT w (Below.refl _ _)).1)
  generalize Lib.mapD lowU s.data.toList = r at *
  clear hT hs
  go_enter Tryd.func40, Tryd.ntmps40
  go_wp2_with fail
  refine HK.out.mono ?_
  rintro e w' ⟨rfl, hb⟩
  go_wp2
  go_ret
  exact ⟨hb, rfl⟩
theorem cut_clos (w : World) : PredAt Tryd.prog 44 #[] encR badR w := fun W x hb => by
  unfold FnGives badR
  by_cases h1 : x = 9
  · subst h1
    go_enter Tryd.func44, Tryd.ntmps44
    go_wp2
    go_ret
    exact ⟨rfl, 0, rfl⟩
  by_cases h2 : x = 10
  · subst h2
    go_enter Tryd.func44, Tryd.ntmps44
    go_wp2
    go_ret
    exact ⟨rfl, 0, rfl⟩
  have b1 : (x == 9) = false := beq_eq_false_iff_ne.2 h1
  have b2 : (x == 10) = false := beq_eq_false_iff_ne.2 h2
  have c1 : ((x : Int) == 9) = false := beq_eq_false_iff_ne.2 (by omega)
  have c2 : ((x : Int) == 10) = false := beq_eq_false_iff_ne.2 (by omega)
  have d1 : ((x : Int) != 9) = true := by simp; omega
  have d2 : ((x : Int) != 10) = true := by simp; omega
  rw [b1, b2]
  clear h1 h2 b1 b2
  by_cases h3 : x < 32
  · have e3 : decide (x < 32) = true := decide_eq_true h3
    have f3 : (x : Int) < 32 := by omega
    rw [e3]
    clear e3 h3
    go_enter Tryd.func44, Tryd.ntmps44
    go_wp2
    go_ret
    exact ⟨by simp, 0, rfl⟩
  · have e3 : decide (x < 32) = false := decide_eq_false h3
    have f3 : ¬ (x : Int) < 32 := by omega
    rw [e3]
    by_cases h4 : 126 < x
    · have e4 : decide (126 < x) = true := decide_eq_true h4
      have f4 : (126 : Int) < (x : Int) := by omega
      rw [e4]
      clear e3 h3 e4 h4
      go_enter Tryd.func44, Tryd.ntmps44
      go_wp2
      go_ret
      exact ⟨by simp, 0, rfl⟩
    · have e4 : decide (126 < x) = false := decide_eq_false h4
      have f4 : ¬ (126 : Int) < (x : Int) := by omega
      rw [e4]
      clear e3 h3 e4 h4
      go_enter Tryd.func44, Tryd.ntmps44
      go_wp2
      go_ret
      exact ⟨by simp, 0, rfl⟩
end Go.Proofs.YtlknclkkhincfaaDoor
