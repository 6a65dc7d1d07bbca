/-
  The walk of the program's New. No condition.
-/
import Derived.Test.YtihhadgkcdkemaaDoorPTake
namespace Go.Proofs.YtihhadgkcdkemaaDoor
open Go.RowKit Go.Maps
set_option linter.unusedVariables false
/-- what New leaves -/
def NewPost (w : World) (own : Nat → Nat × Nat) (e : Ending) (w' : World) : Prop :=
  ∃ own' pb, PSt w' own' pb [] ∧ Turn isP w w' own own' ∧ e = .returned (.pointer (some ⟨pb, 0, none⟩))
def newMark (w : World) (own : Nat → Nat × Nat) : Nat → Nat × Nat := fun k => if k < w.heap.size then own k else if k = w.heap.size then (1, 1) else (1, 0)
theorem new_st (w : World) (own : Nat → Nat × Nat) :
    PSt ((w.alloc (.map #[] 0)).alloc (.cells #[.map (some w.heap.size)] 44)) (newMark w own) (w.heap.size + 1) [] ∧ Turn isP w ((w.alloc (.map #[] 0)).alloc (.cells #[.map (some w.heap.size)] 44)) own (newMark w own) := by
  have hs : (w.alloc (.map #[] 0)).heap.size = w.heap.size + 1 := by simp
  have hB := Blk.new (w.alloc (.map #[] 0)) 44 #[.map (some w.heap.size)]
  rw [hs] at hB
  have hM := (World.ownsMap_made (H := Unit) w Tryd.prog 46 ptrElem).alloc (.cells #[.map (some w.heap.size)] 44)
  refine ⟨⟨w.heap.size, 0, _, [], hB, by unfold newMark; rw [if_neg (by omega), if_neg (by omega)], by simp [newMark], hM, rfl, rfl, ⟨List.Pairwise.nil, fun x hx => by cases hx⟩, fun f t _ _ => ⟨fun _ => rfl, fun i q h => by cases h⟩, fun i q x h => by simp at h⟩, Turn.of_below (((Below.refl _ _).alloc (Nat.le_refl _) _).alloc (by simp) _) fun k hk => if_pos hk⟩
set_option maxRecDepth 100000 in
theorem new_walk (w : World) (own : Nat → Nat × Nat) : Calls Tryd.prog 6 #[] w (NewPost w own) := by
  have hmm := @run_makeMap Tryd.prog
  go_enter Tryd.func6, Tryd.ntmps6
  go_wp2
  go_ret
  exact ⟨_, _, (new_st w own).1, (new_st w own).2, rfl⟩
end Go.Proofs.YtihhadgkcdkemaaDoor
