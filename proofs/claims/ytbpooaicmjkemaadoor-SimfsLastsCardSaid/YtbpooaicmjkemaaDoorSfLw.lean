/-
  Disks in the laws: what the laws' walks share. No condition.
-/
import Derived.Test.YtbpooaicmjkemaaDoorSfShow
import Derived.Test.YtbpooaicmjkemaaDoorSfAp
namespace Go.Proofs.YtbpooaicmjkemaaDoor
open Go.RowKit Go.Maps
set_option linter.unusedVariables false
theorem EntPost.below {z db : Nat} {w wb w' : World} {own : Nat → Nat × Nat} {d' : Dk} {e : Ending} (hb : Below w.heap.size w wb) (h : EntPost z wb (cutM w own) db d' e w') : EntPost z w own db d' e w' := by
  obtain ⟨own', h1, h2, h3⟩ := h
  exact ⟨own', h1, (Turn.of_below hb fun k hk => cutM_old hk).trans h2, h3⟩
theorem bs_neq {p q : Tx} (h : ¬ p = q) : ¬ (bs p).toList = (bs q).toList := bs_ne h
theorem does_dirs (d : Dk) (x : Dd) : (doesM d x).1.dirs = d.dirs := by
  obtain ⟨s1, -⟩ := step_same d
  have wr : ∀ (n : Nat) (v : Wr), (writeM d n v).1.dirs = d.dirs := fun n v => by
    unfold writeM
    split
    · exact s1
    · exact s1
  unfold doesM
  split
  · unfold createM
    repeat' split
    all_goals first | rfl | exact s1
  split
  · unfold appendM
    repeat' split
    all_goals first | rfl | exact wr _ _
  split
  · unfold writeAtM
    repeat' split
    all_goals first | rfl | exact wr _ _
  split
  · unfold syncM
    repeat' split
    all_goals first | rfl | exact s1
  split
  · unfold renameM
    repeat' split
    all_goals first | rfl | exact s1
  split
  · unfold unlinkM
    repeat' split
    all_goals first | rfl | exact s1
  split
  · unfold syncDirM
    repeat' split
    all_goals first | rfl | exact s1
  split
  · unfold failM
    repeat' split
    all_goals rfl
  split
  · unfold armM
    repeat' split
    all_goals rfl
  split <;> rfl
theorem LwI.mono {W w : World} {z db K K' : Nat} {own : Nat → Nat × Nat} {d : Dk} (h : LwI W z db w own d K) (hk : K ≤ K') : LwI W z db w own d K' := ⟨⟨h.dk.dk, h.dk.wf.mono hk, h.dk.sw.mono hk⟩, h.b, h.m⟩
/-- a deed of a row, in a later world -/
theorem RDs.get {w w' : World} {B : Nat} {A : Option Addr} {D : List Dd} (h : RDs w B A D) (hb : Below B w w') {i : Nat} {x : Dd} (hx : D[i]? = some x) : ∃ b off m, A = some ⟨b, off, none⟩ ∧ (∀ k v, (ddC x m)[k]? = some v → w'.cell? ⟨b, off + i * 8 + k, none⟩ = some v) ∧ DdR w' B x m := by
  rcases h with rfl | ⟨b, off, rfl, hlt, hc⟩
  · simp at hx
  · obtain ⟨m, h1, h2⟩ := hc i x hx
    exact ⟨b, off, m, rfl, fun k v hv => by rw [hb.cell (show b < B from hlt)]; exact h1 k v hv, h2.below hb⟩
theorem LwI.entG {W w w' : World} {z db K K' : Nat} {own : Nat → Nat × Nat} {d d' : Dk} (h : LwI W z db w own d K) {e : Ending} (hp : EntPost z w own db d' e w') (hw : Wf d' K') (hs : SwOk d' K') :
    ∃ own', LwI W z db w' own' d' K' ∧ e = .returned (.tuple #[]) := by
  obtain ⟨own', h1, h2, h3⟩ := hp
  exact ⟨own', h.turn h2 ⟨h1, hw, hs⟩, h3⟩
end Go.Proofs.YtbpooaicmjkemaaDoor
