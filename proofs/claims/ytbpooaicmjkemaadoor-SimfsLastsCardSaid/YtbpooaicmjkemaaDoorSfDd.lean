/-
  Deeds as records, what each leaves, and that what holds of a disk goes on holding. No program in sight. No condition.
-/
import Derived.Test.YtbpooaicmjkemaaDoorSfWf
namespace Go.Proofs.YtbpooaicmjkemaaDoor
set_option linter.unusedVariables false
structure Dd where
  kind : Int
  path : Tx
  tt : Tx
  b : Tx
  n : Int
  e : Int
  kc : List Bool
  kw : List Int
def doesM (d : Dk) (x : Dd) : Dk × Int :=
  if x.kind = 0 then createM d x.path
  else if x.kind = 1 then appendM d x.path x.b
  else if x.kind = 2 then writeAtM d x.path x.n x.b
  else if x.kind = 3 then syncM d x.path
  else if x.kind = 4 then renameM d x.path x.tt
  else if x.kind = 5 then unlinkM d x.path
  else if x.kind = 6 then syncDirM d x.tt
  else if x.kind = 7 then failM d x.n x.e
  else if x.kind = 8 then armM d x.n
  else if x.kind = 9 then (crashM d x.kc x.kw, 0)
  else (d, 0)
/-! ### what holds goes on -/
theorem node_le_used {nodes : List Nd} : ∀ {L : Es} {p : Tx} {i : Nat}, (p, i) ∈ L → (nodes.getD i nd0).now.length ≤ usedL nodes L
  | [], _, _, h => by cases h
  | e :: r, p, i, h => by
    unfold usedL
    simp only [List.map_cons, List.sum_cons]
    rcases List.mem_cons.1 h with h | h
    · rw [← h]; simp only []; omega
    · have := node_le_used (nodes := nodes) h
      unfold usedL at this
      omega
theorem miss_some {d : Dk} {p : Tx} (h : missM d p = 0) : d.off = false ∧ getE d.now p = some (fileM d p) := by
  unfold missM at h
  split at h
  · cases h
  · split at h
    · cases h
    · rename_i h1 h2
      refine ⟨by simpa using h1, ?_⟩
      unfold fileM
      cases hg : getE d.now p with
      | none => exact absurd hg h2
      | some i => rfl
theorem Wf.wq {d : Dk} {K : Nat} (h : Wf d K) (n : Nat) {w : Wr} (hf : FitW (nodeM d n).now w) (hl : (laid (nodeM d n).now w).length ≤ 67108864) : Wf (writeM d n w).1 (K + 1) := by
  unfold writeM
  split
  · exact h.step.mono (Nat.le_succ _)
  · have e : nodeM (stepM d).1 n = nodeM d n := by unfold nodeM; rw [(step_same d).2.1]
    exact h.step.wrote n (by rw [e]; exact hf) (by rw [e]; exact hl)
theorem Wf.does {d : Dk} {K : Nat} (h : Wf d K) (x : Dd) : Wf (doesM d x).1 (K + 1) := by
  have h0 := h.mono (Nat.le_succ K)
  have hst := h.step.mono (Nat.le_succ K)
  obtain ⟨s1, s2, s3, s4, s5, s6⟩ := step_same d
  unfold doesM
  split
  · unfold createM
    split
    · exact h0
    · split
      · exact h0
      · rename_i hm
        split
        · exact h0
        · split
          · exact h0
          · split
            · exact hst
            · have := h.step.create (p := x.path) (by rw [s1]; simpa using hm)
              rw [s2] at this
              exact this
  split
  · unfold appendM
    split
    · exact h0
    · rename_i hm
      have hm : missM d x.path = 0 := by simpa using hm
      split
      · exact h0
      · rename_i hq
        have h1 := node_le_used (nodes := d.nodes) (getE_some (miss_some hm).2)
        have h2 := h.q2
        refine h.wq _ (.inl rfl) ?_
        rw [laid_len (.inl rfl), if_pos (show ((-1 : Int) < 0) by decide)]
        have h3 : (nodeM d (fileM d x.path)).now.length ≤ usedM d := h1
        show (nodeM d (fileM d x.path)).now.length + x.b.length ≤ _
        omega
  split
  · unfold writeAtM
    split
    · exact h0
    · split
      · exact h0
      · rename_i hq
        have hf : FitW (nodeM d (fileM d x.path)).now ⟨x.n, x.b⟩ := .inr ⟨by show 0 ≤ x.n; omega, by show x.n.toNat + x.b.length ≤ _; omega⟩
        refine h.wq _ hf ?_
        rw [laid_len hf, if_neg (by show ¬ x.n < 0; omega)]
        exact (h.node _).ln
  split
  · unfold syncM
    split
    · exact h0
    · split
      · exact hst
      · exact h.step.synced _
  split
  · unfold renameM
    split
    · exact h0
    · rename_i hm
      have hm : missM d x.path = 0 := by simpa using hm
      have hg := (miss_some hm).2
      have hp := h.mn _ (getE_some hg)
      split
      · exact h0
      · rename_i hq
        have hq : mayB d.dirs x.tt = true := by simpa using hq
        split
        · exact hst
        · split
          · exact hst
          · rename_i hne
            refine h.step.enter (c := ⟨2, x.path, x.tt, 0⟩) (.inr (.inl ⟨rfl, may_ne hp, may_ne hq, hne⟩)) ⟨fun _ => by rw [s1]; exact hp, fun _ => by rw [s1]; exact hq⟩ (by show (2 : Int) ≠ 1; decide) (fun _ => by rw [s3, hg]; exact fun h => by cases h)
  split
  · unfold unlinkM
    split
    · exact h0
    · rename_i hm
      have hm : missM d x.path = 0 := by simpa using hm
      have hp := h.mn _ (getE_some (miss_some hm).2)
      split
      · exact hst
      · exact h.step.enter (c := ⟨3, x.path, [], 0⟩) (.inr (.inr ⟨rfl, may_ne hp, rfl⟩)) ⟨fun _ => by rw [s1]; exact hp, fun e => absurd rfl e⟩ (by show (3 : Int) ≠ 1; decide) (fun k => by cases k)
  split
  · unfold syncDirM
    split
    · exact h0
    · split
      · exact h0
      · split
        · exact hst
        · rw [← s5]
          exact (h.step.last (brought_len _ _) (brought_closed _ _)).mono (Nat.le_succ _)
  split
  · unfold failM
    split
    · exact h0
    · split
      · exact h0
      · exact ⟨h0.q1, h0.q2, h0.dn, h0.ds, h0.dl, h0.sl, h0.ml, h0.oc, h0.mw, h0.va, h0.eq, h0.ij, h0.fr, h0.il, h0.iw, h0.cp, h0.nd, h0.nk, h0.wk⟩
  split
  · unfold armM
    split
    · exact h0
    · split
      · exact h0
      · exact ⟨h0.q1, h0.q2, h0.dn, h0.ds, h0.dl, h0.sl, h0.ml, h0.oc, h0.mw, h0.va, h0.eq, h0.ij, h0.fr, h0.il, h0.iw, h0.cp, h0.nd, h0.nk, h0.wk⟩
  split
  · exact h0.crash _ _
  · exact h0
end Go.Proofs.YtbpooaicmjkemaaDoor
