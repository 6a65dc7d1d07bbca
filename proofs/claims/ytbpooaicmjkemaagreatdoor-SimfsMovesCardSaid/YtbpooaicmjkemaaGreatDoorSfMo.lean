/-
  A rename survives whole or not at all. No program in sight. No condition.
-/
import Derived.Test.YtbpooaicmjkemaaGreatDoorSfAp
namespace Go.Proofs.YtbpooaicmjkemaaGreatDoor
set_option linter.unusedVariables false
def nmC (p q : Tx) (c : Ch) : Bool := namesC c p || namesC c q
theorem nm_no {p q : Tx} {c : Ch} (h : nmC p q c = false) : namesC c p = false ∧ namesC c q = false := Bool.or_eq_false_iff.1 h
theorem filter_nm {p q : Tx} {cs : List Ch} (h : cs.filter (nmC p q) = []) : ∀ c ∈ cs, namesC c p = false ∧ namesC c q = false := fun c hc => nm_no (by
  have := List.filter_eq_nil_iff.1 h c hc
  simpa using this)
theorem nm_split {p q : Tx} (x : List (Ch × Bool)) : ((selC x).filter (nmC p q) ++ (rstC x).filter (nmC p q)).Perm ((x.map (·.1)).filter (nmC p q)) := by
  rw [← List.filter_append]
  exact (sel_perm x).filter _
theorem nm_split0 {p q : Tx} {x : List (Ch × Bool)} (h : (x.map (·.1)).filter (nmC p q) = []) : (selC x).filter (nmC p q) = [] ∧ (rstC x).filter (nmC p q) = [] := by
  have := nm_split (p := p) (q := q) x
  rw [h] at this
  exact List.append_eq_nil_iff.1 this.eq_nil
theorem nm_split1 {p q : Tx} {x : List (Ch × Bool)} {R : Ch} (h : (x.map (·.1)).filter (nmC p q) = [R]) : ((selC x).filter (nmC p q) = [R] ∧ (rstC x).filter (nmC p q) = []) ∨ ((selC x).filter (nmC p q) = [] ∧ (rstC x).filter (nmC p q) = [R]) := by
  have := nm_split (p := p) (q := q) x
  rw [h] at this
  have := List.perm_singleton.1 this
  rcases List.append_eq_singleton_iff.1 this with ⟨h1, h2⟩ | ⟨h1, h2⟩
  · exact .inr ⟨h1, h2⟩
  · exact .inl ⟨h1, h2⟩
/-- a rename among others that do not name its paths -/
theorem one_move {p q : Tx} (hp : p ≠ []) (hq : q ≠ []) (hpq : p ≠ q) {n : Nat} : ∀ {cs : List Ch} {L : Es}, sortE L → (∀ c ∈ cs, OkC c) → cs.filter (nmC p q) = [⟨2, p, q, n⟩] → getE L p ≠ none → getE L q = none → getE (didAll L cs) p = none ∧ getE (didAll L cs) q ≠ none
  | [], L, _, _, h, _, _ => by cases h
  | c :: r, L, hs, ho, h, h1, h2 => by
    have hoc := ho c List.mem_cons_self
    have hor : ∀ x ∈ r, OkC x := fun x hx => ho x (List.mem_cons_of_mem _ hx)
    show getE (didAll (didE L c) r) p = none ∧ getE (didAll (didE L c) r) q ≠ none
    cases hn : nmC p q c with
    | false =>
      rw [List.filter_cons, if_neg (by rw [hn]; decide)] at h
      obtain ⟨n1, n2⟩ := nm_no hn
      exact one_move hp hq hpq (sort_didE hs c) hor h (by rw [getE_far hs hoc hp n1]; exact h1) (by rw [getE_far hs hoc hq n2]; exact h2)
    | true =>
      rw [List.filter_cons, if_pos hn] at h
      injection h with h3 h4
      have hf := filter_nm h4
      rw [far_all (sort_didE hs c) hor hp (fun x hx => (hf x hx).1), far_all (sort_didE hs c) hor hq (fun x hx => (hf x hx).2), getE_didE hs, getE_didE hs]
      subst h3
      simp only [Int.reduceEq, if_false]
      rw [if_neg h1, if_neg h1, if_neg hpq]
      simpa using h1
/-- ahead of the rename -/
structure Mo0 (p q : Tx) (d : Dk) : Prop where
  calm : Calm d
  np : getE d.now p ≠ none
  nq : getE d.now q = none
  lp : getE d.lasts p ≠ none
  lq : getE d.lasts q = none
  wt : d.waits.filter (nmC p q) = []
/-- behind it -/
structure Mo1 (p q : Tx) (d : Dk) : Prop where
  calm : Calm d
  st : ((∃ n, d.waits.filter (nmC p q) = [⟨2, p, q, n⟩]) ∧ getE d.lasts p ≠ none ∧ getE d.lasts q = none) ∨ (d.waits.filter (nmC p q) = [] ∧ getE d.lasts p = none ∧ getE d.lasts q ≠ none)
theorem nm_cs {p q : Tx} {cs : List Ch} (h : ∀ c ∈ cs, ∀ r, (r = p ∨ r = q) → namesC c r = false) : cs.filter (nmC p q) = [] := List.filter_eq_nil_iff.2 fun c hc => by
  unfold nmC
  rw [h c hc p (.inl rfl), h c hc q (.inr rfl)]
  decide
theorem Mo0.apart {p q : Tx} {d d' : Dk} {K : Nat} (h : Mo0 p q d) (hp : p ≠ []) (hq : q ≠ []) (hw : Wf d K) (hr : ApR (fun r => r = p ∨ r = q) d d') : Mo0 p q d' := by
  refine ⟨hr.calm, by rw [hr.now p (.inl rfl)]; exact h.np, by rw [hr.now q (.inr rfl)]; exact h.nq, ?_, ?_, ?_⟩
  · rcases hr.wait with ⟨e1, -⟩ | ⟨br, e1, e2, -⟩
    · rw [e1]; exact h.lp
    · have hf := filter_nm h.wt
      rw [e2, far_all hw.sl (fun x hx => hw.oc _ (List.of_mem_zip (sel_mem' hx)).1) hp (fun x hx => (hf _ (List.of_mem_zip (sel_mem' hx)).1).1)]
      exact h.lp
  · rcases hr.wait with ⟨e1, -⟩ | ⟨br, e1, e2, -⟩
    · rw [e1]; exact h.lq
    · have hf := filter_nm h.wt
      rw [e2, far_all hw.sl (fun x hx => hw.oc _ (List.of_mem_zip (sel_mem' hx)).1) hq (fun x hx => (hf _ (List.of_mem_zip (sel_mem' hx)).1).2)]
      exact h.lq
  · rcases hr.wait with ⟨-, cs, e1, e2⟩ | ⟨br, e1, -, e2⟩
    · rw [e1, List.filter_append, h.wt, nm_cs e2]; rfl
    · rw [e2]
      have em : (d.waits.zip br).map (·.1) = d.waits := by rw [List.map_fst_zip (by omega)]
      exact (nm_split0 (by rw [em]; exact h.wt)).2
theorem Mo1.apart {p q : Tx} {d d' : Dk} {K : Nat} (h : Mo1 p q d) (hp : p ≠ []) (hq : q ≠ []) (hpq : p ≠ q) (hw : Wf d K) (hr : ApR (fun r => r = p ∨ r = q) d d') : Mo1 p q d' := by
  refine ⟨hr.calm, ?_⟩
  rcases hr.wait with ⟨e1, cs, e2, e3⟩ | ⟨br, e1, e2, e3⟩
  · rw [e1, e2, List.filter_append, nm_cs e3, List.append_nil]
    exact h.st
  · have em : (d.waits.zip br).map (·.1) = d.waits := by rw [List.map_fst_zip (by omega)]
    have hos : ∀ c ∈ selC (d.waits.zip br), OkC c := fun x hx => hw.oc _ (List.of_mem_zip (sel_mem' hx)).1
    rw [e2, e3]
    rcases h.st with ⟨⟨n, h1⟩, h2, h3⟩ | ⟨h1, h2, h3⟩
    · rcases nm_split1 (x := d.waits.zip br) (by rw [em]; exact h1) with ⟨h4, h5⟩ | ⟨h4, h5⟩
      · obtain ⟨g1, g2⟩ := one_move hp hq hpq hw.sl hos h4 h2 h3
        exact .inr ⟨h5, g1, g2⟩
      · have hf := filter_nm h4
        refine .inl ⟨⟨n, h5⟩, ?_, ?_⟩
        · rw [far_all hw.sl hos hp fun x hx => (hf x hx).1]; exact h2
        · rw [far_all hw.sl hos hq fun x hx => (hf x hx).2]; exact h3
    · obtain ⟨h4, h5⟩ := nm_split0 (x := d.waits.zip br) (by rw [em]; exact h1)
      have hf := filter_nm h4
      refine .inr ⟨h5, ?_, ?_⟩
      · rw [far_all hw.sl hos hp fun x hx => (hf x hx).1]; exact h2
      · rw [far_all hw.sl hos hq fun x hx => (hf x hx).2]; exact h3
/-- the rename -/
theorem Mo0.move {p q : Tx} {d : Dk} {K : Nat} (h : Mo0 p q d) (hw : Wf d K) (hm : mayB d.dirs q = true) (hpq : p ≠ q) : (renameM d p q).2 = 0 ∧ Mo1 p q (renameM d p q).1 := by
  obtain ⟨e0, hc1⟩ := h.calm.step
  obtain ⟨s1, s2, s3, s4, s5, s6⟩ := step_same d
  have m0 : missM d p = 0 := by unfold missM; rw [if_neg (by rw [h.calm.1]; decide), if_neg h.np]
  have hpp : p ≠ [] := by
    cases hg : getE d.now p with
    | none => exact absurd hg h.np
    | some i => exact may_ne (hw.mn _ (getE_some hg))
  unfold renameM
  rw [if_neg (by rw [m0]; decide), if_neg (by rw [hm]; decide), if_neg (by rw [e0]; decide), if_neg hpq]
  refine ⟨rfl, hc1, .inl ⟨⟨0, ?_⟩, ?_, ?_⟩⟩
  · show ((stepM d).1.waits ++ [(⟨2, p, q, 0⟩ : Ch)]).filter (nmC p q) = _
    have hn : nmC p q ⟨2, p, q, 0⟩ = true := by unfold nmC; rw [Bool.or_eq_true]; exact .inl (namesC_iff.2 ⟨hpp, .inl rfl⟩)
    rw [s5, List.filter_append, h.wt, List.filter_cons, if_pos hn]; rfl
  · show getE (stepM d).1.lasts p ≠ none
    rw [s4]; exact h.lp
  · show getE (stepM d).1.lasts q = none
    rw [s4]; exact h.lq
/-- behind a crash there is one of both -/
theorem Mo1.crash {p q : Tx} {d : Dk} {K : Nat} (h : Mo1 p q d) (hp : p ≠ []) (hq : q ≠ []) (hpq : p ≠ q) (hw : Wf d K) (kc : List Bool) (kw : List Int) : (missM (crashM d kc kw) p == 0) ≠ (missM (crashM d kc kw) q == 0) := by
  have em : (d.waits.zip (survM d.waits kc)).map (·.1) = d.waits := by rw [List.map_fst_zip]; rw [survM, surv_len]; exact Nat.le_refl _
  have hos : ∀ c ∈ selC (d.waits.zip (survM d.waits kc)), OkC c := fun x hx => hw.oc _ (List.of_mem_zip (sel_mem' hx)).1
  have e : ∀ r, missM (crashM d kc kw) r = if getE (didAll d.lasts (selC (d.waits.zip (survM d.waits kc)))) r = none then 12 else 0 := fun r => by
    unfold missM
    rw [if_neg (by show ¬ false = true; decide)]
    rfl
  have fin : (getE (didAll d.lasts (selC (d.waits.zip (survM d.waits kc)))) p = none ∧ getE (didAll d.lasts (selC (d.waits.zip (survM d.waits kc)))) q ≠ none) ∨ (getE (didAll d.lasts (selC (d.waits.zip (survM d.waits kc)))) p ≠ none ∧ getE (didAll d.lasts (selC (d.waits.zip (survM d.waits kc)))) q = none) := by
    rcases h.st with ⟨⟨n, h1⟩, h2, h3⟩ | ⟨h1, h2, h3⟩
    · rcases nm_split1 (x := d.waits.zip (survM d.waits kc)) (by rw [em]; exact h1) with ⟨h4, h5⟩ | ⟨h4, h5⟩
      · exact .inl (one_move hp hq hpq hw.sl hos h4 h2 h3)
      · have hf := filter_nm h4
        refine .inr ⟨?_, ?_⟩
        · rw [far_all hw.sl hos hp fun x hx => (hf x hx).1]; exact h2
        · rw [far_all hw.sl hos hq fun x hx => (hf x hx).2]; exact h3
    · obtain ⟨h4, h5⟩ := nm_split0 (x := d.waits.zip (survM d.waits kc)) (by rw [em]; exact h1)
      have hf := filter_nm h4
      refine .inl ⟨?_, ?_⟩
      · rw [far_all hw.sl hos hp fun x hx => (hf x hx).1]; exact h2
      · rw [far_all hw.sl hos hq fun x hx => (hf x hx).2]; exact h3
  rw [e, e]
  rcases fin with ⟨h1, h2⟩ | ⟨h1, h2⟩
  · rw [if_pos h1, if_neg h2]; decide
  · rw [if_neg h1, if_pos h2]; decide
end Go.Proofs.YtbpooaicmjkemaaGreatDoor
