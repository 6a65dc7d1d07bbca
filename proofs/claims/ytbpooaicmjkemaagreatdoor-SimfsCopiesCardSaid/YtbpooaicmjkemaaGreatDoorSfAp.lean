/-
  What deeds that do not name some paths leave of these. No program in sight. No condition.
-/
import Derived.Test.YtbpooaicmjkemaaGreatDoorRun10
namespace Go.Proofs.YtbpooaicmjkemaaGreatDoor
set_option linter.unusedVariables false
def Calm (d : Dk) : Prop := d.off = false ∧ d.arm = 0 ∧ d.fail = 0
theorem Calm.step {d : Dk} (h : Calm d) : (stepM d).2 = 0 ∧ Calm (stepM d).1 := by
  obtain ⟨h1, h2, h3⟩ := h
  unfold stepM
  rw [if_neg (by rw [h2]; decide), if_neg (by rw [h3]; decide)]
  exact ⟨rfl, h1, by simp only []; omega, by simp only []; omega⟩
theorem names_no {c : Ch} {p : Tx} (h : p ≠ [] → c.fr ≠ p ∧ c.tt ≠ p) : namesC c p = false := by
  cases hn : namesC c p with
  | false => rfl
  | true =>
    obtain ⟨h1, h2⟩ := namesC_iff.1 hn
    obtain ⟨h3, h4⟩ := h h1
    rcases h2 with h2 | h2
    · exact absurd h2 h3
    · exact absurd h2 h4
/-- changes that do not name a path leave it -/
theorem far_all : ∀ {L : Es} {cs : List Ch} {p : Tx}, sortE L → (∀ c ∈ cs, OkC c) → p ≠ [] → (∀ c ∈ cs, namesC c p = false) → getE (didAll L cs) p = getE L p
  | L, [], p, _, _, _, _ => rfl
  | L, c :: r, p, hs, ho, hp, hn => by
    show getE (didAll (didE L c) r) p = _
    rw [far_all (sort_didE hs c) (fun x hx => ho x (List.mem_cons_of_mem _ hx)) hp (fun x hx => hn x (List.mem_cons_of_mem _ hx)), getE_far hs (ho c List.mem_cons_self) hp (hn c List.mem_cons_self)]
/-- how a disk goes on by such a deed -/
structure ApR (S : Tx → Prop) (d d' : Dk) : Prop where
  calm : Calm d'
  now : ∀ p, S p → getE d'.now p = getE d.now p
  node : ∀ p n, S p → getE d.now p = some n → nodeM d' n = nodeM d n
  wait : (d'.lasts = d.lasts ∧ ∃ cs, d'.waits = d.waits ++ cs ∧ ∀ c ∈ cs, ∀ p, S p → namesC c p = false) ∨ ∃ br : List Bool, br.length = d.waits.length ∧ d'.lasts = didAll d.lasts (selC (d.waits.zip br)) ∧ d'.waits = rstC (d.waits.zip br)
theorem ApR.same {S : Tx → Prop} {d d' : Dk} (hc : Calm d') (h1 : d'.now = d.now) (h2 : d'.nodes = d.nodes) (h3 : d'.lasts = d.lasts) (h4 : d'.waits = d.waits) : ApR S d d' :=
  ⟨hc, fun p _ => by rw [h1], fun p n _ _ => by unfold nodeM; rw [h2], .inl ⟨h3, [], by rw [h4, List.append_nil], fun c hc => by cases hc⟩⟩
theorem ApR.enter {S : Tx → Prop} {d d1 : Dk} {c : Ch} {K : Nat} (hw : Wf d K) (hc : Calm d1) (h1 : d1.now = d.now) (h2 : ∀ n, n < d.nodes.length → nodeM d1 n = nodeM d n) (h3 : d1.lasts = d.lasts) (h4 : d1.waits = d.waits) (ho : OkC c) (hS : ∀ p, S p → p ≠ []) (hn : ∀ p, S p → namesC c p = false) : ApR S d (enterM d1 c) := by
  refine ⟨hc, fun p hp => ?_, fun p n hp hg => ?_, .inl ⟨h3, [c], ?_, fun x hx p hp => ?_⟩⟩
  · show getE (didE d1.now c) p = _
    rw [h1]
    exact getE_far hw.sn ho (hS p hp) (hn p hp)
  · exact h2 n (hw.iln _ (getE_some hg))
  · show d1.waits ++ [c] = _
    rw [h4]
  · obtain rfl := List.mem_singleton.1 hx
    exact hn p hp
theorem ApR.node_ {S : Tx → Prop} {d d1 d2 : Dk} {p0 : Tx} {K i : Nat} {x : Nd} (hw : Wf d K) (hc : Calm d2) (h1 : d2.now = d.now) (h2 : d2.nodes = d.nodes.set i x) (h3 : d2.lasts = d.lasts) (h4 : d2.waits = d.waits) (hg : getE d.now p0 = some i) (hp0 : ¬ S p0) : ApR S d d2 := by
  refine ⟨hc, fun p _ => by rw [h1], fun p n hp hn => ?_, .inl ⟨h3, [], by rw [h4, List.append_nil], fun c hc => by cases hc⟩⟩
  have hne : i ≠ n := fun e => by
    subst e
    have := hw.ijn _ _ _ (getE_some hg) (getE_some hn)
    rw [this] at hp0
    exact hp0 hp
  unfold nodeM
  rw [h2, List.getD_eq_getElem?_getD, List.getElem?_set_ne hne, ← List.getD_eq_getElem?_getD]
theorem apart_does {S : Tx → Prop} {d : Dk} {K : Nat} {x : Dd} (hS : ∀ p, S p → p ≠ []) (hw : Wf d K) (hc : Calm d) (hk : x.kind < 7) (hp : ¬ S x.path) (ht : ¬ S x.tt) : ApR S d (doesM d x).1 := by
  obtain ⟨e0, hc1⟩ := hc.step
  obtain ⟨s1, s2, s3, s4, s5, s6⟩ := step_same d
  have r0 : ApR S d d := .same hc rfl rfl rfl rfl
  have n1 : ∀ n, nodeM (stepM d).1 n = nodeM d n := fun n => by unfold nodeM; rw [s2]
  unfold doesM
  split
  · unfold createM
    split
    · exact r0
    · split
      · exact r0
      · rename_i hm
        have hm : mayB d.dirs x.path = true := by simpa using hm
        split
        · exact r0
        · split
          · exact r0
          · rw [if_neg (by rw [e0]; decide)]
            refine ApR.enter hw (show Calm { (stepM d).1 with nodes := d.nodes ++ [nd0] } from hc1) s3 (fun n hn => ?_) s4 s5 (.inl ⟨rfl, rfl, may_ne hm⟩) hS fun p hpS => names_no fun hne => ⟨fun e => hne e.symm, fun e => hp (by rw [show x.path = p from e]; exact hpS)⟩
            unfold nodeM
            show (d.nodes ++ [nd0]).getD n nd0 = _
            rw [List.getD_eq_getElem?_getD, List.getElem?_append_left hn, ← List.getD_eq_getElem?_getD]
  have wr : ∀ w : Wr, missM d x.path = 0 → ApR S d (writeM d (fileM d x.path) w).1 := fun w hm => by
    unfold writeM
    rw [if_neg (by rw [e0]; decide)]
    exact ApR.node_ (d1 := d) (i := fileM d x.path) hw (show Calm (wroteM (stepM d).1 _ _) from hc1) s3 (by unfold wroteM; simp only []; rw [s2]) s4 s5 (miss_some hm).2 hp
  split
  · unfold appendM
    split
    · exact r0
    · rename_i hm
      split
      · exact r0
      · exact wr _ (by simpa using hm)
  split
  · unfold writeAtM
    split
    · exact r0
    · rename_i hm
      split
      · exact r0
      · exact wr _ (by simpa using hm)
  split
  · unfold syncM
    split
    · exact r0
    · rename_i hm
      rw [if_neg (by rw [e0]; decide)]
      exact ApR.node_ (d1 := d) (i := fileM d x.path) hw (show Calm (syncedM (stepM d).1 _) from hc1) s3 (by unfold syncedM; simp only []; rw [s2]) s4 s5 (miss_some (by simpa using hm)).2 hp
  split
  · unfold renameM
    split
    · exact r0
    · rename_i hm
      have hg := (miss_some (show missM d x.path = 0 by simpa using hm)).2
      have hpp := hw.mn _ (getE_some hg)
      split
      · exact r0
      · rename_i hq
        have hq : mayB d.dirs x.tt = true := by simpa using hq
        rw [if_neg (by rw [e0]; decide)]
        split
        · exact .same hc1 s3 s2 s4 s5
        · rename_i hne
          exact ApR.enter hw hc1 s3 (fun n _ => n1 n) s4 s5 (.inr (.inl ⟨rfl, may_ne hpp, may_ne hq, hne⟩)) hS fun p hpS => names_no fun _ => ⟨fun e => hp (by rw [show x.path = p from e]; exact hpS), fun e => ht (by rw [show x.tt = p from e]; exact hpS)⟩
  split
  · unfold unlinkM
    split
    · exact r0
    · rename_i hm
      have hg := (miss_some (show missM d x.path = 0 by simpa using hm)).2
      have hpp := hw.mn _ (getE_some hg)
      rw [if_neg (by rw [e0]; decide)]
      exact ApR.enter hw hc1 s3 (fun n _ => n1 n) s4 s5 (.inr (.inr ⟨rfl, may_ne hpp, rfl⟩)) hS fun p hpS => names_no fun hne => ⟨fun e => hp (by rw [show x.path = p from e]; exact hpS), fun e => hne e.symm⟩
  split
  · unfold syncDirM
    split
    · exact r0
    · split
      · exact r0
      · rw [if_neg (by rw [e0]; decide)]
        refine ⟨hc1, fun p _ => ?_, fun p n _ _ => n1 n, .inr ⟨broughtM x.tt d.waits, brought_len _ _, ?_, ?_⟩⟩
        · show getE (stepM d).1.now p = _
          rw [s3]
        · show didAll (stepM d).1.lasts (selC ((stepM d).1.waits.zip (broughtM x.tt d.waits))) = _
          rw [s4, s5]
        · show rstC ((stepM d).1.waits.zip (broughtM x.tt d.waits)) = _
          rw [s5]
  rw [if_neg (by omega), if_neg (by omega), if_neg (by omega)]
  exact r0
/-! ### SimfsLasts -/
/-- a file that lasts, whatever comes -/
structure LaI (p : Tx) (c : Tx) (d : Dk) : Prop where
  calm : Calm d
  ex : ∃ n, getE d.now p = some n ∧ getE d.lasts p = some n ∧ nodeM d n = ⟨c, c, []⟩
  wait : ∀ x ∈ d.waits, namesC x p = false
theorem rst_mem {x : List (Ch × Bool)} {c : Ch} (h : c ∈ rstC x) : (c, false) ∈ x := by
  unfold rstC at h
  obtain ⟨z, hz, rfl⟩ := List.mem_map.1 h
  obtain ⟨h1, h2⟩ := List.mem_filter.1 hz
  have : z.2 = false := by simpa using h2
  rw [← this]
  exact h1
theorem sel_mem' {x : List (Ch × Bool)} {c : Ch} (h : c ∈ selC x) : (c, true) ∈ x := by
  unfold selC at h
  obtain ⟨z, hz, rfl⟩ := List.mem_map.1 h
  obtain ⟨h1, h2⟩ := List.mem_filter.1 hz
  rw [← h2]
  exact h1
theorem LaI.apart {p c : Tx} {d d' : Dk} {K : Nat} (h : LaI p c d) (hp : p ≠ []) (hw : Wf d K) (hr : ApR (· = p) d d') : LaI p c d' := by
  obtain ⟨n, h1, h2, h3⟩ := h.ex
  refine ⟨hr.calm, ⟨n, (hr.now p rfl).trans h1, ?_, (hr.node p n rfl h1).trans h3⟩, ?_⟩
  · rcases hr.wait with ⟨e1, -⟩ | ⟨br, e1, e2, -⟩
    · rw [e1]; exact h2
    · rw [e2, far_all hw.sl (fun x hx => hw.oc _ (List.of_mem_zip (sel_mem' hx)).1) hp (fun x hx => h.wait _ (List.of_mem_zip (sel_mem' hx)).1)]
      exact h2
  · rcases hr.wait with ⟨-, cs, e1, e2⟩ | ⟨br, e1, -, e2⟩
    · rw [e1]
      intro x hx
      rcases List.mem_append.1 hx with hx | hx
      · exact h.wait x hx
      · exact e2 x hx p rfl
    · rw [e2]
      exact fun x hx => h.wait x (List.of_mem_zip (rst_mem hx)).1
theorem keepN_none {x : Nd} (n : Int) (h : x.waits = []) : (keepN x n).now = x.lasts := by
  unfold keepN
  rw [h]; rfl
theorem keptM_get : ∀ (xs : List Nd) (ks : List Int) (n : Nat) (x : Nd), xs[n]? = some x → ∃ k, (keptM xs ks)[n]? = some (keepN x k)
  | [], _, n, x, h => by simp at h
  | y :: r, ks, n, x, h => by
    unfold keptM
    cases n with
    | zero =>
      obtain rfl : y = x := by simpa using h
      split
      · exact ⟨_, rfl⟩
      · exact ⟨_, rfl⟩
    | succ n =>
      have h : r[n]? = some x := by simpa using h
      split
      · simpa using keptM_get r ks n x h
      · simpa using keptM_get r ks.tail n x h
/-- behind a crash it is there -/
theorem LaI.crash {p c : Tx} {d : Dk} {K : Nat} (h : LaI p c d) (hp : p ≠ []) (hw : Wf d K) (kc : List Bool) (kw : List Int) : missM (crashM d kc kw) p = 0 ∧ (nodeM (crashM d kc kw) (fileM (crashM d kc kw) p)).now = c := by
  obtain ⟨n, h1, h2, h3⟩ := h.ex
  have e : getE (crashM d kc kw).now p = some n := by
    show getE (didAll d.lasts (selC (d.waits.zip (survM d.waits kc)))) p = _
    rw [far_all hw.sl (fun x hx => hw.oc _ (List.of_mem_zip (sel_mem' hx)).1) hp (fun x hx => h.wait _ (List.of_mem_zip (sel_mem' hx)).1)]
    exact h2
  have hn := hw.iln _ (getE_some h1)
  have hx : d.nodes[n]? = some ⟨c, c, []⟩ := by
    rw [List.getElem?_eq_getElem hn]
    have : nodeM d n = d.nodes[n] := by unfold nodeM; rw [List.getD_eq_getElem?_getD, List.getElem?_eq_getElem hn]; rfl
    rw [← this, h3]
  obtain ⟨k, hk⟩ := keptM_get d.nodes kw n _ hx
  constructor
  · unfold missM
    rw [if_neg (by show ¬ false = true; decide), e]
    rfl
  · have ef : fileM (crashM d kc kw) p = n := by unfold fileM; rw [e]; rfl
    rw [ef]
    have : nodeM (crashM d kc kw) n = keepN ⟨c, c, []⟩ k := by
      unfold nodeM
      show (keptM d.nodes kw).getD n nd0 = _
      rw [List.getD_eq_getElem?_getD, hk]; rfl
    rw [this, keepN_none k rfl]
theorem rst_within (dir : Tx) : ∀ (cs : List Ch) (c : Ch), c ∈ rstC (cs.zip (broughtM dir cs)) → withinC c dir = false
  | [], c, h => by cases h
  | x :: r, c, h => by
    have h := rst_mem h
    have e : (x :: r).zip (broughtM dir (x :: r)) = (x, withinC x dir || (r.zip (broughtM dir r)).any fun y => y.2 && shareC x y.1) :: r.zip (broughtM dir r) := rfl
    rw [e] at h
    rcases List.mem_cons.1 h with h | h
    · injection h with h1 h2
      rw [h1]
      exact (Bool.or_eq_false_iff.1 h2.symm).1
    · refine rst_within dir r c ?_
      unfold rstC
      exact List.mem_map.2 ⟨(c, false), List.mem_filter.2 ⟨h, rfl⟩, rfl⟩
/-- the five deeds by which a file lasts -/
theorem lasts_begin {p dir c : Tx} {d : Dk} {K : Nat} (hw : Wf d K) (hc : Calm d) (hm : mayB d.dirs p = true) (hdir : dirOf p = dir) (hd : d.dirs.contains dir = true)
    (d1 d2 d3 d4 d5 : Dk) (f g h i : Int) (e1 : (unlinkM d p).1 = d1) (e2 : createM d1 p = (d2, f)) (e3 : appendM d2 p c = (d3, g)) (e4 : syncM d3 p = (d4, h)) (e5 : syncDirM d4 dir = (d5, i)) :
    (f = 0 ∧ g = 0 → h = 0 ∧ i = 0 ∧ LaI p c d5) ∧ (f = 0 ∧ g ≠ 0 → g = 15) ∧ (f ≠ 0 → f = 14) := by
  have hpn := may_ne hm
  obtain ⟨s0, hc0⟩ := hc.step
  obtain ⟨s1, s2, s3, s4, s5, s6⟩ := step_same d
  have a1 : Calm d1 ∧ getE d1.now p = none ∧ d1.dirs = d.dirs ∧ Wf d1 (K + 1) := by
    have hw1 := hw.does ⟨5, p, [], [], 0, 0, [], []⟩
    unfold doesM at hw1
    simp only [Int.reduceEq, if_false, if_true] at hw1
    rw [e1] at hw1
    unfold unlinkM at e1
    split at e1
    · rename_i hm2
      subst e1
      refine ⟨hc, ?_, rfl, hw1⟩
      unfold missM at hm2
      rw [if_neg (by rw [hc.1]; decide)] at hm2
      split at hm2
      · rename_i h0; exact h0
      · exact absurd rfl hm2
    · rw [if_neg (by rw [s0]; decide)] at e1
      subst e1
      refine ⟨hc0, ?_, s1, hw1⟩
      show getE (didE (stepM d).1.now ⟨3, p, [], 0⟩) p = none
      rw [s3, getE_didE hw.sn]
      simp
  obtain ⟨c1, g1, dd1, w1⟩ := a1
  obtain ⟨t0, hc1⟩ := c1.step
  obtain ⟨t1, t2, t3, t4, t5, t6⟩ := step_same d1
  have hw2 := w1.does ⟨0, p, [], [], 0, 0, [], []⟩
  unfold doesM at hw2
  simp only [if_true] at hw2
  rw [e2] at hw2
  unfold createM at e2
  rw [if_neg (by rw [c1.1]; decide), if_neg (by rw [dd1, hm]; decide), if_neg (by rw [g1]; simp)] at e2
  split at e2
  · injection e2 with e2 e2'
    subst e2'
    exact ⟨fun h => absurd h.1 (by decide), fun h => absurd h.1 (by decide), fun _ => rfl⟩
  · rw [if_neg (by rw [t0]; decide)] at e2
    injection e2 with e2 e2'
    subst e2'
    have c2 : Calm d2 := by rw [← e2]; exact hc1
    have n2 : getE d2.now p = some d1.nodes.length := by
      rw [← e2]
      show getE (didE (stepM d1).1.now ⟨1, [], p, d1.nodes.length⟩) p = _
      rw [t3, getE_didE w1.sn]
      simp
    have k2 : nodeM d2 d1.nodes.length = nd0 ∧ d1.nodes.length < d2.nodes.length := by
      rw [← e2]
      constructor
      · unfold nodeM
        show (d1.nodes ++ [nd0]).getD d1.nodes.length nd0 = nd0
        rw [List.getD_eq_getElem?_getD, List.getElem?_append_right (Nat.le_refl _), Nat.sub_self]; rfl
      · show d1.nodes.length < (d1.nodes ++ [nd0]).length
        rw [List.length_append]; simp
    have dd2 : d2.dirs = d.dirs := by rw [← e2]; exact t1.trans dd1
    generalize d1.nodes.length = N at n2 k2
    have m2 : missM d2 p = 0 := by unfold missM; rw [if_neg (by rw [c2.1]; decide), n2]; rfl
    have f2 : fileM d2 p = N := by unfold fileM; rw [n2]; rfl
    have hw3 := hw2.does ⟨1, p, [], c, 0, 0, [], []⟩
    unfold doesM at hw3
    simp only [Int.reduceEq, if_false, if_true] at hw3
    rw [e3] at hw3
    unfold appendM at e3
    rw [if_neg (by rw [m2]; decide), f2] at e3
    split at e3
    · injection e3 with e3 e3'
      subst e3'
      exact ⟨fun h => absurd h.2 (by decide), fun _ => rfl, fun h => absurd rfl h⟩
    · unfold writeM at e3
      obtain ⟨u0, hc2⟩ := c2.step
      obtain ⟨u1, u2, u3, u4, u5, u6⟩ := step_same d2
      rw [if_neg (by rw [u0]; decide)] at e3
      injection e3 with e3 e3'
      subst e3'
      refine ⟨fun _ => ?_, fun h => absurd rfl h.2, fun h => absurd rfl h⟩
      have c3 : Calm d3 := by rw [← e3]; exact hc2
      have n3 : getE d3.now p = some N := by rw [← e3]; show getE (stepM d2).1.now p = _; rw [u3]; exact n2
      have k3 : (nodeM d3 N).now = c ∧ N < d3.nodes.length := by
        rw [← e3]
        have k0 : nodeM (stepM d2).1 N = nd0 := by unfold nodeM; rw [u2]; exact k2.1
        constructor
        · unfold nodeM wroteM
          simp only []
          rw [List.getD_eq_getElem?_getD, List.getElem?_set_self (by rw [u2]; exact k2.2), k0]
          rfl
        · unfold wroteM
          simp only []
          rw [List.length_set, u2]; exact k2.2
      have dd3 : d3.dirs = d.dirs := by rw [← e3]; exact u1.trans dd2
      have m3 : missM d3 p = 0 := by unfold missM; rw [if_neg (by rw [c3.1]; decide), n3]; rfl
      have f3 : fileM d3 p = N := by unfold fileM; rw [n3]; rfl
      have hw4 := hw3.does ⟨3, p, [], [], 0, 0, [], []⟩
      unfold doesM at hw4
      simp only [Int.reduceEq, if_false, if_true] at hw4
      rw [e4] at hw4
      obtain ⟨v0, hc3⟩ := c3.step
      obtain ⟨v1, v2, v3, v4, v5, v6⟩ := step_same d3
      unfold syncM at e4
      rw [if_neg (by rw [m3]; decide), if_neg (by rw [v0]; decide), f3] at e4
      injection e4 with e4 e4'
      subst e4'
      have c4 : Calm d4 := by rw [← e4]; exact hc3
      have n4 : getE d4.now p = some N := by rw [← e4]; show getE (stepM d3).1.now p = _; rw [v3]; exact n3
      have k4 : nodeM d4 N = ⟨c, c, []⟩ := by
        rw [← e4]
        unfold nodeM syncedM
        simp only []
        have k0 : (nodeM (stepM d3).1 N).now = c := by unfold nodeM; rw [v2]; exact k3.1
        rw [List.getD_eq_getElem?_getD, List.getElem?_set_self (by rw [v2]; exact k3.2), k0]
        rfl
      have dd4 : d4.dirs = d.dirs := by rw [← e4]; exact v1.trans dd3
      have hw5 := hw4.does ⟨6, [], dir, [], 0, 0, [], []⟩
      unfold doesM at hw5
      simp only [Int.reduceEq, if_false, if_true] at hw5
      rw [e5] at hw5
      obtain ⟨x0, hc4⟩ := c4.step
      obtain ⟨x1, x2, x3, x4, x5, x6⟩ := step_same d4
      unfold syncDirM at e5
      rw [if_neg (by rw [c4.1]; decide), if_neg (by rw [dd4, hd]; decide), if_neg (by rw [x0]; decide)] at e5
      injection e5 with e5 e5'
      subst e5'
      refine ⟨rfl, rfl, ?_⟩
      have n5 : getE d5.now p = some N := by rw [← e5]; show getE (stepM d4).1.now p = _; rw [x3]; exact n4
      have hno : ∀ x ∈ d5.waits, namesC x p = false := by
        rw [← e5]
        intro x hx
        have hx : x ∈ rstC ((stepM d4).1.waits.zip (broughtM dir d4.waits)) := hx
        rw [x5] at hx
        have hn := rst_within dir _ x hx
        unfold withinC at hn
        rw [Bool.or_eq_false_iff, decide_eq_false_iff_not, decide_eq_false_iff_not] at hn
        exact names_no fun _ => ⟨fun e => hn.1 (by rw [e]; exact hdir), fun e => hn.2 (by rw [e]; exact hdir)⟩
      refine ⟨by rw [← e5]; exact hc4, ⟨N, n5, ?_, ?_⟩, hno⟩
      · have := far_all hw5.sl hw5.oc hpn hno
        rw [← this, hw5.eq]; exact n5
      · rw [← e5]
        show nodeM (stepM d4).1 N = _
        unfold nodeM
        rw [x2]; exact k4
end Go.Proofs.YtbpooaicmjkemaaGreatDoor
