/-
  What holds of a disk at each moment. No program in sight. No condition.
-/
import Derived.Test.YtbpooaicmjkemaaGreatDoorRun1
namespace Go.Proofs.YtbpooaicmjkemaaGreatDoor
set_option linter.unusedVariables false
/-- a write that fits -/
def FitW (l : Tx) (w : Wr) : Prop := w.at_ = -1 ∨ (0 ≤ w.at_ ∧ w.at_.toNat + w.b.length ≤ l.length)
/-- writes, one behind the other, and what they leave -/
def ChainW : Tx → List Wr → Tx → Prop
  | l, [], m => l = m
  | l, w :: r, m => FitW l w ∧ ChainW (laid l w) r m
structure NdOk (x : Nd) (K : Nat) : Prop where
  ch : ChainW x.lasts x.waits x.now
  ln : x.now.length ≤ 67108864
  lw : x.waits.length ≤ K
  lb : ∀ w ∈ x.waits, w.b.length ≤ 67108864
theorem laid_len {l : Tx} {w : Wr} (h : FitW l w) : (laid l w).length = l.length + (if w.at_ < 0 then w.b.length else 0) := by
  unfold laid
  rcases h with h | ⟨h1, h2⟩
  · rw [if_pos (by omega), if_pos (by omega), List.length_append]
  · rw [if_neg (by omega), if_neg (by omega)]
    simp only [List.length_append, List.length_take, List.length_drop]
    omega
theorem ChainW.snoc : ∀ {l m : Tx} {ws : List Wr} {w : Wr}, ChainW l ws m → FitW m w → ChainW l (ws ++ [w]) (laid m w)
  | l, m, [], w, h, hf => by obtain rfl : l = m := h; exact ⟨hf, rfl⟩
  | l, m, x :: r, w, h, hf => ⟨h.1, h.2.snoc hf⟩
theorem ChainW.len : ∀ {l m : Tx} {ws : List Wr}, ChainW l ws m → l.length ≤ m.length
  | l, m, [], h => by obtain rfl : l = m := h; omega
  | l, m, x :: r, h => by have := h.2.len; rw [laid_len h.1] at this; omega
theorem NdOk.ll {x : Nd} {K : Nat} (h : NdOk x K) : x.lasts.length ≤ 67108864 := Nat.le_trans h.ch.len h.ln
theorem NdOk.mono {x : Nd} {K K' : Nat} (h : NdOk x K) (hk : K ≤ K') : NdOk x K' := ⟨h.ch, h.ln, Nat.le_trans h.lw hk, h.lb⟩
theorem nd0_ok (K : Nat) : NdOk nd0 K := ⟨rfl, by simp [nd0], by simp [nd0], by simp [nd0]⟩
def crN (cs : List Ch) : Nat := (cs.filter fun c => decide (c.kind = 1)).length
/-- each file has one path at most -/
def InjE (L : Es) : Prop := ∀ p q n, (p, n) ∈ L → (q, n) ∈ L → p = q
/-- what is made is not there, and is made once -/
def FrC (L : Es) (cs : List Ch) : Prop := (∀ c ∈ cs, c.kind = 1 → ∀ p, (p, c.node) ∉ L) ∧ cs.Pairwise fun a b => a.kind = 1 → b.kind = 1 → a.node ≠ b.node
structure Wf (d : Dk) (K : Nat) : Prop where
  q1 : 1 ≤ d.quota
  q2 : d.quota ≤ 67108864
  dn : ∀ x ∈ d.dirs, nameB x = true
  ds : d.dirs.Pairwise (· < ·)
  dl : d.dirs.length ≤ 16
  sl : sortE d.lasts
  ml : ∀ e ∈ d.lasts, mayB d.dirs e.1 = true
  oc : ∀ c ∈ d.waits, OkC c
  mw : ∀ c ∈ d.waits, (c.fr ≠ [] → mayB d.dirs c.fr = true) ∧ (c.tt ≠ [] → mayB d.dirs c.tt = true)
  va : ValidC d.lasts d.waits
  eq : didAll d.lasts d.waits = d.now
  ij : InjE d.lasts
  fr : FrC d.lasts d.waits
  il : ∀ e ∈ d.lasts, e.2 < d.nodes.length
  iw : ∀ c ∈ d.waits, c.kind = 1 → c.node < d.nodes.length
  cp : d.lasts.length + crN d.waits ≤ d.nodes.length
  nd : ∀ x ∈ d.nodes, NdOk x K
  nk : d.nodes.length ≤ K
  wk : d.waits.length ≤ K
/-! ### names and paths -/
theorem name_size {s : Tx} (h : nameB s = true) : 1 ≤ s.length ∧ s.length ≤ 32 := by
  unfold nameB at h
  simp only [Bool.and_eq_true, decide_eq_true_eq] at h
  exact h.1
theorem name_noslash {s : Tx} (h : nameB s = true) : 47 ∉ s := by
  unfold nameB at h
  simp only [Bool.and_eq_true, List.all_eq_true] at h
  intro hm
  have := h.2 47 hm
  revert this
  decide
theorem slash_lt {p : Tx} (h : hasSlash p = true) : slash p < p.length := by
  unfold hasSlash at h
  unfold slash
  rw [List.findIdx_lt_length]
  exact ⟨47, by simpa using h, by decide⟩
theorem slash_at {p : Tx} (h : hasSlash p = true) : p = dirOf p ++ 47 :: nameOf p := by
  have hl := slash_lt h
  unfold dirOf nameOf
  rw [if_pos h, if_pos h]
  have h1 : p.drop (slash p) = 47 :: p.drop (slash p + 1) := by
    rw [List.drop_eq_getElem_cons hl]
    congr 1
    have h47 := List.findIdx_getElem (xs := p) (p := (· == 47)) (w := hl)
    exact beq_iff_eq.1 h47
  rw [← h1, List.take_append_drop]
theorem dirOf_noslash {p : Tx} : 47 ∉ dirOf p := by
  unfold dirOf
  split
  · rename_i h
    intro hm
    obtain ⟨i, hi, e⟩ := List.mem_iff_getElem.1 hm
    rw [List.length_take] at hi
    have := List.not_of_lt_findIdx (xs := p) (p := (· == 47)) (i := i) (by unfold slash at hi; omega)
    rw [List.getElem_take] at e
    simp [e] at this
  · simp
theorem may_slash {dirs : List Tx} {p : Tx} (h : mayB dirs p = true) : hasSlash p = true := by
  unfold mayB nameOf at h
  cases hs : hasSlash p with
  | true => rfl
  | false =>
    rw [hs] at h
    simp [nameB] at h
theorem may_ne {dirs : List Tx} {p : Tx} (h : mayB dirs p = true) : p ≠ [] := by
  rintro rfl
  have := may_slash h
  simp [hasSlash] at this
theorem may_size {dirs : List Tx} {p : Tx} (hd : ∀ x ∈ dirs, nameB x = true) (h : mayB dirs p = true) : p.length ≤ 65 := by
  have hs := slash_at (may_slash h)
  unfold mayB at h
  rw [Bool.and_eq_true] at h
  have h1 := (name_size (hd (dirOf p) (by simpa using h.1))).2
  have h2 := (name_size h.2).2
  have := congrArg List.length hs
  simp at this
  omega
/-! ### entries: their number, their files -/
theorem len_putE_le (L : Es) (p : Tx) (n : Nat) : (putE L p n).length ≤ L.length + 1 := by
  have h : ∀ L : Es, (L.filter fun e => decide (e.1 < p)).length + (L.filter fun e => decide (p < e.1)).length ≤ L.length := fun L => by
    induction L with
    | nil => simp
    | cons e r ih =>
      simp only [List.filter_cons, List.length_cons]
      by_cases h1 : e.1 < p
      · have h2 : ¬ p < e.1 := fun h2 => key_ir _ (key_tr h1 h2)
        simp [h1, h2]; omega
      · simp only [h1, decide_false, Bool.false_eq_true, if_false]
        split
        · rw [List.length_cons]; omega
        · omega
  unfold putE
  rw [List.length_append, List.length_cons]
  have := h L
  omega
theorem len_dropE_le (L : Es) (p : Tx) : (dropE L p).length ≤ L.length := List.length_filter_le _ _
theorem len_dropE_lt {L : Es} {p : Tx} {n : Nat} (h : getE L p = some n) : (dropE L p).length + 1 ≤ L.length := by
  induction L with
  | nil => cases h
  | cons e r ih =>
    unfold getE at h
    unfold dropE
    rw [List.filter_cons]
    split at h
    · rename_i he
      have := len_dropE_le r p
      rw [if_neg (by simp [he]), List.length_cons]
      exact Nat.succ_le_succ this
    · rename_i he
      have := ih h
      rw [if_pos (by simpa using he), List.length_cons, List.length_cons]
      exact Nat.succ_le_succ this
theorem len_didE {L : Es} {c : Ch} : (didE L c).length ≤ L.length + (if c.kind = 1 then 1 else 0) := by
  unfold didE
  split
  · exact len_putE_le _ _ _
  · split
    · exact len_dropE_le _ _
    · split
      · omega
      · rename_i n e
        have h1 := len_putE_le (dropE L c.fr) c.tt n
        have h2 := len_dropE_lt e
        omega
theorem crN_cons (c : Ch) (r : List Ch) : crN (c :: r) = (if c.kind = 1 then 1 else 0) + crN r := by
  unfold crN
  rw [List.filter_cons]
  split
  · rename_i h
    rw [if_pos (by simpa using h), List.length_cons]; omega
  · rename_i h
    rw [if_neg (by simpa using h)]; omega
theorem len_didAll : ∀ {L : Es} (cs : List Ch), (didAll L cs).length ≤ L.length + crN cs
  | L, [] => by simp [didAll, crN]
  | L, c :: r => by
    have h1 := len_didAll (L := didE L c) r
    have h2 := len_didE (L := L) (c := c)
    rw [crN_cons]
    show (didAll (didE L c) r).length ≤ _
    omega
theorem crN_append (a b : List Ch) : crN (a ++ b) = crN a + crN b := by simp [crN]
theorem crN_split : ∀ x : List (Ch × Bool), crN (selC x) + crN (rstC x) = crN (x.map (·.1))
  | [] => rfl
  | (c, b) :: r => by
    have ih := crN_split r
    cases b with
    | true =>
      show crN (c :: selC r) + crN (rstC r) = crN (c :: r.map (·.1))
      rw [crN_cons, crN_cons]; omega
    | false =>
      show crN (selC r) + crN (c :: rstC r) = crN (c :: r.map (·.1))
      rw [crN_cons, crN_cons]; omega
/-- whose files entries have behind a change -/
theorem mem_didE {L : Es} {c : Ch} {e : Tx × Nat} (h : e ∈ didE L c) : (e.1 = c.tt ∧ c.kind = 1 ∧ e.2 = c.node) ∨ (∃ p, (p, e.2) ∈ L ∧ (e.1 = c.tt ∧ p = c.fr ∧ c.kind ≠ 1 ∧ c.kind ≠ 3 ∨ e.1 = p)) := by
  unfold didE at h
  split at h
  · rename_i k
    rcases mem_putE.1 h with rfl | h
    · exact .inl ⟨rfl, k, rfl⟩
    · exact .inr ⟨e.1, h.1, .inr rfl⟩
  · rename_i k1
    split at h
    · exact .inr ⟨e.1, (mem_dropE.1 h).1, .inr rfl⟩
    · rename_i k3
      split at h
      · exact .inr ⟨e.1, h, .inr rfl⟩
      · rename_i n hg
        rcases mem_putE.1 h with rfl | h
        · exact .inr ⟨c.fr, getE_some hg, .inl ⟨rfl, rfl, k1, k3⟩⟩
        · exact .inr ⟨e.1, (mem_dropE.1 h.1).1, .inr rfl⟩
theorem inj_didE {L : Es} {c : Ch} (h : InjE L) (hf : c.kind = 1 → ∀ p, (p, c.node) ∉ L) : InjE (didE L c) := by
  intro p q n
  unfold didE
  split
  · rename_i k
    intro hp hq
    rcases mem_putE.1 hp with e1 | ⟨e1, e1'⟩ <;> rcases mem_putE.1 hq with e2 | ⟨e2, e2'⟩
    · cases e1; cases e2; rfl
    · cases e1; exact absurd e2 (hf k _)
    · cases e2; exact absurd e1 (hf k _)
    · exact h p q n e1 e2
  · split
    · intro hp hq
      exact h p q n (mem_dropE.1 hp).1 (mem_dropE.1 hq).1
    · split
      · exact h p q n
      · rename_i m hg
        intro hp hq
        have hg := getE_some hg
        rcases mem_putE.1 hp with e1 | ⟨e1, e1'⟩ <;> rcases mem_putE.1 hq with e2 | ⟨e2, e2'⟩
        · cases e1; cases e2; rfl
        · cases e1
          obtain ⟨e3, e4⟩ := mem_dropE.1 e2
          exact absurd (h _ _ _ e3 hg) e4
        · cases e2
          obtain ⟨e3, e4⟩ := mem_dropE.1 e1
          exact absurd (h _ _ _ e3 hg) e4
        · exact h p q n (mem_dropE.1 e1).1 (mem_dropE.1 e2).1
theorem fr_didE {L : Es} {c : Ch} {r : List Ch} (h : FrC L (c :: r)) : FrC (didE L c) r := by
  obtain ⟨h1, h2⟩ := h
  obtain ⟨h3, h4⟩ := List.pairwise_cons.1 h2
  refine ⟨fun x hx k p hp => ?_, h4⟩
  rcases mem_didE hp with ⟨-, k1, e⟩ | ⟨q, hq, -⟩
  · exact h3 x hx k1 k e.symm
  · exact h1 x (List.mem_cons_of_mem _ hx) k q hq
theorem inj_didAll : ∀ {L : Es} {cs : List Ch}, InjE L → FrC L cs → InjE (didAll L cs)
  | L, [], h, _ => h
  | L, c :: r, h, hf => inj_didAll (L := didE L c) (inj_didE h (hf.1 c List.mem_cons_self)) (fr_didE hf)
theorem fr_didAll : ∀ {L : Es} {a b : List Ch}, FrC L (a ++ b) → FrC (didAll L a) b
  | L, [], b, h => h
  | L, c :: a, b, h => fr_didAll (L := didE L c) (a := a) (fr_didE h)
theorem FrC.perm {L : Es} {a b : List Ch} (h : FrC L a) (hp : b.Perm a) : FrC L b :=
  ⟨fun c hc => h.1 c (hp.mem_iff.1 hc), (hp.pairwise_iff (fun {x y} hxy k1 k2 e => hxy k2 k1 e.symm)).2 h.2⟩
theorem sel_perm : ∀ x : List (Ch × Bool), (selC x ++ rstC x).Perm (x.map (·.1))
  | [] => List.Perm.refl _
  | (c, true) :: r => (sel_perm r).cons c
  | (c, false) :: r => by
    show (selC r ++ c :: rstC r).Perm (c :: r.map (·.1))
    exact List.perm_middle.trans ((sel_perm r).cons c)
theorem mem_didAll {N : Nat} : ∀ {L : Es} {cs : List Ch}, (∀ e ∈ L, e.2 < N) → (∀ c ∈ cs, c.kind = 1 → c.node < N) → ∀ e ∈ didAll L cs, e.2 < N
  | L, [], h, _ => h
  | L, c :: r, h, hc => mem_didAll (L := didE L c) (fun e he => by
      rcases mem_didE he with ⟨-, k, e1⟩ | ⟨p, hp, -⟩
      · rw [e1]; exact hc c List.mem_cons_self k
      · exact h (p, e.2) hp) fun x hx => hc x (List.mem_cons_of_mem _ hx)
theorem paths_didAll {Q : Tx → Prop} : ∀ {L : Es} {cs : List Ch}, (∀ e ∈ L, Q e.1) → (∀ c ∈ cs, OkC c ∧ (c.tt ≠ [] → Q c.tt)) → ∀ e ∈ didAll L cs, Q e.1
  | L, [], h, _ => h
  | L, c :: r, h, hc => paths_didAll (L := didE L c) (fun e he => by
      obtain ⟨ho, ht⟩ := hc c List.mem_cons_self
      rcases mem_didE he with ⟨e1, k, -⟩ | ⟨p, hp, ⟨e1, e2, k1, k3⟩ | e1⟩
      · rw [e1]
        rcases ho with ⟨_, _, h3⟩ | ⟨k', _⟩ | ⟨k', _⟩
        · exact ht h3
        · rw [k] at k'; cases k'
        · rw [k] at k'; cases k'
      · rw [e1]
        rcases ho with ⟨k', _⟩ | ⟨_, _, h3, _⟩ | ⟨k', _⟩
        · exact absurd k' k1
        · exact ht h3
        · exact absurd k' k3
      · rw [e1]; exact h _ hp) fun x hx => hc x (List.mem_cons_of_mem _ hx)
section
variable {d : Dk} {K : Nat}
theorem Wf.sn (h : Wf d K) : sortE d.now := by rw [← h.eq]; exact sort_didAll _ h.sl
theorem Wf.mn (h : Wf d K) : ∀ e ∈ d.now, mayB d.dirs e.1 = true := by
  rw [← h.eq]
  exact paths_didAll (Q := fun p => mayB d.dirs p = true) h.ml fun c hc => ⟨h.oc c hc, (h.mw c hc).2⟩
theorem Wf.ijn (h : Wf d K) : InjE d.now := by rw [← h.eq]; exact inj_didAll h.ij h.fr
theorem Wf.iln (h : Wf d K) : ∀ e ∈ d.now, e.2 < d.nodes.length := by rw [← h.eq]; exact mem_didAll h.il h.iw
theorem Wf.cpn (h : Wf d K) : d.now.length ≤ d.nodes.length := by rw [← h.eq]; exact Nat.le_trans (len_didAll _) h.cp
theorem Wf.l0 (h : Wf d K) : getE d.lasts [] = none := getE_none.2 fun e he hn => may_ne (h.ml e he) hn
theorem Wf.size {p : Tx} (h : Wf d K) (hp : mayB d.dirs p = true) : p.length ≤ 65 := may_size h.dn hp
theorem usedL_le {nodes : List Nd} : ∀ {L : Es}, (∀ x ∈ nodes, x.now.length ≤ 67108864) → usedL nodes L ≤ L.length * 67108864
  | [], _ => by simp [usedL]
  | e :: r, h => by
    have ih := usedL_le (L := r) h
    unfold usedL at ih ⊢
    simp only [List.map_cons, List.sum_cons, List.length_cons]
    have : (nodes.getD e.2 nd0).now.length ≤ 67108864 := by
      rw [List.getD_eq_getElem?_getD]
      cases hn : nodes[e.2]? with
      | none => simp [nd0]
      | some x => exact h x (List.mem_of_getElem? hn)
    omega
theorem Wf.used (h : Wf d K) : usedM d ≤ K * 67108864 :=
  Nat.le_trans (usedL_le fun x hx => (h.nd x hx).ln) (Nat.mul_le_mul_right _ (Nat.le_trans h.cpn h.nk))
theorem Wf.mono {K' : Nat} (h : Wf d K) (hk : K ≤ K') : Wf d K' :=
  ⟨h.q1, h.q2, h.dn, h.ds, h.dl, h.sl, h.ml, h.oc, h.mw, h.va, h.eq, h.ij, h.fr, h.il, h.iw, h.cp, fun x hx => (h.nd x hx).mono hk, Nat.le_trans h.nk hk, Nat.le_trans h.wk hk⟩
/-- the switches are free -/
theorem Wf.step (h : Wf d K) : Wf (stepM d).1 K := by
  unfold stepM
  split
  · exact ⟨h.q1, h.q2, h.dn, h.ds, h.dl, h.sl, h.ml, h.oc, h.mw, h.va, h.eq, h.ij, h.fr, h.il, h.iw, h.cp, h.nd, h.nk, h.wk⟩
  · split <;> exact ⟨h.q1, h.q2, h.dn, h.ds, h.dl, h.sl, h.ml, h.oc, h.mw, h.va, h.eq, h.ij, h.fr, h.il, h.iw, h.cp, h.nd, h.nk, h.wk⟩
theorem step_same (d : Dk) : (stepM d).1.dirs = d.dirs ∧ (stepM d).1.nodes = d.nodes ∧ (stepM d).1.now = d.now ∧ (stepM d).1.lasts = d.lasts ∧ (stepM d).1.waits = d.waits ∧ (stepM d).1.quota = d.quota := by
  unfold stepM
  split
  · exact ⟨rfl, rfl, rfl, rfl, rfl, rfl⟩
  · split <;> exact ⟨rfl, rfl, rfl, rfl, rfl, rfl⟩
/-- an entry change more -/
theorem Wf.enter (h : Wf d K) {c : Ch} (ho : OkC c) (hm : (c.fr ≠ [] → mayB d.dirs c.fr = true) ∧ (c.tt ≠ [] → mayB d.dirs c.tt = true)) (hk : c.kind ≠ 1) (hv : c.kind = 2 → getE d.now c.fr ≠ none) : Wf (enterM d c) (K + 1) := by
  refine ⟨h.q1, h.q2, h.dn, h.ds, h.dl, h.sl, h.ml, fun x hx => ?_, fun x hx => ?_, ?_, ?_, h.ij, ?_, h.il, fun x hx k => ?_, ?_, fun x hx => (h.nd x hx).mono (Nat.le_succ _), Nat.le_succ_of_le h.nk, ?_⟩
  · rcases List.mem_append.1 hx with hx | hx
    · exact h.oc x hx
    · obtain rfl := List.mem_singleton.1 hx; exact ho
  · rcases List.mem_append.1 hx with hx | hx
    · exact h.mw x hx
    · obtain rfl := List.mem_singleton.1 hx; exact hm
  · refine ValidC.append.2 ⟨h.va, ?_⟩
    show ValidC (didAll d.lasts d.waits) [c]
    rw [h.eq]; exact ⟨hv, trivial⟩
  · show didAll d.lasts (d.waits ++ [c]) = didE d.now c
    rw [didAll_append, h.eq]; rfl
  · refine ⟨fun x hx k => ?_, ?_⟩
    · rcases List.mem_append.1 hx with hx | hx
      · exact h.fr.1 x hx k
      · obtain rfl := List.mem_singleton.1 hx; exact absurd k hk
    · show (d.waits ++ [c]).Pairwise _
      rw [List.pairwise_append]
      exact ⟨h.fr.2, List.pairwise_singleton _ _, fun a _ b hb _ k => by obtain rfl := List.mem_singleton.1 hb; exact absurd k hk⟩
  · rcases List.mem_append.1 hx with hx | hx
    · exact h.iw x hx k
    · obtain rfl := List.mem_singleton.1 hx; exact absurd k hk
  · show d.lasts.length + crN (d.waits ++ [c]) ≤ d.nodes.length
    rw [crN_append, crN_cons, if_neg hk]
    exact h.cp
  · show (d.waits ++ [c]).length ≤ K + 1
    rw [List.length_append]
    have := h.wk
    simp; omega
/-- a file more -/
theorem Wf.create (h : Wf d K) {p : Tx} (hp : mayB d.dirs p = true) : Wf (enterM { d with nodes := d.nodes ++ [nd0] } ⟨1, [], p, d.nodes.length⟩) (K + 1) := by
  refine ⟨h.q1, h.q2, h.dn, h.ds, h.dl, h.sl, h.ml, fun x hx => ?_, fun x hx => ?_, ?_, ?_, h.ij, ?_, fun e he => ?_, fun x hx k => ?_, ?_, fun x hx => ?_, ?_, ?_⟩
  · rcases List.mem_append.1 hx with hx | hx
    · exact h.oc x hx
    · obtain rfl := List.mem_singleton.1 hx; exact .inl ⟨rfl, rfl, may_ne hp⟩
  · rcases List.mem_append.1 hx with hx | hx
    · exact h.mw x hx
    · obtain rfl := List.mem_singleton.1 hx; exact ⟨fun e => absurd rfl e, fun _ => hp⟩
  · exact ValidC.append.2 ⟨h.va, ⟨(fun k => by cases k), trivial⟩⟩
  · show didAll d.lasts (d.waits ++ [(⟨1, [], p, d.nodes.length⟩ : Ch)]) = didE d.now ⟨1, [], p, d.nodes.length⟩
    rw [didAll_append, h.eq]; rfl
  · refine ⟨fun x hx k q hq => ?_, ?_⟩
    · rcases List.mem_append.1 hx with hx | hx
      · exact h.fr.1 x hx k q hq
      · obtain rfl := List.mem_singleton.1 hx
        have := h.il _ hq
        simp at this
    · show (d.waits ++ [(⟨1, [], p, d.nodes.length⟩ : Ch)]).Pairwise _
      rw [List.pairwise_append]
      refine ⟨h.fr.2, List.pairwise_singleton _ _, fun a ha b hb k _ e => ?_⟩
      obtain rfl := List.mem_singleton.1 hb
      have := h.iw a ha k
      rw [e] at this
      simp at this
  · show e.2 < (d.nodes ++ [nd0]).length
    rw [List.length_append]
    have := h.il e he
    omega
  · show x.node < (d.nodes ++ [nd0]).length
    rw [List.length_append]
    rcases List.mem_append.1 hx with hx | hx
    · have := h.iw x hx k; omega
    · obtain rfl := List.mem_singleton.1 hx; simp
  · show d.lasts.length + crN (d.waits ++ [(⟨1, [], p, d.nodes.length⟩ : Ch)]) ≤ (d.nodes ++ [nd0]).length
    rw [crN_append, crN_cons, List.length_append]
    have := h.cp
    simp [crN]; unfold crN at this; omega
  · rcases List.mem_append.1 hx with hx | hx
    · exact (h.nd x hx).mono (Nat.le_succ _)
    · obtain rfl := List.mem_singleton.1 hx; exact nd0_ok _
  · show (d.nodes ++ [nd0]).length ≤ K + 1
    rw [List.length_append]
    have := h.nk
    simp; omega
  · show (d.waits ++ [(⟨1, [], p, d.nodes.length⟩ : Ch)]).length ≤ K + 1
    rw [List.length_append]
    have := h.wk
    simp; omega
/-- a file otherwise -/
theorem Wf.set_ (h : Wf d K) (n : Nat) {x : Nd} (hx : NdOk x (K + 1)) : Wf { d with nodes := d.nodes.set n x } (K + 1) := by
  refine ⟨h.q1, h.q2, h.dn, h.ds, h.dl, h.sl, h.ml, h.oc, h.mw, h.va, h.eq, h.ij, h.fr, fun e he => ?_, fun c hc k => ?_, ?_, fun y hy => ?_, ?_, Nat.le_succ_of_le h.wk⟩
  · show e.2 < (d.nodes.set n x).length
    rw [List.length_set]; exact h.il e he
  · show c.node < (d.nodes.set n x).length
    rw [List.length_set]; exact h.iw c hc k
  · show _ ≤ (d.nodes.set n x).length
    rw [List.length_set]; exact h.cp
  · rcases List.mem_or_eq_of_mem_set hy with hy | rfl
    · exact (h.nd y hy).mono (Nat.le_succ _)
    · exact hx
  · show (d.nodes.set n x).length ≤ K + 1
    rw [List.length_set]; exact Nat.le_succ_of_le h.nk
theorem Wf.node (h : Wf d K) (n : Nat) : NdOk (nodeM d n) K := by
  unfold nodeM
  rw [List.getD_eq_getElem?_getD]
  cases hn : d.nodes[n]? with
  | none => exact nd0_ok K
  | some x => exact h.nd x (List.mem_of_getElem? hn)
theorem Wf.wrote (h : Wf d K) (n : Nat) {w : Wr} (hf : FitW (nodeM d n).now w) (hl : (laid (nodeM d n).now w).length ≤ 67108864) : Wf (wroteM d n w) (K + 1) := by
  have hn := h.node n
  refine h.set_ n ⟨hn.ch.snoc hf, hl, ?_, fun y hy => ?_⟩
  · show ((nodeM d n).waits ++ [w]).length ≤ K + 1
    rw [List.length_append]
    have := hn.lw
    simp; omega
  · rcases List.mem_append.1 hy with hy | hy
    · exact hn.lb y hy
    · obtain rfl := List.mem_singleton.1 hy
      have h1 := hn.ln
      rw [laid_len hf] at hl
      rcases hf with h2 | ⟨h2, h3⟩
      · rw [if_pos (by omega)] at hl; omega
      · omega
theorem Wf.synced (h : Wf d K) (n : Nat) : Wf (syncedM d n) (K + 1) := by
  have hn := h.node n
  exact h.set_ n ⟨rfl, hn.ln, Nat.zero_le _, fun y hy => by cases hy⟩
/-- some changes last -/
theorem Wf.last (h : Wf d K) {br : List Bool} (hl : br.length = d.waits.length) (hc : ClosedC (d.waits.zip br)) : Wf (lastM d br) K := by
  have em : (d.waits.zip br).map (·.1) = d.waits := by rw [List.map_fst_zip (by omega)]
  have ho : ∀ c ∈ d.waits.zip br, OkC c.1 := fun c hc => h.oc c.1 (List.of_mem_zip hc).1
  obtain ⟨v1, v2⟩ := closed_split h.sl h.l0 ho hc (by rw [em]; exact h.va)
  rw [em] at v2
  have hp := sel_perm (d.waits.zip br)
  rw [em] at hp
  have ms : ∀ c ∈ selC (d.waits.zip br), c ∈ d.waits := fun c hc => hp.mem_iff.1 (List.mem_append_left _ hc)
  have mr : ∀ c ∈ rstC (d.waits.zip br), c ∈ d.waits := fun c hc => hp.mem_iff.1 (List.mem_append_right _ hc)
  have hf := h.fr.perm hp
  have hcr := crN_split (d.waits.zip br)
  rw [em] at hcr
  refine ⟨h.q1, h.q2, h.dn, h.ds, h.dl, sort_didAll _ h.sl, paths_didAll (Q := fun p => mayB d.dirs p = true) h.ml fun c hc => ⟨h.oc c (ms c hc), (h.mw c (ms c hc)).2⟩, fun c hc => h.oc c (mr c hc), fun c hc => h.mw c (mr c hc), (ValidC.append.1 v1).2, ?_, ?_, fr_didAll hf, mem_didAll h.il fun c hc => h.iw c (ms c hc), fun c hc => h.iw c (mr c hc), ?_, h.nd, h.nk, ?_⟩
  · show didAll (didAll d.lasts (selC (d.waits.zip br))) (rstC (d.waits.zip br)) = d.now
    rw [← didAll_append, ← v2, h.eq]
  · exact inj_didAll h.ij ⟨fun c hc => hf.1 c (List.mem_append_left _ hc), (List.pairwise_append.1 hf.2).1⟩
  · have := len_didAll (L := d.lasts) (selC (d.waits.zip br))
    have := h.cp
    show (didAll d.lasts (selC (d.waits.zip br))).length + crN (rstC (d.waits.zip br)) ≤ d.nodes.length
    omega
  · show (rstC (d.waits.zip br)).length ≤ K
    have h1 := hp.length_eq
    rw [List.length_append] at h1
    have := h.wk
    omega
/-- what lasts can be read off -/
theorem Wf.valid_sel (h : Wf d K) {br : List Bool} (hl : br.length = d.waits.length) (hc : ClosedC (d.waits.zip br)) : ValidC d.lasts (selC (d.waits.zip br)) := by
  have em : (d.waits.zip br).map (·.1) = d.waits := by rw [List.map_fst_zip (by omega)]
  exact (ValidC.append.1 (closed_split h.sl h.l0 (fun c hc => h.oc c.1 (List.of_mem_zip hc).1) hc (by rw [em]; exact h.va)).1).1
end
/-! ### which changes are brought, which survive -/
theorem brought_len (dir : Tx) : ∀ cs : List Ch, (broughtM dir cs).length = cs.length
  | [] => rfl
  | c :: r => by
    show (broughtM dir r).length + 1 = _
    rw [brought_len dir r]; rfl
theorem brought_closed (dir : Tx) : ∀ cs : List Ch, ClosedC (cs.zip (broughtM dir cs))
  | [] => trivial
  | c :: r => by
    refine ⟨fun hb x hx hx2 => ?_, brought_closed dir r⟩
    have hb : (withinC c dir || (r.zip (broughtM dir r)).any fun x => x.2 && shareC c x.1) = false := hb
    rw [Bool.or_eq_false_iff] at hb
    have h2 := hb.2
    rw [List.any_eq_false] at h2
    have h3 := h2 x hx
    rw [hx2] at h3
    simpa using h3
theorem surv_len : ∀ (a : List (Ch × Bool)) (cs : List Ch) (ks : List Bool), (survGo a cs ks).length = cs.length
  | _, [], _ => rfl
  | a, c :: r, ks => by
    show (survGo _ r ks.tail).length + 1 = _
    rw [surv_len]; rfl
/-- of what survives nothing leans on what does not -/
theorem surv_leans : ∀ (a : List (Ch × Bool)) (cs : List Ch) (ks : List Bool), ∀ x ∈ cs.zip (survGo a cs ks), x.2 = true → ∀ y ∈ a, y.2 = false → shareC y.1 x.1 = false
  | _, [], _, x, hx => by cases hx
  | a, c :: r, ks, x, hx => by
    intro hx2 y hy hy2
    rcases List.mem_cons.1 hx with rfl | hx
    · have h2 : (ks.headD false && a.all fun x => x.2 || !shareC x.1 c) = true := hx2
      rw [Bool.and_eq_true, List.all_eq_true] at h2
      have := h2.2 y hy
      rw [hy2] at this
      simpa using this
    · exact surv_leans _ r ks.tail x hx hx2 y (List.mem_append_left _ hy) hy2
theorem surv_closed : ∀ (a : List (Ch × Bool)) (cs : List Ch) (ks : List Bool), ClosedC (cs.zip (survGo a cs ks))
  | _, [], _ => trivial
  | a, c :: r, ks => ⟨fun hb x hx hx2 => surv_leans _ r ks.tail x hx hx2 (c, _) (List.mem_append_right _ (List.mem_singleton.2 rfl)) hb, surv_closed _ r ks.tail⟩
/-! ### a crash -/
theorem laid_none (l : Tx) (w : Wr) (h : w.b = []) : laid l w = l := by
  unfold laid
  rw [h]
  split <;> simp
theorem keepB_none : ∀ (ws : List Wr) (l : Tx) (n : Int), n ≤ 0 → keepB l ws n = l
  | [], l, n, _ => rfl
  | w :: r, l, n, h => by
    unfold keepB
    rw [laid_none _ _ (by rw [show max n 0 = 0 by omega]; rfl), show n - min (max n 0) (w.b.length : Int) = n by omega, keepB_none r l n h]
/-- the writes that are kept fit -/
theorem keepB_len : ∀ (ws : List Wr) (l m : Tx) (n : Int), ChainW l ws m → (keepB l ws n).length ≤ m.length
  | [], l, m, n, h => by obtain rfl : l = m := h; exact Nat.le_refl _
  | w :: r, l, m, n, h => by
    obtain ⟨hf, hr⟩ := h
    have hm := hr.len
    unfold keepB
    by_cases hn : (w.b.length : Int) ≤ n
    · rw [show w.b.take (max n 0).toNat = w.b from List.take_of_length_le (by omega)]
      exact keepB_len r _ m _ hr
    · rw [keepB_none r _ _ (by omega)]
      have hf2 : FitW l ⟨w.at_, w.b.take (max n 0).toNat⟩ := by
        rcases hf with hf | ⟨h1, h2⟩
        · exact .inl hf
        · refine .inr ⟨h1, ?_⟩
          show w.at_.toNat + (w.b.take (max n 0).toNat).length ≤ l.length
          rw [List.length_take]; omega
      rw [laid_len hf2]
      rw [laid_len hf] at hm
      clear hf2
      show l.length + (if w.at_ < 0 then (w.b.take (max n 0).toNat).length else 0) ≤ m.length
      rw [List.length_take]
      by_cases hc : w.at_ < 0
      · rw [if_pos hc] at hm
        rw [if_pos hc]; omega
      · rw [if_neg hc] at hm
        rw [if_neg hc]; omega
theorem keepN_ok {x : Nd} {K : Nat} (h : NdOk x K) (n : Int) : NdOk (keepN x n) K :=
  ⟨rfl, Nat.le_trans (keepB_len _ _ _ _ h.ch) h.ln, Nat.zero_le _, fun w hw => by cases hw⟩
theorem keptM_ok {K : Nat} : ∀ {xs : List Nd} (ks : List Int), (∀ x ∈ xs, NdOk x K) → ∀ x ∈ keptM xs ks, NdOk x K
  | [], _, _, x, hx => by cases hx
  | y :: r, ks, h, x, hx => by
    unfold keptM at hx
    split at hx
    · rcases List.mem_cons.1 hx with rfl | hx
      · exact keepN_ok (h y List.mem_cons_self) _
      · exact keptM_ok ks (fun z hz => h z (List.mem_cons_of_mem _ hz)) x hx
    · rcases List.mem_cons.1 hx with rfl | hx
      · exact keepN_ok (h y List.mem_cons_self) _
      · exact keptM_ok ks.tail (fun z hz => h z (List.mem_cons_of_mem _ hz)) x hx
theorem keptM_len : ∀ (xs : List Nd) (ks : List Int), (keptM xs ks).length = xs.length
  | [], _ => rfl
  | y :: r, ks => by
    unfold keptM
    split
    · rw [List.length_cons, keptM_len, List.length_cons]
    · rw [List.length_cons, keptM_len, List.length_cons]
theorem Wf.crash {d : Dk} {K : Nat} (h : Wf d K) (kc : List Bool) (kw : List Int) : Wf (crashM d kc kw) K := by
  have hl := h.last (br := survM d.waits kc) (surv_len _ _ _) (surv_closed _ _ _)
  have hlen := keptM_len d.nodes kw
  refine ⟨h.q1, h.q2, h.dn, h.ds, h.dl, hl.sl, hl.ml, (fun c hc => by cases hc), (fun c hc => by cases hc), trivial, rfl, hl.ij, ⟨(fun c hc => by cases hc), List.Pairwise.nil⟩, fun e he => ?_, (fun c hc => by cases hc), ?_, keptM_ok kw h.nd, ?_, Nat.zero_le _⟩
  · show e.2 < (keptM d.nodes kw).length
    rw [hlen]; exact hl.il e he
  · show (didAll d.lasts _).length + crN [] ≤ (keptM d.nodes kw).length
    rw [hlen]
    have := hl.cp
    have h2 : (lastM d (survM d.waits kc)).lasts.length + crN (lastM d (survM d.waits kc)).waits ≤ d.nodes.length := this
    unfold lastM at h2
    simp only at h2
    simp only [crN, List.filter_nil, List.length_nil]
    omega
  · show (keptM d.nodes kw).length ≤ K
    rw [hlen]; exact h.nk
end Go.Proofs.YtbpooaicmjkemaaGreatDoor
