/-
  Several texts in one (merge.py): SfPl, SfOp. Conditions: each part names its own.
-/
import Init
/-! A disk as lists: entries, changes, writes, and what each deed does to them. No program in sight. No condition. -/
namespace Go.Proofs.YtbpooaicmjkemaaGreatDoor
set_option linter.unusedVariables false
abbrev Tx := List UInt8
structure Wr where
  at_ : Int
  b : Tx
structure Nd where
  now : Tx
  lasts : Tx
  waits : List Wr
structure Ch where
  kind : Int
  fr : Tx
  tt : Tx
  node : Nat
abbrev Es := List (Tx × Nat)
def nd0 : Nd := ⟨[], [], []⟩
/-! ### entries -/
def getE : Es → Tx → Option Nat
  | [], _ => none
  | e :: r, p => if e.1 = p then some e.2 else getE r p
def dropE (L : Es) (p : Tx) : Es := L.filter fun e => decide (e.1 ≠ p)
def putE (L : Es) (p : Tx) (n : Nat) : Es := (L.filter fun e => decide (e.1 < p)) ++ (p, n) :: (L.filter fun e => decide (p < e.1))
def didE (L : Es) (c : Ch) : Es :=
  if c.kind = 1 then putE L c.tt c.node
  else if c.kind = 3 then dropE L c.fr
  else match getE L c.fr with
    | none => L
    | some n => putE (dropE L c.fr) c.tt n
def sortE (L : Es) : Prop := L.Pairwise fun a b => a.1 < b.1
theorem key_ir (a : Tx) : ¬ a < a := List.lt_irrefl a
theorem key_tr {a b c : Tx} (h1 : a < b) (h2 : b < c) : a < c := List.lt_trans h1 h2
theorem key_tot (a b : Tx) : a < b ∨ a = b ∨ b < a := by
  by_cases h1 : a < b
  · exact .inl h1
  · by_cases h2 : b < a
    · exact .inr (.inr h2)
    · exact .inr (.inl (List.le_antisymm (List.not_lt.1 h2) (List.not_lt.1 h1)))
theorem getE_some : ∀ {L : Es} {p : Tx} {n : Nat}, getE L p = some n → (p, n) ∈ L
  | [], p, n, h => by cases h
  | e :: r, p, n, h => by
    unfold getE at h
    split at h
    · rename_i he
      obtain rfl := Option.some.inj h
      rw [← he]
      exact List.mem_cons_self
    · exact List.mem_cons_of_mem _ (getE_some h)
theorem getE_none : ∀ {L : Es} {p : Tx}, getE L p = none ↔ ∀ e ∈ L, e.1 ≠ p
  | [], p => by simp [getE]
  | e :: r, p => by
    unfold getE
    split
    · rename_i he
      simp only [reduceCtorEq, false_iff]
      exact fun h => h e List.mem_cons_self he
    · rename_i he
      rw [getE_none]
      simp [he]
theorem getE_mem {L : Es} (h : sortE L) {p : Tx} {n : Nat} : getE L p = some n ↔ (p, n) ∈ L := by
  induction L with
  | nil => simp [getE]
  | cons e r ih =>
    obtain ⟨h1, h2⟩ := List.pairwise_cons.1 h
    unfold getE
    split
    · rename_i he
      constructor
      · intro hn
        obtain rfl := Option.some.inj hn
        rw [← he]; exact List.mem_cons_self
      · intro hn
        rcases List.mem_cons.1 hn with hn | hn
        · rw [← hn]
        · exact absurd (h1 _ hn) (by rw [he]; exact key_ir p)
    · rename_i he
      rw [ih h2]
      constructor
      · exact List.mem_cons_of_mem _
      · intro hn
        rcases List.mem_cons.1 hn with hn | hn
        · exact absurd (by rw [← hn]) he
        · exact hn
theorem mem_dropE {L : Es} {p : Tx} {e : Tx × Nat} : e ∈ dropE L p ↔ e ∈ L ∧ e.1 ≠ p := by simp [dropE]
theorem mem_putE {L : Es} {p : Tx} {n : Nat} {e : Tx × Nat} : e ∈ putE L p n ↔ e = (p, n) ∨ (e ∈ L ∧ e.1 ≠ p) := by
  simp only [putE, List.mem_append, List.mem_filter, List.mem_cons, decide_eq_true_eq]
  constructor
  · rintro (⟨h1, h2⟩ | h | ⟨h1, h2⟩)
    · exact .inr ⟨h1, fun e => key_ir _ (by rw [e] at h2; exact h2)⟩
    · exact .inl h
    · exact .inr ⟨h1, fun e => key_ir _ (by rw [e] at h2; exact h2)⟩
  · rintro (h | ⟨h1, h2⟩)
    · exact .inr (.inl h)
    · rcases key_tot e.1 p with h3 | h3 | h3
      · exact .inl ⟨h1, h3⟩
      · exact absurd h3 h2
      · exact .inr (.inr ⟨h1, h3⟩)
theorem sort_dropE {L : Es} (h : sortE L) (p : Tx) : sortE (dropE L p) := h.filter _
theorem sort_putE {L : Es} (h : sortE L) (p : Tx) (n : Nat) : sortE (putE L p n) := by
  unfold putE sortE
  rw [List.pairwise_append, List.pairwise_cons]
  refine ⟨h.filter _, ⟨fun e he => ?_, h.filter _⟩, fun a ha b hb => ?_⟩
  · simpa using (List.mem_filter.1 he).2
  · have h1 : a.1 < p := by simpa using (List.mem_filter.1 ha).2
    rcases List.mem_cons.1 hb with rfl | hb
    · exact h1
    · have h2 : p < b.1 := by simpa using (List.mem_filter.1 hb).2
      exact key_tr h1 h2
theorem sort_didE {L : Es} (h : sortE L) (c : Ch) : sortE (didE L c) := by
  unfold didE
  split
  · exact sort_putE h _ _
  · split
    · exact sort_dropE h _
    · split
      · exact h
      · exact sort_putE (sort_dropE h _) _ _
theorem getE_dropE {L : Es} (h : sortE L) (p q : Tx) : getE (dropE L p) q = if q = p then none else getE L q := by
  split
  · rename_i e
    rw [getE_none]
    intro x hx
    rw [e]
    exact (mem_dropE.1 hx).2
  · rename_i e
    cases hg : getE L q with
    | none =>
      rw [getE_none] at hg ⊢
      exact fun x hx => hg x (mem_dropE.1 hx).1
    | some n =>
      rw [getE_mem (sort_dropE h p), mem_dropE]
      exact ⟨getE_some hg, e⟩
theorem getE_putE {L : Es} (h : sortE L) (p q : Tx) (n : Nat) : getE (putE L p n) q = if q = p then some n else getE L q := by
  split
  · rename_i e
    rw [getE_mem (sort_putE h p n), mem_putE, e]
    exact .inl rfl
  · rename_i e
    cases hg : getE L q with
    | none =>
      rw [getE_none] at hg ⊢
      intro x hx
      rcases mem_putE.1 hx with rfl | hx
      · exact fun he => e he.symm
      · exact hg x hx.1
    | some m =>
      rw [getE_mem (sort_putE h p n), mem_putE]
      exact .inr ⟨getE_some hg, e⟩
/-- what is looked up, behind a change -/
theorem getE_didE {L : Es} (h : sortE L) (c : Ch) (q : Tx) : getE (didE L c) q =
    if c.kind = 1 then (if q = c.tt then some c.node else getE L q)
    else if c.kind = 3 then (if q = c.fr then none else getE L q)
    else if getE L c.fr = none then getE L q
    else if q = c.tt then getE L c.fr else if q = c.fr then none else getE L q := by
  unfold didE
  split
  · exact getE_putE h _ _ _
  · split
    · exact getE_dropE h _ _
    · split
      · rename_i e
        rw [if_pos e]
      · rename_i n e
        rw [if_neg (by rw [e]; simp), getE_putE (sort_dropE h _), getE_dropE h, e]
/-- entries by rising paths are told by what is looked up -/
theorem sortE_ext : ∀ {L M : Es}, sortE L → sortE M → (∀ p, getE L p = getE M p) → L = M
  | [], [], _, _, _ => rfl
  | [], e :: r, _, _, h => by
    have := h e.1
    simp [getE] at this
  | e :: r, [], _, _, h => by
    have := h e.1
    simp [getE] at this
  | e :: r, f :: s, hl, hm, h => by
    obtain ⟨l1, l2⟩ := List.pairwise_cons.1 hl
    obtain ⟨m1, m2⟩ := List.pairwise_cons.1 hm
    have he : e ∈ f :: s := (getE_mem hm).1 ((h e.1).symm.trans (by simp [getE]))
    have hf : f ∈ e :: r := (getE_mem hl).1 ((h f.1).trans (by simp [getE]))
    have hef : e = f := by
      rcases List.mem_cons.1 he with rfl | he
      · rfl
      · rcases List.mem_cons.1 hf with rfl | hf
        · rfl
        · exact absurd (key_tr (m1 _ he) (l1 _ hf)) (key_ir _)
    subst hef
    rw [sortE_ext l2 m2 fun p => ?_]
    have hp := h p
    unfold getE at hp
    split at hp
    · rename_i hc
      rw [getE_none.2 fun x hx hxp => key_ir p (by have := l1 x hx; rw [hxp, hc] at this; exact this), getE_none.2 fun x hx hxp => key_ir p (by have := m1 x hx; rw [hxp, hc] at this; exact this)]
    · exact hp
/-! ### changes that wait -/
def didAll (L : Es) (cs : List Ch) : Es := cs.foldl didE L
theorem sort_didAll : ∀ {L : Es} (cs : List Ch), sortE L → sortE (didAll L cs)
  | _, [], h => h
  | _, c :: r, h => sort_didAll r (sort_didE h c)
/-- a change that may wait -/
def OkC (c : Ch) : Prop := (c.kind = 1 ∧ c.fr = [] ∧ c.tt ≠ []) ∨ (c.kind = 2 ∧ c.fr ≠ [] ∧ c.tt ≠ [] ∧ c.fr ≠ c.tt) ∨ (c.kind = 3 ∧ c.fr ≠ [] ∧ c.tt = [])
def namesC (c : Ch) (p : Tx) : Bool := decide (p ≠ []) && (decide (c.fr = p) || decide (c.tt = p))
def shareC (a b : Ch) : Bool := namesC a b.fr || namesC a b.tt
theorem namesC_iff {c : Ch} {p : Tx} : namesC c p = true ↔ p ≠ [] ∧ (c.fr = p ∨ c.tt = p) := by simp [namesC]
theorem shareC_no {a b : Ch} (h : shareC a b = false) {p : Tx} (ha : namesC a p = true) : namesC b p = false := by
  cases hb : namesC b p with
  | false => rfl
  | true =>
    exfalso
    have h1 := namesC_iff.1 ha
    have h2 := namesC_iff.1 hb
    unfold shareC at h
    rw [Bool.or_eq_false_iff] at h
    rcases h2.2 with e | e
    · rw [e, ha] at h; cases h.1
    · rw [e, ha] at h; cases h.2
/-- each rename finds what it moves -/
def ValidC : Es → List Ch → Prop
  | _, [] => True
  | L, c :: r => (c.kind = 2 → getE L c.fr ≠ none) ∧ ValidC (didE L c) r
theorem ValidC.append : ∀ {L : Es} {a b : List Ch}, ValidC L (a ++ b) ↔ ValidC L a ∧ ValidC (didAll L a) b
  | L, [], b => by simp [ValidC, didAll]
  | L, c :: a, b => by
    have ih := ValidC.append (L := didE L c) (a := a) (b := b)
    exact ⟨fun ⟨h1, h2⟩ => ⟨⟨h1, (ih.1 h2).1⟩, (ih.1 h2).2⟩, fun ⟨⟨h1, h2⟩, h3⟩ => ⟨h1, ih.2 ⟨h2, h3⟩⟩⟩
/-- a change does nothing to a path that it does not name -/
theorem getE_far {L : Es} (h : sortE L) {c : Ch} (hc : OkC c) {q : Tx} (hq : q ≠ []) (hn : namesC c q = false) : getE (didE L c) q = getE L q := by
  have hn' : ¬ (c.fr = q ∨ c.tt = q) := fun hx => by rw [namesC_iff.2 ⟨hq, hx⟩] at hn; cases hn
  have h1 : ¬ q = c.fr := fun e => hn' (.inl e.symm)
  have h2 : ¬ q = c.tt := fun e => hn' (.inr e.symm)
  rw [getE_didE h]
  simp [h1, h2]
theorem getE_nil {L : Es} (h : sortE L) (h0 : getE L [] = none) {c : Ch} (hc : OkC c) : getE (didE L c) [] = none := by
  rw [getE_didE h]
  rcases hc with ⟨k, e1, e2⟩ | ⟨k, e1, e2, e3⟩ | ⟨k, e1, e2⟩
  · rw [if_pos k, if_neg (fun e => e2 e.symm)]; exact h0
  · rw [if_neg (by rw [k]; decide), if_neg (by rw [k]; decide)]
    split
    · exact h0
    · rw [if_neg (fun e => e2 e.symm), if_neg (fun e => e1 e.symm)]; exact h0
  · rw [if_neg (by rw [k]; decide), if_pos k, if_neg (fun e => e1 e.symm)]; exact h0
theorem OkC.names_fr {c : Ch} (h : OkC c) (hf : c.fr ≠ []) : namesC c c.fr = true := namesC_iff.2 ⟨hf, .inl rfl⟩
theorem OkC.names_tt {c : Ch} (h : OkC c) (hf : c.tt ≠ []) : namesC c c.tt = true := namesC_iff.2 ⟨hf, .inr rfl⟩
/-- what a change does to a path that it names hangs on such paths alone -/
theorem getE_near {L M : Es} (hL : sortE L) (hM : sortE M) {c : Ch} (hc : OkC c) (h : ∀ p, namesC c p = true → getE L p = getE M p) {q : Tx} (hq : namesC c q = true) : getE (didE L c) q = getE (didE M c) q := by
  have hq' := h q hq
  have hn := namesC_iff.1 hq
  rw [getE_didE hL, getE_didE hM]
  rcases hc with ⟨k, e1, e2⟩ | ⟨k, e1, e2, e3⟩ | ⟨k, e1, e2⟩
  · rw [if_pos k, if_pos k, hq']
  · have hf := h c.fr (namesC_iff.2 ⟨e1, .inl rfl⟩)
    simp only [k, hf, hq', Int.reduceEq, if_false]
  · simp only [k, hq', Int.reduceEq, if_false, if_true]
/-- changes that share no path may change places -/
theorem didE_swap {L : Es} (h : sortE L) (h0 : getE L [] = none) {a b : Ch} (ha : OkC a) (hb : OkC b) (hs : shareC a b = false) : didE (didE L a) b = didE (didE L b) a := by
  refine sortE_ext (sort_didE (sort_didE h a) b) (sort_didE (sort_didE h b) a) fun p => ?_
  by_cases hp : p = []
  · subst hp
    rw [getE_nil (sort_didE h a) (getE_nil h h0 ha) hb, getE_nil (sort_didE h b) (getE_nil h h0 hb) ha]
  · cases hna : namesC a p with
    | true =>
      have hnb := shareC_no hs hna
      rw [getE_far (sort_didE h a) hb hp hnb]
      refine getE_near h (sort_didE h b) ha (fun q hq => ?_) hna
      rw [getE_far h hb (namesC_iff.1 hq).1 (shareC_no hs hq)]
    | false =>
      rw [getE_far (sort_didE h b) ha hp hna]
      cases hnb : namesC b p with
      | true =>
        refine getE_near (sort_didE h a) h hb (fun q hq => ?_) hnb
        refine getE_far h ha (namesC_iff.1 hq).1 ?_
        cases hx : namesC a q with
        | false => rfl
        | true => rw [shareC_no hs hx] at hq; cases hq
      | false => rw [getE_far (sort_didE h a) hb hp hnb, getE_far h ha hp hna, getE_far h hb hp hnb]
theorem valid_swap {L : Es} (h : sortE L) {a b : Ch} (ha : OkC a) (hb : OkC b) (hs : shareC a b = false) (hv : ValidC L [a, b]) : ValidC L [b, a] := by
  obtain ⟨h1, h2, -⟩ := hv
  refine ⟨fun k => ?_, fun k => ?_, trivial⟩
  · have := h2 k
    have hf : b.fr ≠ [] := by rcases hb with ⟨k', _⟩ | ⟨_, e, _⟩ | ⟨k', _⟩ <;> first | exact e | (rw [k] at k'; cases k')
    have hn : namesC b b.fr = true := hb.names_fr hf
    have hna : namesC a b.fr = false := by
      cases hx : namesC a b.fr with
      | false => rfl
      | true => rw [shareC_no hs hx] at hn; cases hn
    rwa [getE_far h ha hf hna] at this
  · have hf : a.fr ≠ [] := by rcases ha with ⟨k', _⟩ | ⟨_, e, _⟩ | ⟨k', _⟩ <;> first | exact e | (rw [k] at k'; cases k')
    rw [getE_far h hb hf (shareC_no hs (ha.names_fr hf))]
    exact h1 k
/-- a change behind many with which it shares no path -/
theorem swap_all : ∀ {L : Es} {c : Ch} {s : List Ch}, sortE L → getE L [] = none → OkC c → (∀ x ∈ s, OkC x ∧ shareC c x = false) → ValidC L (c :: s) → ValidC L (s ++ [c]) ∧ didAll L (c :: s) = didAll L (s ++ [c])
  | L, c, [], _, _, _, _, hv => ⟨hv, rfl⟩
  | L, c, x :: s, h, h0, hc, hs, hv => by
    obtain ⟨hx, hsx⟩ := hs x List.mem_cons_self
    obtain ⟨v1, v2, v3⟩ := hv
    have hsw := didE_swap h h0 hc hx hsx
    have hv2 := valid_swap h hc hx hsx ⟨v1, v2, trivial⟩
    have ih := swap_all (L := didE L x) (c := c) (s := s) (sort_didE h x) (getE_nil h h0 hx) hc (fun y hy => hs y (List.mem_cons_of_mem _ hy)) ⟨hv2.2.1, by rw [← hsw]; exact v3⟩
    refine ⟨⟨hv2.1, ih.1⟩, ?_⟩
    show didAll (didE (didE L c) x) s = didAll (didE L x) (s ++ [c])
    rw [hsw]
    exact ih.2
/-- some of the changes, and the others -/
def selC (x : List (Ch × Bool)) : List Ch := (x.filter (·.2)).map (·.1)
def rstC (x : List (Ch × Bool)) : List Ch := (x.filter (!·.2)).map (·.1)
/-- with each also those ahead of it that share a path with it -/
def ClosedC : List (Ch × Bool) → Prop
  | [] => True
  | c :: r => (c.2 = false → ∀ x ∈ r, x.2 = true → shareC c.1 x.1 = false) ∧ ClosedC r
theorem didAll_append (L : Es) (a b : List Ch) : didAll L (a ++ b) = didAll (didAll L a) b := List.foldl_append
theorem closed_split : ∀ {x : List (Ch × Bool)} {L : Es}, sortE L → getE L [] = none → (∀ c ∈ x, OkC c.1) → ClosedC x → ValidC L (x.map (·.1)) → ValidC L (selC x ++ rstC x) ∧ didAll L (x.map (·.1)) = didAll L (selC x ++ rstC x)
  | [], L, _, _, _, _, hv => ⟨hv, rfl⟩
  | (c, b) :: r, L, h, h0, ho, hc, hv => by
    have hoc := ho (c, b) List.mem_cons_self
    obtain ⟨v1, v2⟩ := hv
    have ih := closed_split (x := r) (L := didE L c) (sort_didE h c) (getE_nil h h0 hoc) (fun y hy => ho y (List.mem_cons_of_mem _ hy)) hc.2 v2
    cases b with
    | true => exact ⟨⟨v1, ih.1⟩, ih.2⟩
    | false =>
      have hsel : ∀ y ∈ selC r, OkC y ∧ shareC c y = false := fun y hy => by
        obtain ⟨z, hz, rfl⟩ := List.mem_map.1 hy
        obtain ⟨hz1, hz2⟩ := List.mem_filter.1 hz
        exact ⟨ho z (List.mem_cons_of_mem _ hz1), hc.1 rfl z hz1 hz2⟩
      obtain ⟨i1, i2⟩ := ih
      have i3 := ValidC.append.1 i1
      obtain ⟨s1, s2⟩ := swap_all (s := selC r) h h0 hoc hsel ⟨v1, i3.1⟩
      have e : selC ((c, false) :: r) ++ rstC ((c, false) :: r) = (selC r ++ [c]) ++ rstC r := by simp [selC, rstC]
      rw [e]
      refine ⟨ValidC.append.2 ⟨s1, by rw [← s2]; exact i3.2⟩, ?_⟩
      rw [didAll_append, ← s2]
      show didAll (didE L c) (r.map (·.1)) = didAll (didAll (didE L c) (selC r)) (rstC r)
      rw [← didAll_append]
      exact i2
end Go.Proofs.YtbpooaicmjkemaaGreatDoor

/-! A disk as a record, and what each deed does to it. No program in sight. No condition. -/
namespace Go.Proofs.YtbpooaicmjkemaaGreatDoor
set_option linter.unusedVariables false
structure Dk where
  quota : Int
  dirs : List Tx
  nodes : List Nd
  now : Es
  lasts : Es
  waits : List Ch
  off : Bool
  done : Int
  arm : Nat
  fail : Nat
  failed : Int
def cs65 : List UInt8 := [97, 98, 99, 100, 101, 102, 103, 104, 105, 106, 107, 108, 109, 110, 111, 112, 113, 114, 115, 116, 117, 118, 119, 120, 121, 122, 65, 66, 67, 68, 69, 70, 71, 72, 73, 74, 75, 76, 77, 78, 79, 80, 81, 82, 83, 84, 85, 86, 87, 88, 89, 90, 48, 49, 50, 51, 52, 53, 54, 55, 56, 57, 45, 95, 46]
def nameB (s : Tx) : Bool := decide (1 ≤ s.length) && decide (s.length ≤ 32) && s.all (cs65.contains ·)
/-- where the first / is -/
def slash (p : Tx) : Nat := p.findIdx (· == 47)
def hasSlash (p : Tx) : Bool := p.contains 47
def dirOf (p : Tx) : Tx := if hasSlash p then p.take (slash p) else []
def nameOf (p : Tx) : Tx := if hasSlash p then p.drop (slash p + 1) else []
def mayB (dirs : List Tx) (p : Tx) : Bool := dirs.contains (dirOf p) && nameB (nameOf p)
def nodeM (d : Dk) (n : Nat) : Nd := d.nodes.getD n nd0
def usedL (nodes : List Nd) (L : Es) : Nat := (L.map fun e => (nodes.getD e.2 nd0).now.length).sum
def usedM (d : Dk) : Nat := usedL d.nodes d.now
/-- bytes behind a write -/
def laid (l : Tx) (w : Wr) : Tx := if w.at_ < 0 then l ++ w.b else l.take w.at_.toNat ++ w.b ++ l.drop (w.at_.toNat + w.b.length)
def stepM (d : Dk) : Dk × Int :=
  if d.arm = 1 then ({ d with off := true, arm := 0, fail := 0 }, 10)
  else if d.fail = 1 then ({ d with arm := d.arm - 1, fail := 0 }, d.failed)
  else ({ d with arm := d.arm - 1, fail := d.fail - 1, done := d.done + 1 }, 0)
def enterM (d : Dk) (c : Ch) : Dk := { d with now := didE d.now c, waits := d.waits ++ [c] }
def createM (d : Dk) (p : Tx) : Dk × Int :=
  if d.off = true then (d, 10)
  else if mayB d.dirs p = false then (d, 11)
  else if getE d.now p ≠ none then (d, 13)
  else if 4096 ≤ d.now.length then (d, 14)
  else if (stepM d).2 ≠ 0 then stepM d
  else (enterM { (stepM d).1 with nodes := d.nodes ++ [nd0] } ⟨1, [], p, d.nodes.length⟩, 0)
/-- the error of looking a file up -/
def missM (d : Dk) (p : Tx) : Int := if d.off = true then 10 else if getE d.now p = none then 12 else 0
def fileM (d : Dk) (p : Tx) : Nat := (getE d.now p).getD 0
def wroteM (d : Dk) (n : Nat) (w : Wr) : Dk := { d with nodes := d.nodes.set n { nodeM d n with now := laid (nodeM d n).now w, waits := (nodeM d n).waits ++ [w] } }
def writeM (d : Dk) (n : Nat) (w : Wr) : Dk × Int := if (stepM d).2 ≠ 0 then stepM d else (wroteM (stepM d).1 n w, 0)
def appendM (d : Dk) (p b : Tx) : Dk × Int :=
  if missM d p ≠ 0 then (d, missM d p)
  else if (b.length : Int) > d.quota - usedM d then (d, 15)
  else writeM d (fileM d p) ⟨-1, b⟩
def writeAtM (d : Dk) (p : Tx) (at_ : Int) (b : Tx) : Dk × Int :=
  if missM d p ≠ 0 then (d, missM d p)
  else if at_ < 0 ∨ at_ > ((nodeM d (fileM d p)).now.length : Int) ∨ (b.length : Int) > ((nodeM d (fileM d p)).now.length : Int) - at_ then (d, 1)
  else writeM d (fileM d p) ⟨at_, b⟩
def syncedM (d : Dk) (n : Nat) : Dk := { d with nodes := d.nodes.set n { nodeM d n with lasts := (nodeM d n).now, waits := [] } }
def syncM (d : Dk) (p : Tx) : Dk × Int :=
  if missM d p ≠ 0 then (d, missM d p)
  else if (stepM d).2 ≠ 0 then stepM d
  else (syncedM (stepM d).1 (fileM d p), 0)
def renameM (d : Dk) (p q : Tx) : Dk × Int :=
  if missM d p ≠ 0 then (d, missM d p)
  else if mayB d.dirs q = false then (d, 11)
  else if (stepM d).2 ≠ 0 then stepM d
  else if p = q then ((stepM d).1, 0)
  else (enterM (stepM d).1 ⟨2, p, q, 0⟩, 0)
def unlinkM (d : Dk) (p : Tx) : Dk × Int :=
  if missM d p ≠ 0 then (d, missM d p)
  else if (stepM d).2 ≠ 0 then stepM d
  else (enterM (stepM d).1 ⟨3, p, [], 0⟩, 0)
def withinC (c : Ch) (dir : Tx) : Bool := decide (dirOf c.fr = dir) || decide (dirOf c.tt = dir)
/-- which changes a directory's sync brings -/
def broughtM (dir : Tx) : List Ch → List Bool
  | [] => []
  | c :: r => (withinC c dir || (r.zip (broughtM dir r)).any fun x => x.2 && shareC c x.1) :: broughtM dir r
def lastM (d : Dk) (br : List Bool) : Dk := { d with lasts := didAll d.lasts (selC (d.waits.zip br)), waits := rstC (d.waits.zip br) }
def syncDirM (d : Dk) (dir : Tx) : Dk × Int :=
  if d.off = true then (d, 10)
  else if d.dirs.contains dir = false then (d, 12)
  else if (stepM d).2 ≠ 0 then stepM d
  else (lastM (stepM d).1 (broughtM dir d.waits), 0)
def failM (d : Dk) (n e : Int) : Dk × Int :=
  if d.off = true then (d, 10) else if n < 0 ∨ (e ≠ 16 ∧ e ≠ 15) then (d, 1) else ({ d with fail := n.toNat, failed := e }, 0)
def armM (d : Dk) (n : Int) : Dk × Int :=
  if d.off = true then (d, 10) else if n < 0 then (d, 1) else ({ d with arm := n.toNat }, 0)
/-- how many bytes wait -/
def waitN (x : Nd) : Nat := (x.waits.map fun w => w.b.length).sum
def keepB : Tx → List Wr → Int → Tx
  | l, [], _ => l
  | l, w :: r, n => keepB (laid l ⟨w.at_, w.b.take (max n 0).toNat⟩) r (n - ((min (max n 0) (w.b.length : Int))))
def keepN (x : Nd) (n : Int) : Nd := ⟨keepB x.lasts x.waits n, keepB x.lasts x.waits n, []⟩
def keptM : List Nd → List Int → List Nd
  | [], _ => []
  | x :: r, ks => if waitN x = 0 then keepN x 0 :: keptM r ks else keepN x (ks.headD 0) :: keptM r ks.tail
/-- which changes survive: those ahead, with their answers -/
def survGo : List (Ch × Bool) → List Ch → List Bool → List Bool
  | _, [], _ => []
  | a, c :: r, ks =>
    let s := ks.headD false && a.all fun x => x.2 || !shareC x.1 c
    s :: survGo (a ++ [(c, s)]) r ks.tail
def survM (cs : List Ch) (ks : List Bool) : List Bool := survGo [] cs ks
def crashM (d : Dk) (kc : List Bool) (kw : List Int) : Dk :=
  { d with nodes := keptM d.nodes kw, now := didAll d.lasts (selC (d.waits.zip (survM d.waits kc))), lasts := didAll d.lasts (selC (d.waits.zip (survM d.waits kc))), waits := [], off := false, arm := 0, fail := 0 }
def pathM (L : Es) (n : Nat) : Tx := match L.find? fun e => decide (e.2 = n) with
  | none => []
  | some e => e.1
def listM (d : Dk) (dir : Tx) : List Tx := (d.now.filter fun e => decide (dirOf e.1 = dir)).map fun e => nameOf e.1
/-- what does not last yet: the writes -/
def tellGo (L : Es) : List Nd → Nat → List (Tx × Nat)
  | [], _ => []
  | x :: r, i => if waitN x = 0 then tellGo L r (i + 1) else (pathM L i, waitN x) :: tellGo L r (i + 1)
def tellM (d : Dk) : List (Tx × Nat) := tellGo d.now d.nodes 0
end Go.Proofs.YtbpooaicmjkemaaGreatDoor
