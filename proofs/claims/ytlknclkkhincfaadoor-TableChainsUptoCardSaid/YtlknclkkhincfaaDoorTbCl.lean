/-
  The document's table of a text is the program's; both answer alike. No program in sight. No condition.
-/
import Derived.Test.YtlknclkkhincfaaDoorTbRp
import Derived.Test.YtlknclkkhincfaaDoorTbRk
namespace Go.Proofs.YtlknclkkhincfaaDoor
set_option linter.unusedVariables false
/-! ### lookups -/
def AsciiT (T : List En) : Prop := ∀ e ∈ T, ∀ b ∈ e.k, b.toNat < 128
theorem lookE_same {T : List En} (hs : sortE T) {k1 k2 : List UInt8} (h : ∀ e ∈ T, e.k = k1 ↔ e.k = k2) : lookE T k1 = lookE T k2 := by
  by_cases h1 : hasE T k1 = true
  · obtain ⟨e, he, hk⟩ := (hasE_mem hs k1).1 h1
    have := (h e he).1 hk
    rw [← hk, this]
  · have h2 : ¬ hasE T k2 = true := fun h2 => h1 ((hasE_mem hs k1).2 (by
      obtain ⟨e, he, hk⟩ := (hasE_mem hs k2).1 h2
      exact ⟨e, he, (h e he).2 hk⟩))
    rw [lookE_no (by simpa using h1), lookE_no (by simpa using h2)]
theorem ex_same {T : List En} (hs : sortE T) (ha : AsciiT T) : exP T = exR T := by
  funext key
  unfold exP exR
  refine lookE_same hs fun e he => ?_
  have := mapLow key e.k (ha e he)
  exact ⟨fun h => (this.1 h.symm).symm, fun h => (this.2 h.symm).symm⟩
theorem ask_same {q1 q2 : List En → List UInt8 × Bool} : ∀ L : List (Option (List En)), (∀ T, some T ∈ L → q1 T = q2 T) → askP q1 (L.filterMap id) = askR q2 L
  | [], _ => rfl
  | none :: r, h => by
    show askP q1 (r.filterMap id) = askR q2 r
    exact ask_same r fun T hT => h T (by simp [hT])
  | some T :: r, h => by
    show (if (q1 T).2 = true then q1 T else askP q1 (r.filterMap id)) = (if (q2 T).2 = true then q2 T else askR q2 r)
    rw [h T (by simp), ask_same r fun T hT => h T (by simp [hT])]
/-! ### values -/
theorem valGo_tail : ∀ (ps : List (List UInt8)) (s : List UInt8), s ≠ [] → valGo s ps = s ++ Lib.joinTail [32] ps
  | [], s, _ => by simp [valGo, Lib.joinTail]
  | p :: r, s, h => by
    rw [valGo, if_neg h, valGo_tail r _ (by simp)]
    simp [Lib.joinTail]
theorem valGo_join {ps : List (List UInt8)} (hp : ∀ p ∈ ps, p ≠ []) (s : List UInt8) : valGo s ps = joinB ((if s = [] then [] else [s]) ++ ps) := by
  by_cases h : s = []
  · subst h
    rw [if_pos rfl, List.nil_append]
    unfold joinB
    cases ps with
    | nil => rfl
    | cons p r =>
      rw [valGo, if_pos rfl, List.nil_append, valGo_tail r p (hp p (by simp)), Lib.join_cons]
  · rw [if_neg h, valGo_tail ps s h]
    unfold joinB
    rw [List.singleton_append, Lib.join_cons]
/-! ### lines -/
def toPL (x : PL) : PL := ⟨x.at_, (x.key.take (firstBl x.key)).map lowC, (if trimB (x.key.drop (firstBl x.key)) = [] then [] else [trimB (x.key.drop (firstBl x.key))]) ++ x.ps⟩
theorem toPL_add (x : PL) (s : List UInt8) : toPL (addP x s) = addP (toPL x) s := by
  unfold addP
  split
  · rfl
  · unfold toPL
    simp
theorem okC_key {s : List UInt8} (h : s.all okC = true) : ∀ b ∈ s, b.toNat < 128 := fun b hb => okC_lo (List.all_eq_true.1 h b hb)
theorem newPL_toPL {s : List UInt8} (h : s.all okC = true) (at_ : Nat) : newPL at_ s = toPL ⟨at_, s, []⟩ := by
  unfold newPL
  rw [mapLow_lo _ fun b hb => okC_key h b (List.mem_of_mem_take hb), addP_new]
  unfold toPL addP
  simp only []
  split <;> simp
theorem trimB_trimL : ∀ s : List UInt8, trimB (trimL s) = trimB s
  | [] => rfl
  | c :: r => by
    by_cases h : isBl c = true
    · have : trimL (c :: r) = trimL r := by unfold trimL; rw [List.dropWhile_cons_of_pos h]
      rw [this, trimB_trimL r, trimB_bl h]
    · have : trimL (c :: r) = c :: r := by unfold trimL; rw [List.dropWhile_cons_of_neg (by simpa using h)]
      rw [this]
/-- a line that begins with no blank keeps its first byte -/
theorem trimB_head {c : UInt8} (hc : isBl c = false) : ∀ (n : Nat) (r : List UInt8), r.length = n → (trimB (c :: r)).head? = some c := by
  intro n
  induction n with
  | zero =>
    intro r hr
    obtain rfl := List.eq_nil_of_length_eq_zero hr
    rw [trimB_self (m := [c]) hc hc rfl rfl]
    rfl
  | succ n ih =>
    intro r hr
    rcases snoc_or r with rfl | ⟨r', y, rfl⟩
    · simp at hr
    · by_cases hy : isBl y = true
      · rw [← List.cons_append, trimB_snoc hy]
        exact ih r' (by simpa using hr)
      · rw [trimB_self (m := c :: (r' ++ [y])) hc (show isBl y = false by simpa using hy) rfl (by rw [← List.cons_append, List.getLast?_append]; rfl)]
        rfl
theorem trimL_head (s : List UInt8) : trimL s = [] ∨ ∃ c r, trimL s = c :: r ∧ isBl c = false := by
  induction s with
  | nil => exact .inl rfl
  | cons c r ih =>
    by_cases h : isBl c = true
    · have : trimL (c :: r) = trimL r := by unfold trimL; rw [List.dropWhile_cons_of_pos h]
      rw [this]; exact ih
    · refine .inr ⟨c, r, ?_, by simpa using h⟩
      unfold trimL; rw [List.dropWhile_cons_of_neg (by simpa using h)]
theorem skip_same (s : List UInt8) : skipB s = skipD s := by
  unfold skipB skipD
  rw [trimB_trimL]
  rcases trimL_head s with h | ⟨c, r, h, hc⟩
  · have : trimB s = [] := by rw [← trimB_trimL, h]; rfl
    rw [this, h]
  · have h1 := trimB_head hc r.length r rfl
    have : trimB s = trimB (c :: r) := by rw [← trimB_trimL, h]
    rw [this, h, h1]
    first | done | rfl
theorem head_same (s : List UInt8) (hs : skipD s = false) : headB s = !blD s := by
  cases s with
  | nil => exact absurd hs (by decide)
  | cons c r =>
    unfold headB blD
    by_cases h : isBl c = true
    · have e : trimL (c :: r) = trimL r := by unfold trimL; rw [List.dropWhile_cons_of_pos h]
      have := trimL_len r
      rw [e]
      show _ = !isBl c
      rw [h]
      simp only [Bool.not_true, beq_eq_false_iff_ne]
      simp
      omega
    · have e : trimL (c :: r) = c :: r := by unfold trimL; rw [List.dropWhile_cons_of_neg (by simpa using h)]
      have h' : isBl c = false := by simpa using h
      rw [e]
      show _ = !isBl c
      rw [h']
      simp
theorem modLast_map (out : List PL) (s : List UInt8) : (modLast out s).map toPL = modLast (out.map toPL) s := by
  unfold modLast
  rw [List.getLast?_map]
  cases h : out.getLast? with
  | none => rfl
  | some x =>
    simp only [Option.map_some]
    rw [List.map_append, List.map_dropLast]
    simp [toPL_add]
/-- the program's lines and the document's -/
structure Sim (o : List PL × Int) (d : List PL × List Nat) : Prop where
  ls : o.1 = d.1.map toPL
  bd : o.2 < 0 ↔ d.2 = []
  ne : ∀ x ∈ d.1, ∀ p ∈ x.ps, p ≠ []
  ok : ∀ x ∈ d.1, x.key.all okC = true
theorem add_ne {x : PL} {s : List UInt8} (h : ∀ p ∈ x.ps, p ≠ []) : ∀ p ∈ (addP x s).ps, p ≠ [] := fun p hp => by
  unfold addP at hp
  split at hp
  · exact h p hp
  · rename_i hs
    rcases List.mem_append.1 hp with hp | hp
    · exact h p hp
    · obtain rfl : p = trimB s := by simpa using hp
      exact hs
theorem add_key (x : PL) (s : List UInt8) : (addP x s).key = x.key := by unfold addP; split <;> rfl
theorem last_all {out : List PL} {s : List UInt8} {Q : PL → Prop} (h : ∀ x ∈ out, Q x) (ha : ∀ x, Q x → Q (addP x s)) : ∀ x ∈ modLast out s, Q x := by
  intro x hx
  unfold modLast at hx
  split at hx
  · exact h x hx
  · rename_i y hy
    rcases List.mem_append.1 hx with hx | hx
    · exact h x (List.mem_of_mem_dropLast' hx)
    · obtain rfl : x = addP y s := by simpa using hx
      exact ha y (h y (List.mem_of_getLast? hy))
theorem Sim.step {o : List PL × Int} {d : List PL × List Nat} (h : Sim o d) (at_ : Nat) {s : List UInt8} (hs : s.all okC = true) : Sim (cutStep at_ s o) (dStep at_ s d) := by
  unfold cutStep dStep
  rw [skip_same]
  cases hk : skipD s with
  | true => exact h
  | false =>
    rw [head_same s hk]
    simp only [Bool.false_eq_true, if_false]
    cases hb : blD s with
    | true =>
      simp only [Bool.not_true, Bool.false_eq_true, if_false, if_true]
      by_cases ho : d.1 = []
      · rw [if_pos (by rw [h.ls, ho]; rfl), if_pos ho]
        refine ⟨h.ls, ⟨fun hw => ?_, fun hw => by simp at hw⟩, h.ne, h.ok⟩
        exfalso
        have hw : worse o.2 at_ < 0 := hw
        unfold worse at hw
        split at hw
        · omega
        · omega
      · rw [if_neg (by rw [h.ls]; simpa using ho), if_neg ho]
        exact ⟨by show modLast o.1 s = _; rw [h.ls, modLast_map], h.bd, last_all (Q := fun x => ∀ p ∈ x.ps, p ≠ []) h.ne fun x hx => add_ne hx, last_all (Q := fun x => x.key.all okC = true) h.ok fun x hx => by rw [add_key]; exact hx⟩
    | false =>
      simp only [Bool.not_false, Bool.false_eq_true, if_false, if_true]
      refine ⟨by show o.1 ++ [newPL at_ s] = _; rw [h.ls, newPL_toPL hs]; simp, h.bd, fun x hx => ?_, fun x hx => ?_⟩
      · rcases List.mem_append.1 hx with hx | hx
        · exact h.ne x hx
        · obtain rfl : x = _ := by simpa using hx
          intro p hp; cases hp
      · rcases List.mem_append.1 hx with hx | hx
        · exact h.ok x hx
        · obtain rfl : x = _ := by simpa using hx
          exact hs
theorem all_drop' {rest : List UInt8} (h : rest.all okC = true) (k : Nat) : (rest.drop k).all okC = true := List.all_eq_true.2 fun b hb => List.all_eq_true.1 h b (List.mem_of_mem_drop hb)
theorem Sim.go : ∀ (f : Nat) (rest : List UInt8) (at_ : Nat) {o : List PL × Int} {d : List PL × List Nat}, Sim o d → rest.all okC = true → Sim (cutGo f rest at_ o) (dGo f rest at_ d)
  | 0, _, _, _, _, h, _ => h
  | f + 1, rest, at_, o, d, h, ha => by
    rw [cutGo, dGo]
    split
    · exact h
    · exact Sim.go f _ _ (h.step at_ (List.all_eq_true.2 fun b hb => List.all_eq_true.1 ha b ((List.takeWhile_prefix _).subset hb))) (all_drop' ha _)
/-! ### tables -/
theorem parseGo_bad : ∀ (L : List PL) (T : List En) (c a : Int), c ≠ 0 → (parseGo L T c a).2.1 ≠ 0
  | [], T, c, a, h => h
  | x :: r, T, c, a, h => by
    rw [parseGo]
    split
    · exact h
    · split
      · simp
      · split
        · simp
        · split
          · simp
          · exact parseGo_bad r _ c a h
theorem go_same : ∀ (out : List PL) (T : List En) (a : Int), T.length ≤ 2000 → (∀ x ∈ out, ∀ p ∈ x.ps, p ≠ []) →
    (∀ U, refGo out T = some U → parseGo (out.map toPL) T 0 a = (U, 0, a)) ∧ (refGo out T = none → (parseGo (out.map toPL) T 0 a).2.1 ≠ 0)
  | [], T, a, _, _ => ⟨fun U h => by obtain rfl := Option.some.inj h; rfl, fun h => by cases h⟩
  | x :: r, T, a, hl, hp => by
    have hk : (toPL x).key = (entD x).k := rfl
    have hv : joinB (toPL x).ps = (entD x).v := (valGo_join (hp x (by simp)) _).symm
    rw [List.map_cons, parseGo, refGo, hk, hv, if_neg (show ¬ (¬ (0 : Int) = 0 ∧ a ≤ ((toPL x).at_ : Int)) from fun h => h.1 rfl)]
    by_cases c1 : 320 < (entD x).k.length ∨ (entD x).v = [] ∨ 1000 < (entD x).v.length
    · rw [if_pos c1, if_pos c1]
      exact ⟨(fun U h => by cases h), fun _ => by simp⟩
    · rw [if_neg c1, if_neg c1]
      by_cases c2 : hasE T (entD x).k = true
      · rw [if_pos c2, if_pos c2]
        exact ⟨(fun U h => by cases h), fun _ => by simp⟩
      · rw [if_neg c2, if_neg c2]
        by_cases c3 : 2000 ≤ T.length
        · rw [if_pos (show T.length = 2000 by omega), if_pos c3]
          exact ⟨(fun U h => by cases h), fun _ => by simp⟩
        · rw [if_neg (show ¬ T.length = 2000 by omega), if_neg c3]
          exact go_same r (putE T (entD x)) a (by rw [putE_len]; omega) fun y hy => hp y (by simp [hy])
theorem go_ascii : ∀ (out : List PL) (T U : List En), AsciiT T → (∀ x ∈ out, x.key.all okC = true) → refGo out T = some U → AsciiT U
  | [], T, U, h, _, hU => by obtain rfl := Option.some.inj hU; exact h
  | x :: r, T, U, h, hk, hU => by
    rw [refGo] at hU
    split at hU
    · cases hU
    · split at hU
      · cases hU
      · split at hU
        · cases hU
        · refine go_ascii r _ U (fun e he b hb => ?_) (fun y hy => hk y (by simp [hy])) hU
          rcases putE_mem.1 he with rfl | he
          · obtain ⟨b0, hb0, rfl⟩ := List.mem_map.1 (show b ∈ (x.key.take (firstBl x.key)).map lowC from hb)
            exact (lowC_lo b0).2 (okC_key (hk x (by simp)) b0 (List.mem_of_mem_take hb0))
          · exact h e he b hb
theorem cut_bad : ∀ (f : Nat) (rest : List UInt8) (at_ : Nat) (o : List PL × Int), 0 ≤ o.2 → 0 ≤ (cutGo f rest at_ o).2
  | 0, _, _, _, h => h
  | f + 1, rest, at_, o, h => by
    rw [cutGo]
    split
    · exact h
    · refine cut_bad f _ _ _ ?_
      unfold cutStep
      split
      · exact h
      · split
        · exact h
        · split
          · show 0 ≤ worse o.2 at_
            unfold worse
            split
            · omega
            · exact h
          · exact h
/-- the document's table of a text is the program's -/
theorem parse_same (text : List UInt8) : refP text = (if (parseP text).2.1 = 0 then some (parseP text).1 else none) ∧ ∀ T, refP text = some T → AsciiT T := by
  unfold refP parseP
  by_cases hl : 262144 < text.length
  · rw [if_pos hl, if_pos hl]
    exact ⟨rfl, fun T h => by cases h⟩
  · rw [if_neg hl, if_neg hl]
    by_cases ha : text.all okC = true
    · rw [if_pos ha]
      have h0 : Sim ([], Lib.idxFunc badR true ⟨text.toArray⟩) (([], []) : List PL × List Nat) := ⟨rfl, ⟨fun _ => rfl, fun _ => (idx_ok text).2 ha⟩, (fun x hx => by cases hx), (fun x hx => by cases hx)⟩
      have h1 : Sim (cutP text) (dGo text.length text 0 ([], [])) := h0.go text.length text 0 ha
      generalize cutP text = o at *
      generalize dGo text.length text 0 ([], []) = d at *
      by_cases hb : d.2 = []
      · rw [if_pos hb, if_neg (show ¬ 0 ≤ o.2 by have := h1.bd.2 hb; omega), h1.ls]
        obtain ⟨g1, g2⟩ := go_same d.1 [] o.2 (by simp) h1.ne
        refine ⟨?_, fun T hT => go_ascii d.1 [] T (fun e he => by cases he) h1.ok hT⟩
        cases hr : refGo d.1 [] with
        | none => rw [if_neg (g2 hr)]
        | some U => rw [g1 U hr, if_pos rfl]
      · rw [if_neg hb, if_pos (show 0 ≤ o.2 by have := mt h1.bd.1 hb; omega), if_neg (parseGo_bad _ _ _ _ (by decide))]
        exact ⟨rfl, fun T h => by cases h⟩
    · rw [if_neg ha]
      have hi : 0 ≤ Lib.idxFunc badR true ⟨text.toArray⟩ := by have := mt (idx_ok text).1 ha; omega
      have hb : 0 ≤ (cutP text).2 := cut_bad text.length text 0 ([], Lib.idxFunc badR true ⟨text.toArray⟩) hi
      rw [if_pos hb, if_neg (parseGo_bad _ _ _ _ (by decide))]
      exact ⟨rfl, fun T h => by cases h⟩
end Go.Proofs.YtlknclkkhincfaaDoor
