/-
  Several texts in one: Stat, RStat, RStat2, ScMdl. Conditions: each part names its own.
-/
import Derived.Test.YtjnjnccfojfghaaGreatDoorMg7
import Derived.Lib.ItoaNum
import Derived.Lib.ParseIntB
import Derived.Lib.SplitLaws
import Derived.Deep.CutBlock
import Derived.Deep.DeepCutAuto
import Derived.Outline
import Derived.Test.YtjnjnccfojfghaaGreatDoorMg14
import Derived.Test.YtjnjnccfojfghaaGreatDoorMg15
set_option linter.unusedSimpArgs false
/-! What the status of a line is, in plain words: as the document scans it, and as pieces between dots. No condition. -/
namespace Go.Proofs.YtjnjnccfojfghaaGreatDoor
set_option linter.unusedVariables false

def dg (c : UInt8) : Bool := isDig (c.toNat : Int)
/-- how many digits stand ahead, four at most -/
def run4 (l : List UInt8) : Nat := ((l.take 4).takeWhile dg).length
def valD (l : List UInt8) : Int := l.foldl (fun a c => 10 * a + (c.toNat : Int) - 48) 0
/-- does a number stand ahead? -/
def nOk (l : List UInt8) : Bool := decide (1 ≤ run4 l ∧ run4 l ≤ 3 ∧ ¬ (bt l 0 = 48 ∧ 1 < run4 l))
def nV (l : List UInt8) : Int := valD (l.take (run4 l))
def is245 (x : Int) : Bool := decide (x = 50 ∨ x = 52 ∨ x = 53)
/-- the status as the document scans it -/
def statP (l : List UInt8) : Option (Int × Int × Int) :=
  if l.length < 5 ∨ is245 (bt l 0) = false ∨ bt l 1 ≠ 46 then none
  else if nOk (l.drop 2) = false ∨ l.length ≤ 2 + run4 (l.drop 2) ∨ bt l (2 + run4 (l.drop 2)) ≠ 46 then none
  else if nOk (l.drop (3 + run4 (l.drop 2))) = false ∨ (3 + run4 (l.drop 2) + run4 (l.drop (3 + run4 (l.drop 2))) < l.length ∧ bt l (3 + run4 (l.drop 2) + run4 (l.drop (3 + run4 (l.drop 2)))) ≠ 32) then none
  else some (bt l 0 - 48, nV (l.drop 2), nV (l.drop (3 + run4 (l.drop 2))))
/-- what Status answers -/
def statV : Option (Int × Int × Int) → Value
  | none => .tuple #[.int .i64 0, .int .i64 0, .int .i64 0, .bool false]
  | some (x, a, b) => .tuple #[.int .i64 x, .int .i64 a, .int .i64 b, .bool true]
/-- is all of it a number? -/
def smOk (l : List UInt8) : Bool := nOk l && decide (run4 l = l.length)

theorem tw_mem {p : UInt8 → Bool} : ∀ {l : List UInt8} {c : UInt8}, c ∈ l.takeWhile p → p c = true
  | [], _, h => by simp at h
  | b :: l, c, h => by
    rw [List.takeWhile_cons] at h
    split at h
    · rename_i hb
      rcases List.mem_cons.1 h with rfl | h
      · exact hb
      · exact tw_mem h
    · simp at h
theorem run4_le (l : List UInt8) : run4 l ≤ 4 ∧ run4 l ≤ l.length := by
  unfold run4
  have h := (List.takeWhile_prefix (l := l.take 4) dg).length_le
  rw [List.length_take] at h
  omega
theorem run4_app (D r : List UInt8) (hD : ∀ c ∈ D, dg c = true) (h4 : D.length ≤ 3) (hr : r = [] ∨ ∃ c t, r = c :: t ∧ dg c = false) : run4 (D ++ r) = D.length := by
  unfold run4
  rw [List.take_append, List.take_of_length_le (by omega), List.takeWhile_append_of_pos hD]
  obtain ⟨k, hk⟩ : ∃ k, 4 - D.length = k + 1 := ⟨3 - D.length, by omega⟩
  rw [hk]
  rcases hr with rfl | ⟨c, t, rfl, hc⟩
  · simp
  · rw [List.take_succ_cons, List.takeWhile_cons, hc]
    simp
/-- the digits ahead, and what stands behind them -/
theorem run4_split (l : List UInt8) (h : run4 l ≤ 3) : (∀ c ∈ l.take (run4 l), dg c = true) ∧ (l.drop (run4 l) = [] ∨ ∃ c t, l.drop (run4 l) = c :: t ∧ dg c = false) := by
  have hlen := (run4_le l).2
  have e : l.take (run4 l) = (l.take 4).takeWhile dg := by
    have h1 : (l.take 4).takeWhile dg = (l.take 4).take (run4 l) := by
      have hp := List.takeWhile_prefix (l := l.take 4) dg
      exact (List.prefix_iff_eq_take.1 hp)
    rw [h1, List.take_take, Nat.min_eq_left (by omega)]
  refine ⟨fun c hc => ?_, ?_⟩
  · rw [e] at hc
    exact tw_mem hc
  · rcases Nat.lt_or_ge (run4 l) l.length with hlt | hge
    · right
      refine ⟨l[run4 l], l.drop (run4 l + 1), List.drop_eq_getElem_cons hlt, ?_⟩
      have hd : (l.take 4).dropWhile dg = (l.take 4).drop (run4 l) := by
        have h2 := List.takeWhile_append_dropWhile (p := dg) (l := l.take 4)
        have h3 : (l.take 4).drop (run4 l) = (((l.take 4).takeWhile dg) ++ (l.take 4).dropWhile dg).drop (run4 l) := by rw [h2]
        rw [h3]
        unfold run4
        rw [List.drop_left' rfl]
      have hlt4 : run4 l < (l.take 4).length := by rw [List.length_take]; omega
      rw [List.drop_eq_getElem_cons hlt4, List.getElem_take] at hd
      have := List.head_dropWhile_not dg (l := l.take 4) (by rw [hd]; simp)
      simpa [hd] using this
    · exact .inl (List.drop_eq_nil_of_le hge)
theorem mem_cut {c : UInt8} : ∀ {l : List UInt8}, l.count c ≠ 0 → ∃ p q, l = p ++ c :: q ∧ (∀ b ∈ p, b ≠ c) ∧ q.count c + 1 = l.count c
  | [], h => by simp at h
  | b :: l, h => by
    by_cases hb : b = c
    · subst hb
      exact ⟨[], l, rfl, by simp, by simp⟩
    · obtain ⟨p, q, e, h1, h2⟩ := mem_cut (l := l) (c := c) (by rwa [List.count_cons_of_ne hb] at h)
      refine ⟨b :: p, q, by rw [e]; rfl, ?_, by rw [List.count_cons_of_ne hb]; exact h2⟩
      intro x hx
      rcases List.mem_cons.1 hx with rfl | hx
      · exact hb
      · exact h1 x hx
theorem idx_app {c : UInt8} {z : List UInt8} : ∀ (y : List UInt8), (∀ b ∈ y, b ≠ c) → Lib.indexByte (y ++ c :: z) c = y.length
  | [], _ => by simp [Lib.indexByte]
  | b :: y, h => by
    have ih := idx_app (z := z) y (fun b hb => h b (by simp [hb]))
    have hb : (b == c) = false := beq_eq_false_iff_ne.2 (h b (by simp))
    rw [List.cons_append]
    unfold Lib.indexByte
    rw [hb, ih]
    simp
theorem idxR_no {c : UInt8} : ∀ (y : List UInt8), (∀ b ∈ y, b ≠ c) → Lib.indexByte y c = -1
  | [], _ => rfl
  | b :: y, h => by
    have ih := idxR_no y (fun b hb => h b (by simp [hb]))
    have hb : (b == c) = false := beq_eq_false_iff_ne.2 (h b (by simp))
    unfold Lib.indexByte
    rw [hb, ih]
    rfl
theorem spK_hit {p q : List UInt8} (k : Nat) (h : ∀ b ∈ p, b ≠ 46) : Lib.splitK [46] 0 (k + 1) (p ++ 46 :: q) = p :: Lib.splitK [46] 0 k q := by
  have e : Lib.index (p ++ 46 :: q) [46] = p.length := by rw [Lib.index_one]; exact idx_app p h
  rw [Lib.splitK, e, if_neg (by simp), Int.toNat_natCast, Nat.add_zero, List.take_left' rfl]
  congr 2
  rw [show p ++ 46 :: q = (p ++ [46]) ++ q by simp]
  exact List.drop_left' (by simp)
theorem count_nodot {p : List UInt8} (h : ∀ b ∈ p, b ≠ 46) : p.count 46 = 0 := List.count_eq_zero.2 fun hm => h 46 hm rfl
/-- a text of two dots, in three pieces -/
theorem split2 {l : List UInt8} (h : Lib.count l [46] = 2) : ∃ p q r, l = p ++ 46 :: (q ++ 46 :: r) ∧ (∀ b ∈ p, b ≠ 46) ∧ (∀ b ∈ q, b ≠ 46) ∧ (∀ b ∈ r, b ≠ 46) ∧ Lib.splitK [46] 0 2 l = [p, q, r] := by
  rw [Lib.count_one] at h
  obtain ⟨p, q', e1, h1, c1⟩ := mem_cut (l := l) (c := 46) (by omega)
  obtain ⟨q, r, e2, h2, c2⟩ := mem_cut (l := q') (c := 46) (by omega)
  have h3 : ∀ b ∈ r, b ≠ 46 := fun b hb e => by
    subst e
    exact List.count_eq_zero.1 (show r.count 46 = 0 by omega) hb
  refine ⟨p, q, r, by rw [e1, e2], h1, h2, h3, ?_⟩
  rw [e1, e2, spK_hit 1 h1, spK_hit 0 h2]
  rfl
theorem split2_back {p q r : List UInt8} (h1 : ∀ b ∈ p, b ≠ 46) (h2 : ∀ b ∈ q, b ≠ 46) (h3 : ∀ b ∈ r, b ≠ 46) :
    Lib.count (p ++ 46 :: (q ++ 46 :: r)) [46] = 2 ∧ Lib.splitK [46] 0 2 (p ++ 46 :: (q ++ 46 :: r)) = [p, q, r] := by
  refine ⟨?_, by rw [spK_hit 1 h1, spK_hit 0 h2]; rfl⟩
  rw [Lib.count_one, List.count_append, List.count_cons_self, List.count_append, List.count_cons_self, count_nodot h1, count_nodot h2, count_nodot h3]
/-- ahead of the first blank -/
theorem cut_blank (l : List UInt8) : ∃ R, l = (Lib.cut l [32]).1 ++ R ∧ (R = [] ∨ ∃ t, R = 32 :: t) ∧ ∀ b ∈ (Lib.cut l [32]).1, b ≠ 32 := by
  by_cases h : l.count 32 = 0
  · have h2 : ∀ b ∈ l, b ≠ 32 := fun b hb e => by subst e; exact List.count_eq_zero.1 h hb
    have e : (Lib.cut l [32]).1 = l := by unfold Lib.cut; rw [Lib.index_one, idxR_no l h2]; rfl
    rw [e]
    exact ⟨[], by simp, .inl rfl, h2⟩
  · obtain ⟨p, q, e1, h1, _⟩ := mem_cut h
    have e : (Lib.cut l [32]).1 = p := by unfold Lib.cut; rw [Lib.index_one, e1, idx_app p h1, if_pos (by omega), Int.toNat_natCast, List.take_left' rfl]
    rw [e]
    exact ⟨32 :: q, e1, .inr ⟨q, rfl⟩, h1⟩
theorem cut_back {h R : List UInt8} (hn : ∀ b ∈ h, b ≠ 32) (hR : R = [] ∨ ∃ t, R = 32 :: t) : (Lib.cut (h ++ R) [32]).1 = h := by
  unfold Lib.cut
  rw [Lib.index_one]
  rcases hR with rfl | ⟨t, rfl⟩
  · rw [List.append_nil, idxR_no h hn]; rfl
  · rw [idx_app h hn, if_pos (by omega), Int.toNat_natCast, List.take_left' rfl]

theorem dg_of {c : UInt8} (h : dg c = true) : 48 ≤ (c.toNat : Int) ∧ (c.toNat : Int) ≤ 57 := by unfold dg isDig at h; simpa using h
theorem dg_ne {c d : UInt8} (h : dg c = true) (hd : d.toNat < 48) : c ≠ d := by rintro rfl; have := dg_of h; omega
theorem sm_parts {l : List UInt8} (h : smOk l = true) : 1 ≤ l.length ∧ l.length ≤ 3 ∧ ¬ (bt l 0 = 48 ∧ 1 < l.length) ∧ ∀ c ∈ l, dg c = true := by
  unfold smOk nOk at h
  rw [Bool.and_eq_true, decide_eq_true_eq, decide_eq_true_eq] at h
  obtain ⟨⟨h1, h2, h3⟩, h4⟩ := h
  have := (run4_split l h2).1
  rw [h4, List.take_of_length_le (Nat.le_refl _)] at this
  rw [h4] at h1 h2 h3
  exact ⟨h1, h2, h3, this⟩
theorem sm_mk {l : List UInt8} (h1 : 1 ≤ l.length) (h2 : l.length ≤ 3) (h3 : ¬ (bt l 0 = 48 ∧ 1 < l.length)) (h4 : ∀ c ∈ l, dg c = true) : smOk l = true := by
  have e := run4_app l [] h4 h2 (.inl rfl)
  rw [List.append_nil] at e
  unfold smOk nOk
  rw [e, decide_eq_true ⟨h1, h2, h3⟩, decide_eq_true rfl]
  rfl
theorem sm_app {D r : List UInt8} (h : smOk D = true) (hr : r = [] ∨ ∃ c t, r = c :: t ∧ dg c = false) : run4 (D ++ r) = D.length ∧ nOk (D ++ r) = true ∧ nV (D ++ r) = valD D := by
  obtain ⟨h1, h2, h3, h4⟩ := sm_parts h
  have e := run4_app D r h4 h2 hr
  have hb : bt (D ++ r) 0 = bt D 0 := by
    unfold bt
    rw [List.getD_eq_getElem?_getD, List.getD_eq_getElem?_getD, List.getElem?_append_left (by omega)]
  refine ⟨e, ?_, ?_⟩
  · unfold nOk
    rw [e, hb, decide_eq_true ⟨h1, h2, h3⟩]
  · unfold nV
    rw [e, List.take_left' rfl]
theorem n_parts {l : List UInt8} (h : nOk l = true) : ∃ D r, l = D ++ r ∧ smOk D = true ∧ (r = [] ∨ ∃ c t, r = c :: t ∧ dg c = false) ∧ run4 l = D.length ∧ nV l = valD D := by
  unfold nOk at h
  rw [decide_eq_true_eq] at h
  obtain ⟨h1, h2, h3⟩ := h
  obtain ⟨q1, q2⟩ := run4_split l h2
  have hl : (l.take (run4 l)).length = run4 l := by rw [List.length_take]; have := (run4_le l).2; omega
  refine ⟨l.take (run4 l), l.drop (run4 l), (List.take_append_drop _ _).symm, sm_mk (by omega) (by omega) ?_ q1, q2, hl.symm, rfl⟩
  rw [hl]
  have : bt (l.take (run4 l)) 0 = bt l 0 := by
    unfold bt
    rw [List.getD_eq_getElem?_getD, List.getD_eq_getElem?_getD, List.getElem?_take_of_lt (by omega)]
  rw [this]
  exact h3
/-- the status, as pieces -/
structure Good (l : List UInt8) (x a b : Int) (d : UInt8) (B C R : List UInt8) : Prop where
  e : l = d :: 46 :: (B ++ 46 :: (C ++ R))
  hd : is245 (d.toNat : Int) = true
  hB : smOk B = true
  hC : smOk C = true
  hR : R = [] ∨ ∃ t, R = 32 :: t
  hx : x = (d.toNat : Int) - 48
  ha : a = valD B
  hb : b = valD C
theorem bt_app {y z : List UInt8} {c : UInt8} (k : Nat) (h : y.length = k) : bt (y ++ c :: z) k = (c.toNat : Int) := by
  subst h
  unfold bt
  rw [List.getD_eq_getElem?_getD, List.getElem?_append_right (Nat.le_refl _), Nat.sub_self]
  rfl
theorem statP_of {l : List UInt8} {x a b : Int} {d : UInt8} {B C R : List UInt8} (h : Good l x a b d B C R) : statP l = some (x, a, b) := by
  obtain ⟨e, hd, hB, hC, hR, hx, ha, hb⟩ := h
  obtain ⟨b1, b2, b3, b4⟩ := sm_parts hB
  obtain ⟨c1, c2, c3, c4⟩ := sm_parts hC
  have hR' : R = [] ∨ ∃ c t, R = c :: t ∧ dg c = false := by
    rcases hR with h | ⟨t, h⟩
    · exact .inl h
    · exact .inr ⟨32, t, h, by decide⟩
  obtain ⟨r1, r2, r3⟩ := sm_app hB (r := 46 :: (C ++ R)) (.inr ⟨46, _, rfl, by decide⟩)
  obtain ⟨s1, s2, s3⟩ := sm_app hC hR'
  have e0 : bt l 0 = (d.toNat : Int) := by rw [e]; rfl
  have e1 : bt l 1 = 46 := by rw [e]; rfl
  have e2 : l.drop 2 = B ++ 46 :: (C ++ R) := by rw [e]; rfl
  have e3 : bt l (2 + B.length) = 46 := by
    rw [e, show d :: 46 :: (B ++ 46 :: (C ++ R)) = (d :: 46 :: B) ++ 46 :: (C ++ R) by simp]
    exact bt_app _ (by simp; omega)
  have e4 : l.drop (3 + B.length) = C ++ R := by
    rw [e, show d :: 46 :: (B ++ 46 :: (C ++ R)) = (d :: 46 :: B ++ [46]) ++ (C ++ R) by simp]
    exact List.drop_left' (by simp; omega)
  have hl : l.length = 3 + B.length + C.length + R.length := by rw [e]; simp; omega
  unfold statP
  rw [e2, r1, e4, s1, s2, s3, r2, r3, e0, e1, hd, e3, if_neg (by simp; omega), if_neg (by simp; omega), if_neg ?_, hx, ha, hb]
  rintro (h | ⟨h1, h2⟩)
  · cases h
  · rcases hR with rfl | ⟨t, rfl⟩
    · simp at hl; omega
    · apply h2
      rw [e, show d :: 46 :: (B ++ 46 :: (C ++ 32 :: t)) = (d :: 46 :: (B ++ 46 :: C)) ++ 32 :: t by simp]
      exact bt_app _ (by simp; omega)
theorem good_of {l : List UInt8} {x a b : Int} (h : statP l = some (x, a, b)) : ∃ d B C R, Good l x a b d B C R := by
  unfold statP at h
  split at h
  · cases h
  rename_i h1
  split at h
  · cases h
  rename_i h2
  split at h
  · cases h
  rename_i h3
  simp only [Option.some.injEq, Prod.mk.injEq] at h
  obtain ⟨hx, ha, hb⟩ := h
  simp only [not_or, Bool.not_eq_false, Decidable.not_not, Nat.not_lt, Nat.not_le, not_and, ne_eq] at h1 h2 h3
  obtain ⟨g1, g2, g3⟩ := h1
  obtain ⟨g4, g5, g6⟩ := h2
  obtain ⟨g7, g8⟩ := h3
  obtain ⟨B, r, q1, q2, q3, q4, q5⟩ := n_parts g4
  rw [q4] at hb g5 g6 g7 g8
  obtain ⟨C, R, t1, t2, t3, t4, t5⟩ := n_parts g7
  have hl2 : l = l[0]'(by omega) :: l[1]'(by omega) :: l.drop 2 := by
    conv => lhs; rw [← List.drop_zero (l := l), List.drop_eq_getElem_cons (by omega : 0 < l.length), List.drop_eq_getElem_cons (by omega : 0 + 1 < l.length)]
  have hd1 : l[1]'(by omega) = 46 := UInt8.toNat_inj.1 (by rw [bt_getElem (by omega)] at g3; show _ = 46; omega)
  have hr : r = 46 :: l.drop (3 + B.length) := by
    have e1 : r = l.drop (2 + B.length) := by
      rw [← List.drop_drop, q1]; exact (List.drop_left' rfl).symm
    rw [e1, List.drop_eq_getElem_cons (by omega), show 2 + B.length + 1 = 3 + B.length by omega]
    congr 1
    exact UInt8.toNat_inj.1 (by rw [bt_getElem (by omega)] at g6; show _ = 46; omega)
  refine ⟨l[0]'(by omega), B, C, R, ?_, by rw [bt_getElem (by omega)] at g2; exact g2, q2, t2, ?_, by rw [← hx, bt_getElem (by omega)], by rw [← ha, q5], by rw [← hb, t5]⟩
  · conv => lhs; rw [hl2, hd1, q1, hr, t1]
  · rcases t3 with h | ⟨c, t, h, hc⟩
    · exact .inl h
    · right
      have hlt : 3 + B.length + C.length < l.length := by
        have := congrArg List.length t1
        rw [List.length_drop, List.length_append, h, List.length_cons] at this
        omega
      have e1 : R = l.drop (3 + B.length + C.length) := by
        rw [← List.drop_drop, t1]; exact (List.drop_left' rfl).symm
      rw [h, List.drop_eq_getElem_cons hlt] at e1
      injection e1 with e1 e2
      refine ⟨t, ?_⟩
      rw [h, e1]
      congr 1
      have g9 := g8 (by rw [t4]; exact hlt)
      rw [t4, bt_getElem hlt] at g9
      exact UInt8.toNat_inj.1 (by show _ = 32; omega)
theorem dec_three {u : Nat} (h1 : 100 ≤ u) (h2 : u ≤ 999) : Lib.decDigits u = [UInt8.ofNat (48 + u / 100), UInt8.ofNat (48 + u / 10 % 10), UInt8.ofNat (48 + u % 10)] := by
  rw [Lib.decDigits, dif_neg (by omega), Lib.decDigits_two (by omega) (by omega)]
  rw [show u / 10 / 10 = u / 100 by omega]
  rfl
theorem dg_nat {d : Nat} (h : d < 10) : dg (UInt8.ofNat (48 + d)) = true ∧ ((UInt8.ofNat (48 + d)).toNat : Int) = 48 + d := by
  have e : (UInt8.ofNat (48 + d)).toNat = 48 + d := by rw [UInt8.toNat_ofNat']; omega
  refine ⟨?_, by omega⟩
  unfold dg isDig
  rw [e, decide_eq_true_eq]
  omega
theorem dec_sm {u : Nat} (h : u ≤ 999) : smOk (Lib.decDigits u) = true ∧ valD (Lib.decDigits u) = (u : Int) := by
  by_cases h1 : u < 10
  · obtain ⟨a1, a2⟩ := dg_nat h1
    rw [Lib.decDigits_one h1]
    refine ⟨sm_mk (by simp) (by simp) (by simp) (by simpa using a1), ?_⟩
    simp only [valD, List.foldl_cons, List.foldl_nil]; omega
  by_cases h2 : u < 100
  · obtain ⟨a1, a2⟩ := dg_nat (d := u / 10) (by omega)
    obtain ⟨b1, b2⟩ := dg_nat (d := u % 10) (by omega)
    rw [Lib.decDigits_two h1 h2]
    refine ⟨sm_mk (by simp) (by simp) ?_ (by intro c hc; simp only [List.mem_cons, List.not_mem_nil, or_false] at hc; rcases hc with rfl | rfl <;> assumption), ?_⟩
    · rintro ⟨h, _⟩
      rw [show bt [UInt8.ofNat (48 + u / 10), UInt8.ofNat (48 + u % 10)] 0 = ((UInt8.ofNat (48 + u / 10)).toNat : Int) from rfl] at h
      omega
    · simp only [valD, List.foldl_cons, List.foldl_nil]; omega
  · obtain ⟨a1, a2⟩ := dg_nat (d := u / 100) (by omega)
    obtain ⟨b1, b2⟩ := dg_nat (d := u / 10 % 10) (by omega)
    obtain ⟨c1, c2⟩ := dg_nat (d := u % 10) (by omega)
    rw [dec_three (by omega) h]
    refine ⟨sm_mk (by simp) (by simp) ?_ (by intro c hc; simp only [List.mem_cons, List.not_mem_nil, or_false] at hc; rcases hc with rfl | rfl | rfl <;> assumption), ?_⟩
    · rintro ⟨h, _⟩
      rw [show bt [UInt8.ofNat (48 + u / 100), UInt8.ofNat (48 + u / 10 % 10), UInt8.ofNat (48 + u % 10)] 0 = ((UInt8.ofNat (48 + u / 100)).toNat : Int) from rfl] at h
      omega
    · simp only [valD, List.foldl_cons, List.foldl_nil]; omega
theorem of_nat_to {a : UInt8} {n : Nat} (h : n = a.toNat) : UInt8.ofNat n = a := by subst h; exact UInt8.ofNat_toNat
theorem sm_dec {l : List UInt8} (h : smOk l = true) : Lib.decDigits (valD l).toNat = l ∧ 0 ≤ valD l ∧ valD l ≤ 999 ∧ Lib.parseUintB 16 l = .ok (valD l).toNat := by
  obtain ⟨h1, h2, h3, h4⟩ := sm_parts h
  match l, h1, h2 with
  | [a], _, _ =>
    have ha := dg_of (h4 a (by simp))
    have e : valD [a] = (a.toNat : Int) - 48 := by simp only [valD, List.foldl_cons, List.foldl_nil]; omega
    rw [e]
    refine ⟨?_, by omega, by omega, ?_⟩
    · rw [Lib.decDigits_one (by omega), of_nat_to (a := a) (by omega)]
    · simp only [Lib.parseUintB, Lib.parseUintM, reduceCtorEq, if_false]
      rw [if_pos (by omega), if_neg (by omega), if_neg (by omega)]
      congr 1
      omega
  | [a, b], _, _ =>
    have ha := dg_of (h4 a (by simp))
    have hb := dg_of (h4 b (by simp))
    have h0 : ¬ (a.toNat : Int) = 48 := fun e => h3 ⟨e, by simp⟩
    have e : valD [a, b] = 10 * ((a.toNat : Int) - 48) + (b.toNat : Int) - 48 := by simp only [valD, List.foldl_cons, List.foldl_nil]; omega
    rw [e]
    refine ⟨?_, by omega, by omega, ?_⟩
    · rw [Lib.decDigits_two (by omega) (by omega), of_nat_to (a := a) (by omega), of_nat_to (a := b) (by omega)]
    · simp only [Lib.parseUintB, Lib.parseUintM, reduceCtorEq, if_false]
      rw [if_pos (by omega), if_neg (by omega), if_neg (by omega), if_pos (by omega), if_neg (by omega), if_neg (by omega)]
      congr 1
      omega
  | [a, b, c], _, _ =>
    have ha := dg_of (h4 a (by simp))
    have hb := dg_of (h4 b (by simp))
    have hc := dg_of (h4 c (by simp))
    have h0 : ¬ (a.toNat : Int) = 48 := fun e => h3 ⟨e, by simp⟩
    have e : valD [a, b, c] = 100 * ((a.toNat : Int) - 48) + 10 * ((b.toNat : Int) - 48) + (c.toNat : Int) - 48 := by simp only [valD, List.foldl_cons, List.foldl_nil]; omega
    rw [e]
    refine ⟨?_, by omega, by omega, ?_⟩
    · rw [dec_three (by omega) (by omega), of_nat_to (a := a) (by omega), of_nat_to (a := b) (by omega), of_nat_to (a := c) (by omega)]
    · simp only [Lib.parseUintB, Lib.parseUintM, reduceCtorEq, if_false]
      rw [if_pos (by omega), if_neg (by omega), if_neg (by omega), if_pos (by omega), if_neg (by omega), if_neg (by omega), if_pos (by omega), if_neg (by omega), if_neg (by omega)]
      congr 1
      omega
/-- what small asks: a numeral that reads as at most 999, and is written so -/
theorem sm_of {l : List UInt8} {u : Nat} (h : Lib.parseUintB 16 l = .ok u) : smOk l = (decide (u ≤ 999) && decide (Lib.decDigits u = l)) ∧ (smOk l = true → valD l = (u : Int)) := by
  have key : smOk l = true → (valD l).toNat = u ∧ u ≤ 999 ∧ Lib.decDigits u = l ∧ valD l = (u : Int) := fun hs => by
    obtain ⟨h1, h2, h3, h4⟩ := sm_dec hs
    rw [h4] at h
    injection h with h
    subst h
    exact ⟨rfl, by omega, h1, by omega⟩
  refine ⟨?_, fun hs => (key hs).2.2.2⟩
  rw [Bool.eq_iff_iff, Bool.and_eq_true, decide_eq_true_eq, decide_eq_true_eq]
  refine ⟨fun hs => ⟨(key hs).2.1, (key hs).2.2.1⟩, fun ⟨h1, h2⟩ => ?_⟩
  have := (dec_sm h1).1
  rwa [h2] at this
theorem sm_not {l : List UInt8} (h : ∀ u, Lib.parseUintB 16 l ≠ .ok u) : smOk l = false := by
  cases hs : smOk l
  · rfl
  · exact absurd (sm_dec hs).2.2.2 (h _)
end Go.Proofs.YtjnjnccfojfghaaGreatDoor

/-! The walks of waybillref14.number, Class, Status and reply.Class. No condition but the sizes that the form gives. -/
namespace Go.Proofs.YtjnjnccfojfghaaGreatDoor
open Go.RowKit Go.Sort
set_option linter.unusedVariables false

theorem valD_snoc (l : List UInt8) (c : UInt8) : valD (l ++ [c]) = 10 * valD l + (c.toNat : Int) - 48 := by simp [valD, List.foldl_append]
theorem valD_rng {l : List UInt8} (h : ∀ c ∈ l, dg c = true) (h4 : l.length ≤ 4) : 0 ≤ valD l ∧ valD l ≤ 9999 := by
  have d := fun c (hc : c ∈ l) => dg_of (h c hc)
  match l, h4 with
  | [], _ => simp [valD]
  | [a], _ => have := d a (by simp); simp only [valD, List.foldl_cons, List.foldl_nil]; omega
  | [a, b], _ => have := d a (by simp); have := d b (by simp); simp only [valD, List.foldl_cons, List.foldl_nil]; omega
  | [a, b, c], _ => have := d a (by simp); have := d b (by simp); have := d c (by simp); simp only [valD, List.foldl_cons, List.foldl_nil]; omega
  | [a, b, c, e], _ => have := d a (by simp); have := d b (by simp); have := d c (by simp); have := d e (by simp); simp only [valD, List.foldl_cons, List.foldl_nil]; omega
theorem run4_at {r : List UInt8} {j : Nat} (h : ∀ c ∈ r.take j, dg c = true) (hj : j ≤ 4) (hl : j ≤ r.length) (he : j = 4 ∨ j = r.length ∨ isDig (bt r j) = false) : run4 r = j := by
  unfold run4
  have e : (r.take 4) = r.take j ++ (r.drop j).take (4 - j) := by
    conv => lhs; rw [← List.take_append_drop j r]
    rw [List.take_append, List.take_of_length_le (by rw [List.length_take]; omega), List.length_take, Nat.min_eq_left hl]
  rw [e, List.takeWhile_append_of_pos h]
  have hz : ((r.drop j).take (4 - j)).takeWhile dg = [] := by
    rcases he with rfl | rfl | he
    · simp
    · simp
    · rcases Nat.lt_or_ge j r.length with hlt | hge
      · rcases Nat.lt_or_ge j 4 with h4 | h4
        · rw [List.drop_eq_getElem_cons hlt, show 4 - j = (3 - j) + 1 by omega, List.take_succ_cons, List.takeWhile_cons]
          rw [bt_getElem hlt] at he
          rw [show dg r[j] = false from he]
          rfl
        · rw [show 4 - j = 0 by omega]; rfl
      · rw [List.drop_eq_nil_of_le hge]; simp
  rw [hz, List.append_nil, List.length_take]
  omega
/-- what number answers -/
def NumAns (r : List UInt8) (a : Nat) (e : Ending) : Prop :=
  ∃ n k : Int, e = .returned (.tuple #[.int .i64 n, .int .i64 k, .bool (nOk r)]) ∧ (nOk r = true → n = nV r ∧ k = (a : Int) + (run4 r : Nat))

end Go.Proofs.YtjnjnccfojfghaaGreatDoor

/-! The walks of waybillref14.Status and of both Class. No condition but the sizes that the form gives. -/
namespace Go.Proofs.YtjnjnccfojfghaaGreatDoor
open Go.RowKit Go.Sort
set_option linter.unusedVariables false

def classP (n : Int) : Int := if codeOk n = true then n / 100 else 0
theorem class_walk (n : Int) (w : World) : Calls Tryz.prog 33 #[.int .i64 n] w fun e w' => w = w' ∧ e = .returned (.int .i64 (classP n)) := by
  have HC := Lib.hid (code_walk n w)
  cases hco : codeOk n
  · have h : classP n = 0 := by unfold classP; rw [hco]; rfl
    rw [hco] at HC
    rw [h]
    clear hco h
    go_enter Tryz.func33, Tryz.ntmps33
    go_wp2_with fail
    refine HC.out.mono ?_
    rintro e w' ⟨rfl, rfl⟩
    go_wp2
    go_ret
    exact ⟨rfl, rfl⟩
  · have h : classP n = n / 100 := by unfold classP; rw [hco]; rfl
    rw [hco] at HC
    rw [h]
    unfold codeOk at hco
    rw [decide_eq_true_eq] at hco
    have h0 : 200 ≤ n := hco.1
    have h1 : n ≤ 599 := hco.2.1
    clear hco h
    go_enter Tryz.func33, Tryz.ntmps33
    go_wp2_with fail
    refine HC.out.mono ?_
    rintro e w' ⟨rfl, rfl⟩
    go_wp2
    go_ret
    exact ⟨rfl, rfl⟩
theorem rclass_walk (n : Int) (w : World) : Calls Tryz.prog 25 #[.int .i64 n] w fun e w' => w = w' ∧ e = .returned (.int .i64 (classP n)) := by
  have HC := Lib.hid (rcode_walk n w)
  cases hco : codeOk n
  · have h : classP n = 0 := by unfold classP; rw [hco]; rfl
    rw [hco] at HC
    rw [h]
    clear hco h
    go_enter Tryz.func25, Tryz.ntmps25
    go_wp2_with fail
    refine HC.out.mono ?_
    rintro e w' ⟨rfl, rfl⟩
    go_wp2
    go_ret
    exact ⟨rfl, rfl⟩
  · have h : classP n = n / 100 := by unfold classP; rw [hco]; rfl
    rw [hco] at HC
    rw [h]
    unfold codeOk at hco
    rw [decide_eq_true_eq] at hco
    have h0 : 200 ≤ n := hco.1
    have h1 : n ≤ 599 := hco.2.1
    clear hco h
    go_enter Tryz.func25, Tryz.ntmps25
    go_wp2_with fail
    refine HC.out.mono ?_
    rintro e w' ⟨rfl, rfl⟩
    go_wp2
    go_ret
    exact ⟨rfl, rfl⟩

end Go.Proofs.YtjnjnccfojfghaaGreatDoor

/-! What a client makes of a server's bytes, plain: a reply heard; feeding; its measure and its sizes. No condition. -/
namespace Go.Proofs.YtjnjnccfojfghaaGreatDoor
set_option linter.unusedVariables false
def heardC (c : ClM) (cl : Nat) (r : Rep) : ClM :=
  if c.stage = 0 then toC c 1 cl r
  else if c.stage = 3 then toC c 4 cl r
  else if c.stage = 4 then (match c.ppl[c.pos]? with | some p => namedC c cl r p | none => c)
  else if c.stage = 5 then askedC c cl r
  else if c.stage = 6 then sentC c cl r
  else if c.stage = 7 then { c with stage := 8 }
  else hailedC c cl r
/-- its texts are no longer than this -/
structure CSz (c : ClM) : Prop where
  nm : c.name.length ≤ 4194304
  fr : c.frm.length ≤ 4194304
  an : ∀ p ∈ c.ppl, p.angle.length ≤ 4194304
  bd : c.body.length ≤ 8388608
  n50 : c.ppl.length ≤ 50
theorem CSz.line {c : ClM} (h : CSz c) (k : Nat) : (lineM c k).length ≤ 16777216 := by
  have h1 := h.nm
  have h2 := h.fr
  have h3 := h.bd
  have ha : (((c.ppl[c.pos]?).map (·.angle)).getD []).length ≤ 4194304 := by
    cases hp : c.ppl[c.pos]? with
    | none => simp
    | some p => exact h.an p (List.mem_of_getElem? hp)
  have hr : rcptS.length ≤ 20 := by decide
  unfold lineM
  repeat' split
  all_goals first | omega | (simp only [List.length_append, List.length_cons, List.length_nil]; omega)
theorem le_help {o x y M K : Nat} (h : o + y * M ≤ K) (hxy : x ≤ y) : o + x * M ≤ K := by
  have := Nat.mul_le_mul_right M hxy
  omega
/-- how much is before it at most -/
def rk (c : ClM) : Nat := (8 - c.stage) + (c.ppl.length - c.pos)
structure COk (c : ClM) : Prop where
  sz : CSz c
  st : c.stage ≤ 8
  pos : c.stage ≤ 4 → c.pos < c.ppl.length
  ln : c.out.length + rk c * 16777216 ≤ 2000000000
/-- where it stands is a place -/
structure CPo (c : ClM) : Prop where
  st : c.stage ≤ 8
  pos : c.stage ≤ 4 → c.pos < c.ppl.length
theorem COk.po {c : ClM} (h : COk c) : CPo c := ⟨h.st, h.pos⟩
theorem COk.len {c : ClM} (h : COk c) : CLen c := by
  have h1 := h.sz.nm
  have h2 := h.sz.fr
  have h3 := h.sz.bd
  have h4 := h.ln
  exact ⟨by omega, by omega, fun p hp => by have := h.sz.an p hp; omega⟩
/-- one step on -/
structure Nx (c c' : ClM) : Prop where
  sz : CSz c → CSz c'
  st : c'.stage ≤ 8
  pos : c'.stage ≤ 4 → c'.pos < c'.ppl.length
  ln : CSz c → c'.out.length ≤ c.out.length + 16777216
  rk : rk c' < rk c
theorem COk.next {c c' : ClM} (h : COk c) (n : Nx c c') : COk c' := by
  refine ⟨n.sz h.sz, n.st, n.pos, ?_⟩
  have h1 := n.ln h.sz
  have h2 := n.rk
  have h3 := h.ln
  have h4 : (rk c' + 1) * 16777216 ≤ rk c * 16777216 := Nat.mul_le_mul_right _ h2
  omega
theorem Nx.beg (c : ClM) (k : Nat) (hk : k ≤ 7) (hs : c.stage < k) (hp : k ≤ 4 → c.pos < c.ppl.length) : Nx c (begC c k) := by
  refine ⟨fun h => ⟨h.nm, h.fr, h.an, h.bd, h.n50⟩, by show k ≤ 8; omega, hp, fun h => ?_, ?_⟩
  · show (c.out ++ lineM c k).length ≤ _
    have := h.line k
    rw [List.length_append]; omega
  · show (8 - k) + (c.ppl.length - c.pos) < (8 - c.stage) + (c.ppl.length - c.pos)
    omega
theorem decP_angle (f : Bool) (st : Nat) (code : Int) (text : Tx) (p : Pers) : (decP f st code text p).angle = p.angle := by
  unfold decP; split <;> rfl
theorem Nx.all (c : ClM) (f : Bool) (st : Nat) (code : Int) (text : Tx) (hs : c.stage < 7) : Nx c (allC c f st code text) := by
  refine ⟨fun h => ⟨h.nm, h.fr, fun p hp => ?_, h.bd, ?_⟩, by show (7 : Nat) ≤ 8; omega, fun h => absurd (show (7 : Nat) ≤ 4 from h) (by decide), fun h => ?_, ?_⟩
  · obtain ⟨p0, h0, rfl⟩ := List.mem_map.1 (show p ∈ c.ppl.map _ from hp)
    rw [decP_angle]
    exact h.an p0 h0
  · show (c.ppl.map _).length ≤ 50
    rw [List.length_map]; exact h.n50
  · show (c.out ++ lineM c 7).length ≤ _
    have := h.line 7
    rw [List.length_append]; omega
  · show (8 - 7) + ((c.ppl.map _).length - c.pos) < (8 - c.stage) + (c.ppl.length - c.pos)
    rw [List.length_map]; omega
theorem Nx.to (c : ClM) (k cl : Nat) (r : Rep) (hk : k ≤ 7) (hs : c.stage < k) (hs7 : c.stage < 7) (hp : k ≤ 4 → c.pos < c.ppl.length) : Nx c (toC c k cl r) := by
  unfold toC
  split
  · exact Nx.beg c k hk hs hp
  · exact Nx.all c _ _ _ _ hs7
theorem nmP_angle (cl : Nat) (r : Rep) (p : Pers) : (nmP cl r p).angle = p.angle := by
  unfold nmP; split <;> rfl
theorem nm_sz {c : ClM} (h : CSz c) {p : Pers} (hp : c.ppl[c.pos]? = some p) (cl : Nat) (r : Rep) : CSz (nmC0 c cl r p) := by
  refine ⟨h.nm, h.fr, fun q hq => ?_, h.bd, ?_⟩
  · rcases List.mem_or_eq_of_mem_set (show q ∈ c.ppl.set _ _ from hq) with h1 | h1
    · exact h.an q h1
    · rw [h1, nmP_angle]; exact h.an p (List.mem_of_getElem? hp)
  · show (c.ppl.set _ _).length ≤ 50
    rw [List.length_set]; exact h.n50
theorem nmC0_len (c : ClM) (cl : Nat) (r : Rep) (p : Pers) : (nmC0 c cl r p).ppl.length = c.ppl.length := List.length_set ..
theorem Nx.named (c : ClM) (hs : c.stage = 4) {p : Pers} (hp : c.ppl[c.pos]? = some p) (cl : Nat) (r : Rep) : Nx c (namedC c cl r p) := by
  have hl := (List.getElem?_eq_some_iff.1 hp).1
  have hn := nmC0_len c cl r p
  have hk : nmK (nmC0 c cl r p) ≤ 7 ∧ 4 ≤ nmK (nmC0 c cl r p) ∧ (nmK (nmC0 c cl r p) ≤ 4 → c.pos + 1 < c.ppl.length) := by
    unfold nmK
    rw [hn]
    split
    · rename_i h1
      exact ⟨by omega, by omega, fun _ => h1⟩
    · split <;> exact ⟨by omega, by omega, fun h => by omega⟩
  generalize hK : nmK (nmC0 c cl r p) = K at hk
  unfold namedC
  rw [hK]
  refine ⟨fun h => ?_, by show K ≤ 8; omega, fun h => ?_, fun h => ?_, ?_⟩
  · have h1 := nm_sz h hp cl r
    exact ⟨h1.nm, h1.fr, h1.an, h1.bd, h1.n50⟩
  · show c.pos + 1 < (nmC0 c cl r p).ppl.length
    rw [hn]; exact hk.2.2 h
  · show (c.out ++ lineM _ K).length ≤ _
    have := (nm_sz h hp cl r).line K
    rw [List.length_append]; omega
  · show (8 - K) + ((nmC0 c cl r p).ppl.length - (c.pos + 1)) < (8 - c.stage) + (c.ppl.length - c.pos)
    rw [hn]; omega
theorem Nx.heard {c : ClM} (h : CPo c) (hs : c.stage < 8) (cl : Nat) (r : Rep) : Nx c (heardC c cl r) := by
  have hp := h.pos
  unfold heardC
  by_cases h0 : c.stage = 0
  · rw [if_pos h0]; exact Nx.to c 1 cl r (by omega) (by omega) (by omega) (fun _ => hp (by omega))
  rw [if_neg h0]
  by_cases h3 : c.stage = 3
  · rw [if_pos h3]; exact Nx.to c 4 cl r (by omega) (by omega) (by omega) (fun _ => hp (by omega))
  rw [if_neg h3]
  by_cases h4 : c.stage = 4
  · rw [if_pos h4, List.getElem?_eq_getElem (hp (by omega))]
    exact Nx.named c h4 (List.getElem?_eq_getElem (hp (by omega))) cl r
  rw [if_neg h4]
  by_cases h5 : c.stage = 5
  · rw [if_pos h5]
    unfold askedC
    split
    · exact ⟨fun h => ⟨h.nm, h.fr, h.an, h.bd, h.n50⟩, by show (8 : Nat) ≤ 8; omega, fun h => absurd (show (8 : Nat) ≤ 4 from h) (by decide), fun _ => by show c.out.length ≤ _; omega, by show (8 - 8) + (c.ppl.length - c.pos) < (8 - c.stage) + (c.ppl.length - c.pos); omega⟩
    · split
      · exact Nx.beg c 6 (by omega) (by omega) (fun h => by omega)
      · exact Nx.all c _ _ _ _ (by omega)
  rw [if_neg h5]
  by_cases h6 : c.stage = 6
  · rw [if_pos h6]
    exact Nx.all c _ _ _ _ (by omega)
  rw [if_neg h6]
  by_cases h7 : c.stage = 7
  · rw [if_pos h7]
    exact ⟨fun h => ⟨h.nm, h.fr, h.an, h.bd, h.n50⟩, by show (8 : Nat) ≤ 8; omega, fun h => absurd (show (8 : Nat) ≤ 4 from h) (by decide), fun _ => by show c.out.length ≤ _; omega, by show (8 - 8) + (c.ppl.length - c.pos) < (8 - c.stage) + (c.ppl.length - c.pos); omega⟩
  rw [if_neg h7]
  unfold hailedC
  split
  · rename_i h1
    exact Nx.beg c 2 (by omega) (by omega) (fun _ => hp (by omega))
  · have hq := Nx.to { c with well := decide (cl = 2) } 3 cl r (by omega) (by show c.stage < 3; omega) (by show c.stage < 7; omega) (fun _ => hp (by omega))
    exact ⟨fun h => hq.sz ⟨h.nm, h.fr, h.an, h.bd, h.n50⟩, hq.st, hq.pos, fun h => hq.ln ⟨h.nm, h.fr, h.an, h.bd, h.n50⟩, hq.rk⟩
/-- a reading's reply -/
def repOf (a : RR) : Rep := ⟨a.c, 0, 0, 0, 0, ((a.L[0]?).map (·.data.toList)).getD []⟩
def clsN (code : Int) : Nat := (classP code).toNat
def stopB (st : Nat) (a : RR) : Bool := a.e != 0 || (clsN a.c == 3 && (st != 7 && (st != 5 || a.c != 354)))
def feedL : Nat → ClM → ClM
  | 0, c => c
  | k + 1, c =>
    if c.stage = 8 then c
    else if (readP c.left).e = 140 then c
    else if stopB c.stage (readP c.left) = true then { c with stage := 8 }
    else feedL k (heardC { c with left := c.left.drop (readP c.left).n.toNat } (clsN (readP c.left).c) (repOf (readP c.left)))
def feedC (c : ClM) (b : Tx) : ClM := if c.stage = 8 then c else feedL (rk c + 1) { c with idle := 0, out := [], left := c.left ++ b }
/-- what Feed answers -/
def feedO (c : ClM) (b : Tx) : Tx := if c.stage = 8 then [] else (feedC c b).out
theorem to_left (c : ClM) (k cl : Nat) (r : Rep) : (toC c k cl r).left = c.left := by
  unfold toC; split <;> rfl
theorem heardC_left (c : ClM) (cl : Nat) (r : Rep) : (heardC c cl r).left = c.left := by
  unfold heardC
  split
  · exact to_left ..
  · split
    · exact to_left ..
    · split
      · split <;> rfl
      · split
        · unfold askedC
          split
          · rfl
          · split <;> rfl
        · split
          · rfl
          · split
            · rfl
            · unfold hailedC
              split
              · rfl
              · exact to_left { c with well := decide (cl = 2) } 3 cl r
theorem to_idle (c : ClM) (k cl : Nat) (r : Rep) : (toC c k cl r).idle = c.idle := by
  unfold toC; split <;> rfl
theorem heardC_idle (c : ClM) (cl : Nat) (r : Rep) : (heardC c cl r).idle = c.idle := by
  unfold heardC
  split
  · exact to_idle ..
  · split
    · exact to_idle ..
    · split
      · split <;> rfl
      · split
        · unfold askedC
          split
          · rfl
          · split <;> rfl
        · split
          · rfl
          · split
            · rfl
            · unfold hailedC
              split
              · rfl
              · exact to_idle { c with well := decide (cl = 2) } 3 cl r
theorem feedL_left : ∀ (k : Nat) (c : ClM), (feedL k c).left.length ≤ c.left.length
  | 0, c => Nat.le_refl _
  | k + 1, c => by
    unfold feedL
    split
    · exact Nat.le_refl _
    · split
      · exact Nat.le_refl _
      · split
        · exact Nat.le_refl _
        · refine Nat.le_trans (feedL_left k _) ?_
          rw [heardC_left]
          show (c.left.drop _).length ≤ _
          rw [List.length_drop]; omega
theorem feedL_ok : ∀ (k : Nat) (c : ClM), COk c → COk (feedL k c)
  | 0, c, h => h
  | k + 1, c, h => by
    unfold feedL
    split
    · exact h
    · split
      · exact h
      · split
        · refine ⟨⟨h.sz.nm, h.sz.fr, h.sz.an, h.sz.bd, h.sz.n50⟩, by show (8 : Nat) ≤ 8; omega, fun h => absurd (show (8 : Nat) ≤ 4 from h) (by decide), ?_⟩
          have h2 : rk { c with stage := 8 } ≤ rk c := by
            show (8 - 8) + (c.ppl.length - c.pos) ≤ (8 - c.stage) + (c.ppl.length - c.pos)
            omega
          exact le_help h.ln h2
        · rename_i h8 _ _
          have hst : c.stage < 8 := by have := h.st; omega
          have hc : COk { c with left := c.left.drop (readP c.left).n.toNat } := ⟨⟨h.sz.nm, h.sz.fr, h.sz.an, h.sz.bd, h.sz.n50⟩, h.st, h.pos, h.ln⟩
          exact feedL_ok k _ (hc.next (Nx.heard hc.po hst _ _))
theorem COk.start {c : ClM} (h : COk c) (b : Tx) : COk { c with idle := 0, out := [], left := c.left ++ b } := by
  refine ⟨⟨h.sz.nm, h.sz.fr, h.sz.an, h.sz.bd, h.sz.n50⟩, h.st, h.pos, ?_⟩
  have := h.ln
  show 0 + rk c * 16777216 ≤ 2000000000
  omega
theorem feedC_ok {c : ClM} (h : COk c) (b : Tx) : COk (feedC c b) := by
  unfold feedC
  split
  · exact h
  · exact feedL_ok _ _ (h.start b)
theorem feedC_left (c : ClM) (b : Tx) : (feedC c b).left.length ≤ c.left.length + b.length := by
  unfold feedC
  split
  · omega
  · refine Nat.le_trans (feedL_left _ _) ?_
    show (c.left ++ b).length ≤ _
    rw [List.length_append]; omega
end Go.Proofs.YtjnjnccfojfghaaGreatDoor
