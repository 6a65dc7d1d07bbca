/-
  What Decode answers, as one form; its sizes; a message of the caller's own in memory. No condition.
-/
import Derived.Test.YtfnhaddgdfkmcaaDoorSm
namespace Go.Proofs.YtfnhaddgdfkmcaaDoor
open Go.RowKit Go.Sort
set_option linter.unusedVariables false

/-- the sizes that a message in memory has -/
structure MsgSz (m : Msg) : Prop where
  m1 : m.rcpts.length ≤ 6000000000000
  m2 : m.data.length ≤ 140737488351232
  t0 : -9223372036854775808 ≤ m.time
  t1 : m.time ≤ 9223372036854775807
  sf : m.frm.size ≤ maxLen
  st : ∀ r ∈ m.rcpts, r.to.size ≤ maxLen
theorem MsgAt.sz {w : World} {B : Nat} {m : Msg} {A1 : Option Addr} {c1 : Nat} {A2 : Option Addr} {c2 : Nat} (h : MsgAt w B m A1 c1 A2 c2) : MsgSz m := ⟨h.m1, h.m2, h.t0, h.t1, h.sf, h.st⟩
theorem MsgOwn.out {w : World} {base : Nat} {m : Msg} {v1 v2 : Value} (h : MsgOwn w base m v1 v2) (hz : MsgSz m) : ∃ A1 c1 A2 c2, v1 = .slice A1 m.rcpts.length c1 ∧ v2 = .slice A2 m.data.length c2 ∧ MsgAt w w.heap.size m A1 c1 A2 c2 := by
  obtain ⟨A1, c1, rfl, h1, h2, h3⟩ := h.1.out
  obtain ⟨A2, c2, rfl, h4, h5, h6⟩ := h.2.out
  exact ⟨A1, c1, A2, c2, rfl, rfl, h3, h6, h1, hz.m1, h2, h4, hz.m2, h5, hz.t0, hz.t1, hz.sf, hz.st⟩
theorem MsgOwn.at_ {w : World} {base : Nat} {m : Msg} {A1 A2 : Option Addr} {n1 c1 n2 c2 : Nat} (h : MsgOwn w base m (.slice A1 n1 c1) (.slice A2 n2 c2)) (hz : MsgSz m) : MsgAt w w.heap.size m A1 c1 A2 c2 := by
  obtain ⟨B1, d1, B2, d2, e1, e2, h⟩ := h.out hz
  injection e1 with e1 _ e3
  injection e2 with e2 _ e4
  subst e1 e2 e3 e4
  exact h
theorem MsgOwn.below {w w' : World} {base : Nat} {m : Msg} {v1 v2 : Value} (h : MsgOwn w base m v1 v2) (hb : Below w.heap.size w w') : MsgOwn w' base m v1 v2 := ⟨h.1.below hb, h.2.below hb⟩
theorem MsgOwn.only {g : Nat} {w w' : World} {base : Nat} {m : Msg} {v1 v2 : Value} (h : MsgOwn w base m v1 v2) (ho : Only g w w') (hg : g < base) : MsgOwn w' base m v1 v2 := ⟨h.1.only ho hg, h.2.only ho hg⟩
theorem MsgOwn.mono {w : World} {base base' : Nat} {m : Msg} {v1 v2 : Value} (h : MsgOwn w base m v1 v2) (hb : base' ≤ base) : MsgOwn w base' m v1 v2 := ⟨own_base_lt h.1 hb, h.2.mono hb⟩
/-! ### sizes of what Decode answers -/
theorem numV_rng (k : List UInt8) (S : St) : 0 ≤ numV k S ∧ numV k S ≤ 9007199254740992 := by
  unfold numV
  split
  · exact tkN_all _
  · omega
theorem textV_rng (k : List UInt8) (S : St) : (textV k S).length ≤ 1048576 := by
  unfold textV
  split
  · exact (ttS_rng _).1
  · simp
theorem decSum_eq {m m' : Msg} {x : Int} {S : St} (h : decSum m x S = .ok m') : m' = m := by
  unfold decSum at h
  split at h
  · cases h
  · split at h
    · injection h with h; exact h.symm
    · cases h
  · cases h
theorem decData_eq {t : Int} {f : List UInt8} {L : List Rc} {S : St} {m' : Msg} (h : decData t f L S = .ok m') : m' = ⟨t, ⟨f.toArray⟩, L, textV [100] S⟩ := by
  unfold decData decHex at h
  split at h
  · cases h
  · exact decSum_eq h
theorem decRec_eq {t : Int} {f : List UInt8} : ∀ (n : Nat) (L : List Rc) (S : St) (m' : Msg), decRec t f n L S = .ok m' → m'.time = t ∧ m'.frm = ⟨f.toArray⟩ ∧ m'.rcpts.length = L.length + n ∧ (∀ r ∈ m'.rcpts, r ∈ L ∨ r.to.size ≤ 1048576) ∧ m'.data.length ≤ 1048576
  | n, L, .bad e, m', h => by rw [decRec_bad] at h; cases h
  | 0, L, .ok l, m', h => by
    obtain rfl := decData_eq (show decData t f L (.ok l) = .ok m' from h)
    exact ⟨rfl, rfl, rfl, fun r hr => .inl hr, textV_rng _ _⟩
  | n + 1, L, .ok l, m', h => by
    obtain ⟨h1, h2, h3, h4, h5⟩ := decRec_eq n _ _ m' (show decRec t f n (L ++ [recV (.ok l)]) (recS (.ok l)) = .ok m' from h)
    refine ⟨h1, h2, by rw [h3, List.length_append]; simp; omega, fun r hr => ?_, h5⟩
    rcases h4 r hr with h6 | h6
    · rcases List.mem_append.1 h6 with h7 | h7
      · exact .inl h7
      · rw [List.mem_singleton] at h7
        subst h7
        right
        unfold recV
        rw [size_len]
        exact textV_rng _ _
    · exact .inr h6
theorem decR_sz {l : List UInt8} {m : Msg} (h : decR l = .ok m) : MsgSz m := by
  unfold decR decF decN at h
  obtain ⟨h1, h2, h3, h4, h5⟩ := decRec_eq _ _ _ m h
  have hn : (numV [110] (needS (fromOk (textV [102] (numS [87, 49, 59, 116] (.ok l)))) (textS [102] (numS [87, 49, 59, 116] (.ok l))))).toNat ≤ 200 := by
    cases hS : needS (manyOk (numV [110] (needS (fromOk (textV [102] (numS [87, 49, 59, 116] (.ok l)))) (textS [102] (numS [87, 49, 59, 116] (.ok l)))))) (numS [110] (needS (fromOk (textV [102] (numS [87, 49, 59, 116] (.ok l)))) (textS [102] (numS [87, 49, 59, 116] (.ok l))))) with
    | bad e => rw [hS, decRec_bad] at h; cases h
    | ok l2 =>
      obtain ⟨h6, _⟩ := needS_ok hS
      have := of_decide_eq_true h6
      omega
  have ht := numV_rng [87, 49, 59, 116] (.ok l)
  have hf := textV_rng [102] (numS [87, 49, 59, 116] (.ok l))
  refine ⟨by rw [h3]; simp; omega, by omega, by omega, by omega, ?_, fun r hr => ?_⟩
  · rw [h2, size_len]; simp only [maxLen]; exact Nat.le_trans hf (by omega)
  · rcases h4 r hr with h6 | h6
    · simp at h6
    · simp only [maxLen]; omega
/-- the message that Decode answers, its error -/
def zeroM : Msg := ⟨0, ⟨#[]⟩, [], []⟩
def resM : Res → Msg
  | .ok m => m
  | .bad _ => zeroM
def resE : Res → Int
  | .ok _ => 0
  | .bad e => e
theorem zero_sz : MsgSz zeroM := ⟨by decide, by decide, by decide, by decide, by decide, fun r hr => by cases hr⟩
theorem resM_sz (l : List UInt8) : MsgSz (resM (decR l)) := by
  cases h : decR l with
  | ok m => exact decR_sz h
  | bad e => exact zero_sz
theorem DecP.form {F : Res} {w w' : World} {e : Ending} (h : DecP F w w' e) : ∃ v1 v2, e = .returned (.tuple #[.agg #[.int .i64 (resM F).time, .string (resM F).frm, v1, v2], .int .i64 (resE F)]) ∧ MsgOwn w' w.heap.size (resM F) v1 v2 := by
  cases F with
  | ok m => exact h
  | bad x => exact ⟨_, _, h, OwnR.nil _ _ _, ⟨none, 0, rfl, Nat.le_refl _, by simp [maxLen], .inl rfl⟩⟩
end Go.Proofs.YtfnhaddgdfkmcaaDoor
