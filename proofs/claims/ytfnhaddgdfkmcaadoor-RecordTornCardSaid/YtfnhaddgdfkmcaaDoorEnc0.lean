/-
  What Encode answers, in plain words. No condition.
-/
import Derived.Test.YtfnhaddgdfkmcaaDoorLay
import Derived.Test.YtfnhaddgdfkmcaaDoorHex
import Derived.Test.YtfnhaddgdfkmcaaDoorSum
namespace Go.Proofs.YtfnhaddgdfkmcaaDoor
open Go.RowKit
set_option linter.unusedVariables false

theorem isU8 : U8 Tryd.prog 23 5 := u8
/-- the recipients' bytes -/
def recM : List Rc → List UInt8
  | [] => []
  | r :: L => ([114, r.mark] ++ textB r.to.data.toList) ++ recM L
def endB (m : Msg) : List UInt8 := [100] ++ textB m.data
def sumB (m : Msg) : List UInt8 := [101] ++ hex8 (crc (layB m)) ++ [10]
def encB (m : Msg) : List UInt8 := hdB m ++ recM m.rcpts ++ endB m ++ sumB m
def encV (m : Msg) : List UInt8 := if rightE m = 0 then encB m else []
structure MayBe (m : Msg) : Prop where
  n0 : 0 < m.rcpts.length
  n1 : m.rcpts.length ≤ 200
  d : m.data.length ≤ 1048576
  f : m.frm.size ≤ 320
  t0 : 0 ≤ m.time
  t1 : m.time ≤ 9007199254740992
  fa : m.frm = ⟨#[]⟩ ∨ addrOk m.frm.data.toList = true
  rs : ∀ r ∈ m.rcpts, r.to.size ≤ 320 ∧ addrOk r.to.data.toList = true ∧ markOk (r.mark.toNat : Int) = true
theorem right_ok {m : Msg} (h : rightE m = 0) : MayBe m := by
  unfold rightE at h
  by_cases hl : longM m = true
  · rw [if_pos hl] at h; cases h
  · rw [if_neg hl] at h
    by_cases hm : mayM m = true
    · simp only [longM, longS, longR, Bool.or_eq_true, List.any_eq_true, decide_eq_true_eq, not_or, not_exists, not_and] at hl
      simp only [mayM, mayS, mayR, Bool.and_eq_true, Bool.or_eq_true, List.all_eq_true, decide_eq_true_eq] at hm
      obtain ⟨h1, h2⟩ := hl
      obtain ⟨⟨h3, h4, h5⟩, h6⟩ := hm
      exact ⟨h5, by omega, by omega, by omega, h3.1, h3.2, h4, fun r hr => ⟨by have := h2 r hr; omega, h6 r hr⟩⟩
    · rw [if_neg hm] at h; cases h
theorem right_may {m : Msg} (h : MayBe m) : rightE m = 0 := by
  have hl : ¬ longM m = true := by
    simp only [longM, longS, longR, Bool.or_eq_true, List.any_eq_true, decide_eq_true_eq, not_or, not_exists, not_and]
    exact ⟨by have := h.n1; have := h.d; have := h.f; omega, fun r hr => by have := (h.rs r hr).1; omega⟩
  have hm : mayM m = true := by
    simp only [mayM, mayS, mayR, Bool.and_eq_true, Bool.or_eq_true, List.all_eq_true, decide_eq_true_eq]
    exact ⟨⟨⟨h.t0, h.t1⟩, h.fa, h.n0⟩, fun r hr => (h.rs r hr).2⟩
  unfold rightE
  rw [if_neg hl, if_pos hm]
theorem right_rng (m : Msg) : 0 ≤ rightE m ∧ rightE m ≤ 31 := by
  unfold rightE
  split
  · omega
  · split <;> omega
theorem mark_set (P X R T : List UInt8) (z : UInt8) : (P ++ (([114, 80] ++ X) ++ R) ++ T).set (P.length + 1) z = (P ++ ([114, z] ++ X)) ++ R ++ T := by
  rw [List.append_assoc, List.set_append_right _ _ (by omega)]
  simp
theorem mksI_len : ∀ (L : List Rc) (n : Nat), (mksI n L).length = L.length
  | [], _ => rfl
  | r :: L, n => by rw [mksI, List.length_cons, List.length_cons, mksI_len L]
theorem mksI_head {M : List Int} {j n : Nat} {r : Rc} {L : List Rc} (h : M.drop j = mksI n (r :: L)) : ∃ hj : j < M.length, M[j] = (n : Int) + 1 ∧ M.drop (j + 1) = mksI (n + ([114, 80] ++ textB r.to.data.toList).length) L := by
  have hj : j < M.length := by
    rcases Nat.lt_or_ge j M.length with h1 | h1
    · exact h1
    · rw [List.drop_eq_nil_of_le h1, mksI] at h; cases h
  rw [List.drop_eq_getElem_cons hj, mksI] at h
  injection h with h1 h2
  exact ⟨hj, h1, h2⟩
theorem OwnB.setN {w : World} {base E g n c : Nat} {l : List UInt8} (h : OwnB w base E (.slice (some ⟨g, 0, none⟩) n c) l) (k : Nat) (z : UInt8) :
    OwnB (w.setCell ⟨g, k, none⟩ (.int .u8 (z.toNat : Int))) base E (.slice (some ⟨g, 0, none⟩) n c) (l.set k z) := by
  obtain ⟨A', c', e, _, _, _⟩ := h.out
  injection e with e1 e2 e3
  subst e2
  exact h.set_ k z
theorem OwnB.len {w : World} {base E g n c : Nat} {l : List UInt8} (h : OwnB w base E (.slice (some ⟨g, 0, none⟩) n c) l) : n = l.length ∧ n ≤ c := by
  obtain ⟨A', c', e, h2, _, _⟩ := h.out
  injection e with e1 e2 e3
  subst e2
  subst e3
  exact ⟨rfl, h2⟩
theorem Only.cell {g : Nat} {w w' : World} (h : Only g w w') {p : Addr} (hp : p.block < w.heap.size) (hne : p.block ≠ g) : w'.cell? p = w.cell? p :=
  h.cell_far p hp (fun e => hne (by injection e))
theorem OwnI.row {w : World} {base E : Nat} {v : Value} {L : List Int} (h : OwnI w base E v L) (h0 : 0 < L.length) :
    ∃ g c, v = .slice (some ⟨g, 0, none⟩) L.length c ∧ L.length ≤ c ∧ c ≤ maxLen ∧ base ≤ g ∧ g < w.heap.size ∧ ∀ i (hi : i < L.length), w.cell? ⟨g, i, none⟩ = some (.int .i64 L[i]) := by
  obtain ⟨A, c, rfl, h1, h2, h3⟩ := h.form
  obtain ⟨g, rfl, h4, h5, _⟩ := h3 0 h0
  exact ⟨g, c, rfl, h1, h2, h4, h5, fun i hi => by
    obtain ⟨g', e, _, _, h6, _⟩ := h3 i hi
    injection e with e
    injection e with e
    subst e
    exact h6⟩
theorem recB_len {L : List Rc} : (recB L).length ≤ L.length * 1048602 := by
  induction L with
  | nil => simp [recB]
  | cons r L ih =>
    have := textB_len r.to.data.toList
    rw [recB, List.length_append, List.length_append]
    simp only [List.length_cons, List.length_nil]
    omega
end Go.Proofs.YtfnhaddgdfkmcaaDoor
