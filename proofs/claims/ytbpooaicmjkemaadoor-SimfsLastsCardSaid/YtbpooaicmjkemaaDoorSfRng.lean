/-
  Ranging over a map of entries; the walk of the program's path. Conditions: the lengths.
-/
import Derived.Test.YtbpooaicmjkemaaDoorSfWait
namespace Go.Proofs.YtbpooaicmjkemaaDoor
open Go.RowKit Go.Maps
set_option linter.unusedVariables false
def mkP : Option Nat → Value
  | none => .pointer none
  | some b => .pointer (some ⟨b, 0, none⟩)
theorem inv_mkP (v : Value) (y : DataW Unit × List MemPlace) (h : ptrElem v = some y) : ∃ c, v = mkP c := by
  rcases ptrElem_inv h with ⟨rfl, _⟩ | ⟨b, rfl, _⟩
  · exact ⟨none, rfl⟩
  · exact ⟨some b, rfl⟩
theorem keyS_inv {key : Value} {kl : Lit} (h : keyOf Tryd.prog 9 key = some kl) : ∃ p : Tx, key = stV p ∧ p.length ≤ maxLen ∧ kl = kL p := by
  cases key <;> simp [keyOf, Tryd.underlying9, mapKey] at h
  rename_i s
  refine ⟨s.data.toList, by unfold stV; rw [bs_of], ?_, h.2.symm⟩
  have := h.1
  rw [size_len] at this
  exact this
theorem inv_mkS (key : Value) (kl : Lit) (h : keyOf Tryd.prog 9 key = some kl) : ∃ x, key = stV x := by
  obtain ⟨p, h1, -⟩ := keyS_inv h
  exact ⟨p, h1⟩
theorem stV_inj {p q : Tx} (h : stV p = stV q) : p = q := by unfold stV at h; injection h with h; exact bs_inj h
theorem ptr_at {c : Option Nat} {b : Nat} {D : DataW Unit} {y : DataW Unit × List MemPlace} (hv : ptrElem (mkP c) = some y) (h : y.1 = .lit (.int .i64 (b : Int))) : c = some b := by
  cases c with
  | none =>
    have : y = (.nil, []) := (Option.some.inj hv).symm
    rw [this] at h
    cases h
  | some c =>
    have : y = (.lit (.int .i64 (c : Int)), []) := (Option.some.inj hv).symm
    rw [this] at h
    simp only [DataW.lit.injEq, Lit.int.injEq, true_and] at h
    congr 1
    omega
/-- an entry that a range comes to -/
theorem ent_of {D : DataW Unit} {L : Es} {bl : List Nat} (he : MapE D L bl) (hil : ∀ e ∈ L, e.2 < bl.length) {p : Tx} {c : Option Nat} {kl : Lit} {y : DataW Unit × List MemPlace} (hk : keyOf Tryd.prog 9 (stV p) = some kl) (hh : Maps.has D kl = true) (hv : ptrElem (mkP c) = some y) (hat : ∀ zd, D.atKey kl zd = y.1) :
    ∃ i b, getE L p = some i ∧ bl[i]? = some b ∧ c = some b ∧ kl = kL p ∧ p.length ≤ maxLen := by
  obtain ⟨p', e1, hp, rfl⟩ := keyS_inv hk
  obtain rfl := stV_inj e1
  cases hg : getE L p with
  | none => rw [he.no p hp hg] at hh; cases hh
  | some i =>
    have hi := hil _ (getE_some hg)
    have hb : bl[i]? = some bl[i] := List.getElem?_eq_getElem hi
    have h2 := (he.ya p i _ hp hg hb).2 .nil
    rw [hat .nil] at h2
    exact ⟨i, bl[i], rfl, hb, ptr_at (D := D) hv h2, rfl, hp⟩
theorem infoF : ∃ j, Tryd.prog.info? 72 = some j ∧ j.size ≠ 0 := by
  obtain ⟨i, h1, h2, h3, h4⟩ := info_parts (show (Tryd.prog.info? 72).map (fun i => (i.zero, i.size, i.bytes)) = some (some (.agg #[.slice none 0 0, .slice none 0 0, .slice none 0 0]), 3, 72) by kernel_rfl)
  exact ⟨i, h1, by omega⟩
theorem ptr_same (w : World) (b : Nat) : (binOp .eql 60 (.pointer (some ⟨b, 0, none⟩)) (.pointer (some ⟨b, 0, none⟩))).run Tryd.prog w = .ok (.bool true) w := by
  obtain ⟨j, hj, -⟩ := infoF
  exact run_eql_ptr_same w _ Tryd.underlying60 hj
theorem ptr_other (w : World) {a b : Nat} {ca cb : Array Value} (h : a ≠ b) (ha : Blk w a 72 ca) (hb : Blk w b 72 cb) : (binOp .eql 60 (.pointer (some ⟨a, 0, none⟩)) (.pointer (some ⟨b, 0, none⟩))).run Tryd.prog w = .ok (.bool false) w := by
  obtain ⟨j, hj, hs⟩ := infoF
  exact run_eql_ptr_other w Tryd.underlying60 hj hs (fun e => h (by injection e)) ha hb
theorem path_hit {L : Es} (hj : InjE L) {p : Tx} {n : Nat} (h : (p, n) ∈ L) : pathM L n = p := by
  unfold pathM
  cases hf : L.find? fun e => decide (e.2 = n) with
  | none =>
    have := List.find?_eq_none.1 hf _ h
    simp at this
  | some e =>
    have h1 := List.find?_some hf
    have h2 := List.mem_of_find?_eq_some hf
    simp at h1
    exact hj e.1 p n (by rw [← h1]; exact h2) h
theorem path_miss {L : Es} {n : Nat} (h : ∀ e ∈ L, e.2 ≠ n) : pathM L n = [] := by
  unfold pathM
  rw [List.find?_eq_none.2 fun e he => by simpa using h e he]
/-- different files lie in different blocks -/
theorem bl_inj {z db : Nat} {w : World} {own : Nat → Nat × Nat} {d : Dk} {q : DParts} (h : DRest z w own d q) {i j b : Nat} (hi : q.bl[i]? = some b) (hj : q.bl[j]? = some b) : i = j := by
  have li : i < d.nodes.length := by rw [← h.len]; exact (List.getElem?_eq_some_iff.1 hi).1
  have lj : j < d.nodes.length := by rw [← h.len]; exact (List.getElem?_eq_some_iff.1 hj).1
  have h1 := (h.fs i b _ hi (List.getElem?_eq_getElem li)).mark
  have h2 := (h.fs j b _ hj (List.getElem?_eq_getElem lj)).mark
  rw [h1] at h2
  injection h2
end Go.Proofs.YtbpooaicmjkemaaDoor
