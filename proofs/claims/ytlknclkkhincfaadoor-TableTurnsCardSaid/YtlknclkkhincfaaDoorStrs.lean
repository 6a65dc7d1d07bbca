/-
  Words for slices of strings; over any program. No condition.
-/
import Derived.Test.YtlknclkkhincfaaDoorLib
import Derived.Test.YtlknclkkhincfaaDoorBlk
import Derived.WideShapes
import Derived.Laws.Strings
namespace Go.Proofs.YtlknclkkhincfaaDoor
open Go.RowKit
set_option linter.unusedVariables false
/-- string i of a list; the empty one behind its end -/
def st (L : List ByteArray) (i : Nat) : ByteArray := L.getD i ⟨#[]⟩
theorem st_getElem {L : List ByteArray} {i : Nat} (h : i < L.length) : st L i = L[i] := by
  unfold st; rw [List.getD_eq_getElem?_getD, List.getElem?_eq_getElem h]; rfl
theorem drop_st {L : List ByteArray} {j : Nat} (h : j < L.length) : L.drop j = st L j :: L.drop (j + 1) := by
  rw [st_getElem h]; exact List.drop_eq_getElem_cons h
theorem st_mem {L : List ByteArray} {i : Nat} (h : i < L.length) : st L i ∈ L := by rw [st_getElem h]; exact List.getElem_mem h
/-- a slice's address reads as a list of strings, below block B -/
def RS (w : World) (B : Nat) (A : Option Addr) (L : List ByteArray) : Prop :=
  L = [] ∨ ∃ b off, A = some ⟨b, off, none⟩ ∧ b < B ∧ ∀ i, i < L.length → w.cell? ⟨b, off + i, none⟩ = some (.string (st L i))
theorem RS.at_ {w : World} {B : Nat} {A : Option Addr} {L : List ByteArray} (h : RS w B A L) {j : Nat} (hj : j < L.length) :
    ∃ b off, A = some ⟨b, off, none⟩ ∧ b < B ∧ ∀ i, i < L.length → w.cell? ⟨b, off + i, none⟩ = some (.string (st L i)) := by
  rcases h with h | h
  · rw [h] at hj; simp at hj
  · exact h
theorem RS.keep {w w' : World} {B B' : Nat} {A : Option Addr} {L : List ByteArray} (h : RS w B A L) (hB : B ≤ B') (hk : ∀ p : Addr, p.block < B → w'.cell? p = w.cell? p) : RS w' B' A L := by
  rcases h with h | ⟨b, off, hA, hb, hc⟩
  · exact .inl h
  · exact .inr ⟨b, off, hA, by omega, fun i hi => (hk _ hb).trans (hc i hi)⟩
theorem RS.below {w w' : World} {B : Nat} {A : Option Addr} {L : List ByteArray} (h : RS w B A L) (hb : Below B w w') : RS w' B A L := h.keep (Nat.le_refl _) fun _ hp => hb.cell hp
theorem RS.mono {w : World} {B B' : Nat} {A : Option Addr} {L : List ByteArray} (h : RS w B A L) (hB : B ≤ B') : RS w B' A L := h.keep hB fun _ _ => rfl
/-- '==' of strings, as the walk spells it -/
theorem str_ne {s t : ByteArray} (h : ¬ s = t) : (s.toList == t.toList) = false := by
  rw [beq_eq_false_iff_ne, ByteArray.toList_eq, ByteArray.toList_eq]
  exact fun e => h (WideShapes.bytes_inj e)
end Go.Proofs.YtlknclkkhincfaaDoor
