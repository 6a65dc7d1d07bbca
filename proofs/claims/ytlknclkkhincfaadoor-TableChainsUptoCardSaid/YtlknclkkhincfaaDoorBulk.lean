/-
  How much a bounded reading holds. No condition.
-/
import Derived.Test.YtlknclkkhincfaaDoorRows
import Derived.RowKit
namespace Go.Proofs.YtlknclkkhincfaaDoor
open Go.RowKit
set_option linter.unusedVariables false
theorem bulk_pos {H : Type} (d : DataW H) : 1 ≤ Rows.uptoBulk d := by
  cases d with
  | lit x => cases x <;> simp [Rows.uptoBulk]
  | _ => simp [Rows.uptoBulk]
theorem bulk_len {H : Type} : ∀ L : List (DataW H), L.length ≤ Rows.uptoBulkAll L
  | [] => by simp
  | d :: r => by
    have h1 := bulk_pos d
    have h2 := bulk_len r
    rw [Rows.uptoBulkAll, List.length_cons]
    omega
theorem bulk_slice {H : Type} {d : DataW H} {n c : Nat} (h : d = .nil ∧ c = 0 ∨ ∃ es ss : List (DataW H), d = .slice es ss ∧ es.length = n ∧ es.length + ss.length = c) : c ≤ Rows.uptoBulk d := by
  rcases h with ⟨rfl, rfl⟩ | ⟨es, ss, rfl, h1, h2⟩
  · simp
  · have h3 := bulk_len es
    have h4 := bulk_len ss
    rw [Rows.uptoBulk]
    omega
theorem bulk_mem {H : Type} {d : DataW H} : ∀ {L : List (DataW H)} {j : Nat}, L[j]? = some d → Rows.uptoBulk d ≤ Rows.uptoBulkAll L
  | [], _, h => by simp at h
  | x :: r, 0, h => by
    simp at h
    subst h
    rw [Rows.uptoBulkAll]
    omega
  | x :: r, j + 1, h => by
    rw [Rows.uptoBulkAll]
    have := bulk_mem (L := r) (j := j) (by simpa using h)
    omega
end Go.Proofs.YtlknclkkhincfaaDoor
