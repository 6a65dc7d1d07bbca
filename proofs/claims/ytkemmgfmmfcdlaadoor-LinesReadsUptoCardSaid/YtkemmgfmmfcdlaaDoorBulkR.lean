/-
  How much a row of slices of bytes holds, out of the bulk of what it reads as. No condition.
-/
import Derived.Test.YtkemmgfmmfcdlaaDoorTabsL
import Derived.Test.YtkemmgfmmfcdlaaDoorLawReads
namespace Go.Proofs.YtkemmgfmmfcdlaaDoor
open Go.RowKit
set_option linter.unusedVariables false
theorem bulk_sum {H : Type} : ∀ (L : List (List UInt8)) (es : List (DataW H)), es.length = L.length → (∀ (i : Nat) (l : List UInt8) (e : DataW H), L[i]? = some l → es[i]? = some e → l.length ≤ Rows.uptoBulk e) → sumL L ≤ Rows.uptoBulkAll es
  | [], _, _, _ => by simp [sumL]
  | l :: L, [], h, _ => by simp at h
  | l :: L, e :: es, h, k => by
    have h1 := k 0 l e rfl rfl
    have h2 := bulk_sum L es (by simpa using h) fun i l' e' a b => k (i + 1) l' e' (by simpa using a) (by simpa using b)
    rw [Rows.uptoBulkAll]
    have : sumL (l :: L) = l.length + sumL L := rfl
    omega
theorem bulk_bytesD {H : Type} {d : DataW H} {l : List UInt8} {cp : Nat} (h : BytesD d l cp) (hc : l.length ≤ cp) : l.length ≤ Rows.uptoBulk d := Nat.le_trans hc (bulk_slice h)
theorem bulk_rows {H : Type} {d : DataW H} {L : List (List UInt8)}
    (h : d = .nil ∨ ∃ es ss : List (DataW H), d = .slice es ss ∧ es.length = L.length ∧ ∀ (i : Nat) (l : List UInt8) (e : DataW H), L[i]? = some l → es[i]? = some e → ∃ cp, l.length ≤ cp ∧ BytesD e l cp) (h0 : d = .nil → L = []) : sumL L ≤ Rows.uptoBulk d := by
  rcases h with rfl | ⟨es, ss, rfl, h1, h2⟩
  · rw [h0 rfl]; simp [sumL]
  · have := bulk_sum L es h1 fun i l e a b => by
      obtain ⟨cp, c1, c2⟩ := h2 i l e a b
      exact bulk_bytesD c2 c1
    rw [Rows.uptoBulk]
    omega
end Go.Proofs.YtkemmgfmmfcdlaaDoor
