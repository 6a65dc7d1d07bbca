/-
  Opening TableChains's arguments: a slice of strings, asked strings and their sizes. No condition.
-/
import Derived.Test.YtlknclkkhincfaaDoorTbCn
import Derived.Test.YtlknclkkhincfaaDoorBulk
namespace Go.Proofs.YtlknclkkhincfaaDoor
open Go.ChangeShapes Go.WideShapes Go.ChangeAt Go.RowKit
set_option linter.unusedVariables false
section
variable {H : Type} {enc : TypeId × Value → H} {P : Program}
theorem open_strsV {W : World} {r : Reach} {base0 : Nat} {t e : TypeId} {v : Value} {d : DataW H} {p : List MemPlace} (ht : P.underlying t = some (.slice e)) (he : P.underlying e = some .string) (hc : P.cellsOf e = 1)
    (hval : Value.okWide P W r base0 t v) (h : DataW.Trod enc P W 0 (fun _ => true) true t v d p) :
    ∃ A L cp, v = .slice A L.length cp ∧ L.length ≤ cp ∧ cp ≤ maxLen ∧ RS W W.heap.size A L ∧ ∀ s ∈ L, s.size ≤ maxLen := by
  obtain ⟨a0, len0, cap0, rfl⟩ := okWide_slice ht hval
  obtain ⟨fuel, hf⟩ := h
  exact open_strs ht he hc hf
end
theorem bulk_asked {H : Type} {d : DataW H} {R : List (List ByteArray)} (h : R = [] ∨ ∃ es ss : List (DataW H), d = .slice es ss ∧ ∀ (i : Nat) (q : List ByteArray), R[i]? = some q → es[i]? = some (strsD q)) : ∀ r ∈ R, ∀ s ∈ r, s.size ≤ Rows.uptoBulk d := by
  intro r hr s hs
  rcases h with rfl | ⟨es, ss, rfl, h⟩
  · cases hr
  · obtain ⟨i, hi⟩ := List.mem_iff_getElem?.1 hr
    have h1 := bulk_mem (h i r hi)
    obtain ⟨j, hj⟩ := List.mem_iff_getElem?.1 hs
    have h2 : Rows.uptoBulk (.lit (.string s.data.toList) : DataW H) ≤ Rows.uptoBulkAll (r.map fun s => (.lit (.string s.data.toList) : DataW H)) := bulk_mem (j := j) (by rw [List.getElem?_map, hj]; rfl)
    unfold strsD at h1
    simp only [Rows.uptoBulk] at h1 h2 ⊢
    rw [size_len]
    omega
theorem chains_row (W : World) (A0 : Option Addr) (L : List ByteArray) (c0 : Nat) (hr : RS W W.heap.size A0 L) (hc0 : L.length ≤ c0) (hm0 : c0 ≤ maxLen) (hsz : ∀ s ∈ L, s.size ≤ maxLen)
    (A1 : Option Addr) (R : List (List ByteArray)) (c1 : Nat) (hR : RRec W W.heap.size 3 A1 R) (hc1 : R.length ≤ c1) (hm1 : c1 ≤ 140737488351232) (hask : ∀ r ∈ R, ∀ s ∈ r, s.size ≤ 1048576) (hT : TabsT W.heap.size W) :
    Calls Tryd.prog 5 #[.slice A0 L.length c0, .slice A1 R.length c1] W fun e w' => Below W.heap.size W w' ∧ e = .returned (.bool true) :=
  chains_walk W A0 c0 L hr hc0 hm0 hsz A1 c1 R hR hc1 (by unfold maxLen; omega) hask hT
end Go.Proofs.YtlknclkkhincfaaDoor
