/-
  A row of numbers that came in: opening it; over any program. No condition.
-/
import Derived.Test.YtihhadgkcdkemaaDoorOpen
namespace Go.Proofs.YtihhadgkcdkemaaDoor
open Go.ChangeShapes Go.WideShapes Go.ChangeAt Go.RowKit
set_option linter.unusedVariables false
/-- a row of numbers -/
def RI (w : World) (B : Nat) (A : Option Addr) (zs : List Int) : Prop :=
  zs = [] ∨ ∃ b off, A = some ⟨b, off, none⟩ ∧ b < B ∧ ∀ i z, zs[i]? = some z → w.cell? ⟨b, off + i, none⟩ = some (.int .i64 z)
theorem RI.below {w w' : World} {B : Nat} {A : Option Addr} {zs : List Int} (h : RI w B A zs) (hb : Below B w w') : RI w' B A zs := by
  rcases h with h | ⟨b, off, rfl, hlt, hc⟩
  · exact .inl h
  · exact .inr ⟨b, off, rfl, hlt, fun i z hz => by rw [hb.cell (show b < B from hlt)]; exact hc i z hz⟩
section
variable {H : Type} {enc : TypeId × Value → H} {P : Program}
theorem open_nums {W : World} {r : Reach} {base0 : Nat} {t E : TypeId} {v : Value} {d : DataW H} {p : List MemPlace} {ts : List TypeId} {ds : List (DataW H)} {j : Nat} (ht : P.underlying t = some (.slice E)) (hE : P.underlying E = some (.int .i64)) (hcE : P.cellsOf E = 1) (hbE : P.bytesOf E = 8)
    (hval : Value.okWide P W r base0 t v) (h : DataW.Trod enc P W 0 (fun _ => true) true t v d p) (hsz : (DataW.weightsEach P ts ds).all (· ≤ reachBytes) = true) (hts : ts[j]? = some t) (hds : ds[j]? = some d) :
    ∃ A zs cp, v = .slice A zs.length cp ∧ zs.length ≤ cp ∧ cp ≤ 17592186043904 ∧ RI W W.heap.size A zs ∧ (∀ z ∈ zs, -9223372036854775808 ≤ z ∧ z ≤ 9223372036854775807) := by
  obtain ⟨a0, len0, cap0, rfl⟩ := okWide_slice ht hval
  obtain ⟨fuel, hf⟩ := h
  rcases open_ints ht hE hcE hf with ⟨hcs, _⟩ | ⟨x, len, cap, zs, hcs, _, hl, hm, hz, hx, hcell, hwz⟩
  · simp [Value.cells] at hcs
    obtain ⟨rfl, rfl, rfl⟩ := hcs
    exact ⟨none, [], 0, rfl, by simp, by omega, .inl rfl, by simp⟩
  · simp [Value.cells] at hcs
    obtain ⟨rfl, rfl, rfl⟩ := hcs
    simp only [if_true] at hz
    have hlen : (zs.take len0).length = len0 := by simp; omega
    obtain rfl : d = _ := congrArg Prod.fst hx
    have hs := sized_slice hsz hts hds ht
    rw [hbE] at hs
    have hm : cap0 ≤ 17592186043904 := by
      have e : (lits .i64 (zs.take len0) : List (DataW H)).length + (lits .i64 (zs.drop len0) : List (DataW H)).length = cap0 := by
        simp [lits]; omega
      rw [e] at hs
      unfold reachBytes at hs
      omega
    refine ⟨some x, zs.take len0, cap0, by rw [hlen], by rw [hlen]; exact hl, hm, ?_, fun z hz => by simpa [Lit.wf, IntKind.min, IntKind.max, IntKind.bits, IntKind.signed] using hwz z (List.mem_of_mem_take hz)⟩
    rcases Nat.eq_zero_or_pos len0 with h0 | h0
    · subst h0; exact .inl (by simp)
    · obtain ⟨b, off, spot⟩ := x
      have hc0 := hcell 0 (by omega)
      obtain rfl : spot = none := by simpa [Addr.add] using World.cell?_spot hc0
      have hlt := World.block_lt_of_cell? _ _ hc0
      refine .inr ⟨b, off, rfl, by simpa [Addr.add_lit] using hlt, fun i z hiz => ?_⟩
      have hi : i < len0 := by
        have := (List.getElem?_eq_some_iff.1 hiz).1
        rw [hlen] at this
        exact this
      have hci := hcell i (by omega)
      rw [Addr.add_lit] at hci
      rw [hci]
      rw [List.getElem?_take_of_lt hi] at hiz
      rw [List.getD_eq_getElem?_getD, hiz]
      rfl
end
end Go.Proofs.YtihhadgkcdkemaaDoor
