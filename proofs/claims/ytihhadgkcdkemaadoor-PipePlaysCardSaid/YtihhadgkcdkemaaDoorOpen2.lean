/-
  Opening arguments that are slices of bytes: with what their datum says of their size; over any program. No condition.
-/
import Derived.Test.YtihhadgkcdkemaaDoorOpen
namespace Go.Proofs.YtihhadgkcdkemaaDoor
open Go.ChangeShapes Go.WideShapes Go.ChangeAt Go.RowKit
set_option linter.unusedVariables false
section
variable {H : Type} {enc : TypeId × Value → H} {P : Program}

theorem open_bytes2 {W : World} {r : Reach} {base0 : Nat} {t E : TypeId} {v : Value} {d : DataW H} {p : List MemPlace} {ts : List TypeId} {ds : List (DataW H)} {j : Nat} (hU : U8 P t E) (hcE : P.cellsOf E = 1) (hbE : P.bytesOf E = 1)
    (hval : Value.okWide P W r base0 t v) (h : DataW.Trod enc P W 0 (fun _ => true) true t v d p) (hsz : (DataW.weightsEach P ts ds).all (· ≤ reachBytes) = true) (hts : ts[j]? = some t) (hds : ds[j]? = some d) :
    ∃ A l cp, v = .slice A l.length cp ∧ l.length ≤ cp ∧ cp ≤ 140737488351232 ∧ RB W W.heap.size A l ∧ (A = none → cp = 0) ∧ ((d = .nil ∧ cp = 0) ∨ ∃ es ss : List (DataW H), d = .slice es ss ∧ es.length = l.length ∧ es.length + ss.length = cp) := by
  obtain ⟨a0, len0, cap0, rfl⟩ := okWide_slice hU.ht hval
  obtain ⟨fuel, hf⟩ := h
  rcases open_ints hU.ht hU.he hcE hf with ⟨hcs, _⟩ | ⟨x, len, cap, zs, hcs, _, hl, hm, hz, hx, hcell, hwz⟩
  · simp [Value.cells] at hcs
    obtain ⟨rfl, rfl, rfl⟩ := hcs
    exact ⟨none, [], 0, rfl, by simp, by omega, .inl rfl, fun _ => rfl, .inl ⟨by first | assumption | rfl | (simp_all), rfl⟩⟩
  · simp [Value.cells] at hcs
    obtain ⟨rfl, rfl, rfl⟩ := hcs
    simp only [if_true] at hz
    obtain rfl : d = _ := congrArg Prod.fst hx
    have hs := sized_slice hsz hts hds hU.ht
    rw [hbE, Nat.mul_one] at hs
    have hs' : cap0 ≤ 140737488351232 := by
      have e : (lits .u8 (zs.take len0) : List (DataW H)).length + (lits .u8 (zs.drop len0) : List (DataW H)).length = cap0 := by
        simp [lits]; omega
      rw [e] at hs
      exact hs
    have hlen : ((zs.take len0).map fun z => UInt8.ofNat z.toNat).length = len0 := by simp; omega
    refine ⟨some x, (zs.take len0).map fun z => UInt8.ofNat z.toNat, cap0, by rw [hlen], by rw [hlen]; exact hl, hs', ?_, (fun e => by cases e), .inr ⟨_, _, rfl, by simp [lits], by simp [lits]; omega⟩⟩
    rcases Nat.eq_zero_or_pos len0 with h0 | h0
    · subst h0; exact .inl (by simp)
    · obtain ⟨b, off, spot⟩ := x
      have hc0 := hcell 0 (by omega)
      obtain rfl : spot = none := by simpa [Addr.add] using World.cell?_spot hc0
      have hlt := World.block_lt_of_cell? _ _ hc0
      refine .inr ⟨b, off, rfl, by simpa [Addr.add_lit] using hlt, fun i hi => ?_⟩
      rw [hlen] at hi
      have hci := hcell i (by omega)
      rw [Addr.add_lit] at hci
      rw [hci]
      have hzi : zs.getD i 0 ∈ zs := by
        rw [List.getD_eq_getElem?_getD, List.getElem?_eq_getElem (by omega)]
        exact List.getElem_mem (by omega)
      have hw := hwz _ hzi
      have hb : 0 ≤ zs.getD i 0 ∧ zs.getD i 0 ≤ 255 := by simpa [Lit.wf, IntKind.min, IntKind.max, IntKind.bits, IntKind.signed] using hw
      congr 2
      unfold bt
      simp only [List.getD_eq_getElem?_getD, List.getElem?_map, List.getElem?_take_of_lt hi] at hb ⊢
      rw [List.getElem?_eq_getElem (by omega)] at hb ⊢
      simp only [Option.map_some, Option.getD_some] at hb ⊢
      rw [UInt8.toNat_ofNat']
      omega

end
end Go.Proofs.YtihhadgkcdkemaaDoor
