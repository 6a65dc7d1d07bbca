/-
  Opening arguments that are slices of bytes; the witness of a row that lists variables; over any program. No condition.
-/
import Derived.Test.YtlknclkkhincfaaDoorApp
import Derived.Test.YtlknclkkhincfaaDoorStrs
import Derived.SliceStrings
import Derived.ProofKit
import Derived.OpenShut
import Derived.ShutString
import Derived.ChangeOld
import Derived.Below
import Derived.LaidMore
import Derived.Lay
import Derived.LaidSub
import Derived.Deep.DeepHandedRow
import Derived.Lib.LaidTab
import Derived.SizedLaws
import Derived.SevenTiedAt
namespace Go.Proofs.YtlknclkkhincfaaDoor
open Go.ChangeShapes Go.WideShapes Go.ChangeAt Go.RowKit
set_option linter.unusedVariables false
section
variable {H : Type} {enc : TypeId × Value → H} {P : Program}

theorem open_bytes {W : World} {r : Reach} {base0 : Nat} {t E : TypeId} {v : Value} {d : DataW H} {p : List MemPlace} {ts : List TypeId} {ds : List (DataW H)} {j : Nat} (hU : U8 P t E) (hcE : P.cellsOf E = 1) (hbE : P.bytesOf E = 1)
    (hval : Value.okWide P W r base0 t v) (h : DataW.Trod enc P W 0 (fun _ => true) true t v d p) (hsz : (DataW.weightsEach P ts ds).all (· ≤ reachBytes) = true) (hts : ts[j]? = some t) (hds : ds[j]? = some d) :
    ∃ A l cp, v = .slice A l.length cp ∧ l.length ≤ cp ∧ cp ≤ 140737488351232 ∧ RB W W.heap.size A l := by
  obtain ⟨a0, len0, cap0, rfl⟩ := okWide_slice hU.ht hval
  obtain ⟨fuel, hf⟩ := h
  rcases open_ints hU.ht hU.he hcE hf with ⟨hcs, _⟩ | ⟨x, len, cap, zs, hcs, _, hl, hm, hz, hx, hcell, hwz⟩
  · simp [Value.cells] at hcs
    obtain ⟨rfl, rfl, rfl⟩ := hcs
    exact ⟨none, [], 0, rfl, by simp, by omega, .inl rfl⟩
  · simp [Value.cells] at hcs
    obtain ⟨rfl, rfl, rfl⟩ := hcs
    simp only [if_true] at hz
    obtain rfl : d = _ := congrArg Prod.fst hx
    have hs := sized_slice hsz hts hds hU.ht
    rw [hbE, Nat.mul_one] at hs
    have hs' : cap0 ≤ 140737488351232 := by
      have e : (lits .u8 (zs.take len0) : List (DataW H)).length + (lits .u8 (zs.drop len0) : List (DataW H)).length = cap0 := by
        simp [lits]; omega
      rw [e] at hs
      exact hs
    have hlen : ((zs.take len0).map fun z => UInt8.ofNat z.toNat).length = len0 := by simp; omega
    refine ⟨some x, (zs.take len0).map fun z => UInt8.ofNat z.toNat, cap0, by rw [hlen], by rw [hlen]; exact hl, hs', ?_⟩
    rcases Nat.eq_zero_or_pos len0 with h0 | h0
    · subst h0; exact .inl (by simp)
    · obtain ⟨b, off, spot⟩ := x
      have hc0 := hcell 0 (by omega)
      obtain rfl : spot = none := by simpa [Addr.add] using World.cell?_spot hc0
      have hlt := World.block_lt_of_cell? _ _ hc0
      refine .inr ⟨b, off, rfl, by simpa [Addr.add_lit] using hlt, fun i hi => ?_⟩
      rw [hlen] at hi
      have hci := hcell i (by omega)
      rw [Addr.add_lit] at hci
      rw [hci]
      have hzi : zs.getD i 0 ∈ zs := by
        rw [List.getD_eq_getElem?_getD, List.getElem?_eq_getElem (by omega)]
        exact List.getElem_mem (by omega)
      have hw := hwz _ hzi
      have hb : 0 ≤ zs.getD i 0 ∧ zs.getD i 0 ≤ 255 := by simpa [Lit.wf, IntKind.min, IntKind.max, IntKind.bits, IntKind.signed] using hw
      congr 2
      unfold bt
      simp only [List.getD_eq_getElem?_getD, List.getElem?_map, List.getElem?_take_of_lt hi] at hb ⊢
      rw [List.getElem?_eq_getElem (by omega)] at hb ⊢
      simp only [Option.map_some, Option.getD_some] at hb ⊢
      rw [UInt8.toNat_ofNat']
      omega

/-- a slice of strings, opened -/
theorem open_strs {W : World} {t e : TypeId} {n : Nat} {v : Value} {y : DataW H × List MemPlace} (ht : P.underlying t = some (.slice e)) (he : P.underlying e = some .string) (hc : P.cellsOf e = 1)
    (h : DataW.trod enc P W 0 (fun _ => true) true n t [v] = some y) :
    ∃ A L cp, v = .slice A L.length cp ∧ L.length ≤ cp ∧ cp ≤ maxLen ∧ RS W W.heap.size A L ∧ ∀ s ∈ L, s.size ≤ maxLen := by
  rcases open_strings ht he hc h with ⟨hcs, _⟩ | ⟨x, len, cap, ss, hcs, _, hl, hm, hz, hx, hcell, hsz⟩
  · obtain rfl : v = _ := by simpa using hcs
    exact ⟨none, [], 0, rfl, by simp, by simp [maxLen], .inl rfl, by simp⟩
  · obtain rfl : v = _ := by simpa using hcs
    simp only [if_true] at hz
    have hlen : (ss.take len).length = len := by rw [List.length_take]; omega
    refine ⟨some x, ss.take len, cap, by rw [hlen], by rw [hlen]; exact hl, hm, ?_, fun s hs => hsz s (List.mem_of_mem_take hs)⟩
    rcases Nat.eq_zero_or_pos len with h0 | h0
    · subst h0; exact .inl (by simp)
    · obtain ⟨b, off, spot⟩ := x
      have hc0 := hcell 0 (by omega)
      obtain rfl : spot = none := by simpa [Addr.add] using World.cell?_spot hc0
      have hlt := World.block_lt_of_cell? _ _ hc0
      refine .inr ⟨b, off, rfl, by simpa [Addr.add_lit] using hlt, fun i hi => ?_⟩
      rw [hlen] at hi
      have hci := hcell i (by omega)
      rw [Addr.add_lit] at hci
      rw [hci]
      unfold st
      simp only [List.getD_eq_getElem?_getD, List.getElem?_take_of_lt hi]
      rw [List.getElem?_eq_getElem (by omega)]
      rfl

/-- the witness of a row: a world that is written out -/
theorem witness_row {C : Checked} {os : Os} {f : FuncId} {fn : Func} {s : OpenSpec} {conds : List PathCond} {apart : Bool} {laid : List (String × DataW Unit)} (w0 : World) (args : Array Value) (hos : w0.os = os)
    (hsh : (w0.forCall (fun _ _ => 0) ⟨#[], args, []⟩).Shaped C.prog)
    (hok : Input.okWideB C.prog (w0.forCall (fun _ _ => 0) ⟨#[], args, []⟩) f ⟨#[], args, []⟩ = true)
    (hrow : s.preRow enc C.prog fn conds apart laid (w0.forCall (fun _ _ => 0) ⟨#[], args, []⟩).memory args) :
    ∃ (w : World) (tape : Tape) (i : Input), w.os = os ∧ (w.forCall tape i).Shaped C.prog ∧ i.vars = [] ∧ Input.okWide C.prog (w.forCall tape i) .any w.heap.size f i ∧
      s.preRow enc C.prog fn conds apart laid (w.forCall tape i).memory i.args ∧ ({} : Assume).holds C.prog (lone (Frame.enter C.prog f i.args .normal) [] (w.forCall tape i)) :=
  ⟨w0, fun _ _ => 0, ⟨#[], args, []⟩, hos, hsh, (Input.okWide_of_okWideB (base := 0) hok).1, (Input.okWide_of_okWideB hok).2, hrow, by
    simp only [Assume.holds]
    exact ⟨by simp, by simp, by simp, by simp, by simp⟩⟩
end
end Go.Proofs.YtlknclkkhincfaaDoor
