/-
  Rows of slices of bytes, rows of bools that came in: opening them; over any program. No condition.
-/
import Derived.Test.YtihhadgkcdkemaaDoorOpenI
import Derived.Deep.Slices
namespace Go.Proofs.YtihhadgkcdkemaaDoor
open Go.ChangeShapes Go.WideShapes Go.ChangeAt Go.RowKit
set_option linter.unusedVariables false
/-- a slice's address reads as a row of slices that read as lists of bytes -/
def RR (w : World) (B : Nat) (A : Option Addr) (L : List (List UInt8)) : Prop :=
  L = [] ∨ ∃ b off, A = some ⟨b, off, none⟩ ∧ b < B ∧ ∀ i l, L[i]? = some l → ∃ Ai ci, w.cell? ⟨b, off + i, none⟩ = some (.slice Ai l.length ci) ∧ l.length ≤ ci ∧ ci ≤ maxLen ∧ RB w B Ai l
theorem RR.below {w w' : World} {B : Nat} {A : Option Addr} {L : List (List UInt8)} (h : RR w B A L) (hb : Below B w w') : RR w' B A L := by
  rcases h with h | ⟨b, off, rfl, hlt, hc⟩
  · exact .inl h
  · refine .inr ⟨b, off, rfl, hlt, fun i l hl => ?_⟩
    obtain ⟨Ai, ci, h1, h2, h3, h4⟩ := hc i l hl
    exact ⟨Ai, ci, by rw [hb.cell (show b < B from hlt)]; exact h1, h2, h3, h4.below hb⟩
theorem RR.at_ {w : World} {B : Nat} {A : Option Addr} {L : List (List UInt8)} (h : RR w B A L) {i : Nat} {l : List UInt8} (hl : L[i]? = some l) :
    ∃ b off Ai ci, A = some ⟨b, off, none⟩ ∧ b < B ∧ w.cell? ⟨b, off + i, none⟩ = some (.slice Ai l.length ci) ∧ l.length ≤ ci ∧ ci ≤ maxLen ∧ RB w B Ai l := by
  rcases h with rfl | ⟨b, off, rfl, hlt, hc⟩
  · simp at hl
  · obtain ⟨Ai, ci, h⟩ := hc i l hl
    exact ⟨b, off, Ai, ci, rfl, hlt, h⟩
/-- a slice's address reads as a row of bools -/
def RT (w : World) (B : Nat) (A : Option Addr) (L : List Bool) : Prop :=
  L = [] ∨ ∃ b off, A = some ⟨b, off, none⟩ ∧ b < B ∧ ∀ i x, L[i]? = some x → w.cell? ⟨b, off + i, none⟩ = some (.bool x)
theorem RT.below {w w' : World} {B : Nat} {A : Option Addr} {L : List Bool} (h : RT w B A L) (hb : Below B w w') : RT w' B A L := by
  rcases h with h | ⟨b, off, rfl, hlt, hc⟩
  · exact .inl h
  · exact .inr ⟨b, off, rfl, hlt, fun i x hx => by rw [hb.cell (show b < B from hlt)]; exact hc i x hx⟩
section
variable {H : Type} {enc : TypeId × Value → H} {P : Program}
/-- what a slice of bytes reads as -/
def BytesD (d : DataW H) (l : List UInt8) (cp : Nat) : Prop := (d = .nil ∧ cp = 0) ∨ ∃ es ss : List (DataW H), d = .slice es ss ∧ es.length = l.length ∧ es.length + ss.length = cp
theorem open_bytesT {W : World} {base0 fuel : Nat} {held : Bool} {t E : TypeId} {v : Value} {d : DataW H} {p : List MemPlace} (hU : U8 P t E) (hcE : P.cellsOf E = 1)
    (hf : DataW.trod enc P W base0 (fun _ => true) held fuel t [v] = some (d, p)) :
    ∃ A l cp, v = .slice A l.length cp ∧ l.length ≤ cp ∧ cp ≤ maxLen ∧ RB W W.heap.size A l ∧ (A = none → cp = 0) ∧ BytesD d l cp := by
  rcases open_ints hU.ht hU.he hcE hf with ⟨hcs, hx⟩ | ⟨x, len, cap, zs, hcs, _, hl, hm, hz, hx, hcell, hwz⟩
  · obtain rfl : v = _ := by simpa using hcs
    obtain rfl : d = _ := congrArg Prod.fst hx
    exact ⟨none, [], 0, rfl, by simp, by simp [maxLen], .inl rfl, fun _ => rfl, .inl ⟨rfl, rfl⟩⟩
  · obtain rfl : v = _ := by simpa using hcs
    simp only [if_true] at hz
    obtain rfl : d = _ := congrArg Prod.fst hx
    have hlen : ((zs.take len).map fun z => UInt8.ofNat z.toNat).length = len := by simp; omega
    refine ⟨some x, (zs.take len).map fun z => UInt8.ofNat z.toNat, cap, by rw [hlen], by rw [hlen]; exact hl, hm, ?_, (fun e => by cases e), .inr ⟨_, _, rfl, by simp [lits], by simp [lits]; omega⟩⟩
    rcases Nat.eq_zero_or_pos len with h0 | h0
    · subst h0; exact .inl (by simp)
    · obtain ⟨b, off, spot⟩ := x
      have hc0 := hcell 0 (by omega)
      obtain rfl : spot = none := by simpa [Addr.add] using World.cell?_spot hc0
      have hlt := World.block_lt_of_cell? _ _ hc0
      refine .inr ⟨b, off, rfl, by simpa [Addr.add_lit] using hlt, fun i hi => ?_⟩
      rw [hlen] at hi
      have hci := hcell i (by omega)
      rw [Addr.add_lit] at hci
      rw [hci]
      have hzi : zs.getD i 0 ∈ zs := by
        rw [List.getD_eq_getElem?_getD, List.getElem?_eq_getElem (by omega)]
        exact List.getElem_mem (by omega)
      have hw := hwz _ hzi
      have hb : 0 ≤ zs.getD i 0 ∧ zs.getD i 0 ≤ 255 := by simpa [Lit.wf, IntKind.min, IntKind.max, IntKind.bits, IntKind.signed] using hw
      congr 2
      unfold bt
      simp only [List.getD_eq_getElem?_getD, List.getElem?_map, List.getElem?_take_of_lt hi] at hb ⊢
      rw [List.getElem?_eq_getElem (by omega)] at hb ⊢
      simp only [Option.map_some, Option.getD_some] at hb ⊢
      rw [UInt8.toNat_ofNat']
      omega
/-- a row by its index -/
theorem row_of {α : Type} [Inhabited α] (n : Nat) (f : Nat → α) (i : Nat) (x : α) (h : ((List.range n).map f)[i]? = some x) : i < n ∧ x = f i := by
  rw [List.getElem?_map] at h
  by_cases hi : i < n
  · rw [List.getElem?_range hi] at h
    exact ⟨hi, by simpa using h.symm⟩
  · rw [List.getElem?_eq_none (by simpa using hi)] at h
    cases h
/-- the numbers of elements that a slice may have -/
theorem open_rows {W : World} {r : Reach} {base0 : Nat} {T t E : TypeId} {v : Value} {d : DataW H} {p : List MemPlace} {ts : List TypeId} {ds : List (DataW H)} {j : Nat} (hT : P.underlying T = some (.slice t)) (hcT : P.cellsOf t = 1) (hbT : P.bytesOf t = 24) (hU : U8 P t E) (hcE : P.cellsOf E = 1)
    (hval : Value.okWide P W r base0 T v) (h : DataW.Trod enc P W 0 (fun _ => true) true T v d p) (hsz : (DataW.weightsEach P ts ds).all (· ≤ reachBytes) = true) (hts : ts[j]? = some T) (hds : ds[j]? = some d) :
    ∃ A L cp, v = .slice A L.length cp ∧ L.length ≤ cp ∧ cp ≤ 5864062014634 ∧ RR W W.heap.size A L ∧ (d = .nil ∨ ∃ es ss : List (DataW H), d = .slice es ss ∧ es.length = L.length ∧ ∀ (i : Nat) (l : List UInt8) (e : DataW H), L[i]? = some l → es[i]? = some e → ∃ cp, l.length ≤ cp ∧ BytesD e l cp) ∧ (d = .nil → L = []) := by
  obtain ⟨a0, len0, cap0, rfl⟩ := okWide_slice hT hval
  obtain ⟨fuel, hf⟩ := h
  rcases Deep.open_slice1 hT hcT hf with ⟨hcs, hx⟩ | ⟨a, len, cap, m, n, V, D, Pl, hcs, _, hl, hm, hmm, hx, hcell⟩
  · simp [Value.cells] at hcs
    obtain ⟨rfl, rfl, rfl⟩ := hcs
    exact ⟨none, [], 0, rfl, by simp, by omega, .inl rfl, .inl (congrArg Prod.fst hx), fun _ => rfl⟩
  · simp [Value.cells] at hcs
    obtain ⟨rfl, rfl, rfl⟩ := hcs
    simp only [if_true] at hmm
    subst hmm
    obtain rfl : d = _ := congrArg Prod.fst hx
    have hs := sized_slice hsz hts hds hT
    rw [hbT] at hs
    have hcp : m ≤ 5864062014634 := by
      have e : ((List.range len0).map D : List (DataW H)).length + ((List.range (m - len0)).map (fun j => D (len0 + j)) : List (DataW H)).length = m := by simp; omega
      rw [e] at hs
      unfold reachBytes at hs
      omega
    have each : ∀ i, i < m → ∃ y : Option Addr × List UInt8 × Nat, V i = .slice y.1 y.2.1.length y.2.2 ∧ y.2.1.length ≤ y.2.2 ∧ y.2.2 ≤ maxLen ∧ RB W W.heap.size y.1 y.2.1 ∧ BytesD (D i) y.2.1 y.2.2 := by
      intro i hi
      obtain ⟨A, l, cp, h1, h2, h3, h4, _, h5⟩ := open_bytesT hU hcE (hcell i hi).2
      exact ⟨(A, l, cp), h1, h2, h3, h4, h5⟩
    obtain ⟨y, hy⟩ := Deep.choose_lt each
    refine ⟨some a, (List.range len0).map fun i => (y i).2.1, m, by simp, by simpa using hl, hcp, ?_, .inr ⟨_, _, rfl, by simp, fun i l e h1 h2 => ?_⟩, fun e => by cases e⟩
    · rcases Nat.eq_zero_or_pos len0 with h0 | h0
      · subst h0; exact .inl (by simp)
      · obtain ⟨b, off, spot⟩ := a
        have hc0 := (hcell 0 (by omega)).1
        obtain rfl : spot = none := by simpa [Addr.add] using World.cell?_spot hc0
        have hlt := World.block_lt_of_cell? _ _ hc0
        refine .inr ⟨b, off, rfl, by simpa [Addr.add_lit] using hlt, fun i l hil => ?_⟩
        obtain ⟨hi, rfl⟩ := row_of _ _ _ _ hil
        obtain ⟨e1, e2, e3, e4, e5⟩ := hy i (by omega)
        refine ⟨_, _, ?_, e2, e3, e4⟩
        rw [← e1, ← (hcell i (by omega)).1, Addr.add_lit]
    · obtain ⟨hi, rfl⟩ := row_of _ _ _ _ h1
      obtain ⟨_, rfl⟩ := row_of (α := DataW H) _ _ _ _ h2
      obtain ⟨e1, e2, e3, e4, e5⟩ := hy i (by omega)
      exact ⟨_, e2, e5⟩
theorem open_bools1 {W : World} {r : Reach} {base0 : Nat} {T t : TypeId} {v : Value} {d : DataW H} {p : List MemPlace} {ts : List TypeId} {ds : List (DataW H)} {j : Nat} (hT : P.underlying T = some (.slice t)) (ht : P.underlying t = some .bool) (hcT : P.cellsOf t = 1) (hbT : P.bytesOf t = 1)
    (hval : Value.okWide P W r base0 T v) (h : DataW.Trod enc P W 0 (fun _ => true) true T v d p) (hsz : (DataW.weightsEach P ts ds).all (· ≤ reachBytes) = true) (hts : ts[j]? = some T) (hds : ds[j]? = some d) :
    ∃ A L cp, v = .slice A L.length cp ∧ L.length ≤ cp ∧ cp ≤ 140737488351232 ∧ RT W W.heap.size A L := by
  obtain ⟨a0, len0, cap0, rfl⟩ := okWide_slice hT hval
  obtain ⟨fuel, hf⟩ := h
  rcases Deep.open_slice1 hT hcT hf with ⟨hcs, hx⟩ | ⟨a, len, cap, m, n, V, D, Pl, hcs, _, hl, hm, hmm, hx, hcell⟩
  · simp [Value.cells] at hcs
    obtain ⟨rfl, rfl, rfl⟩ := hcs
    exact ⟨none, [], 0, rfl, by simp, by omega, .inl rfl⟩
  · simp [Value.cells] at hcs
    obtain ⟨rfl, rfl, rfl⟩ := hcs
    simp only [if_true] at hmm
    subst hmm
    obtain rfl : d = _ := congrArg Prod.fst hx
    have hs := sized_slice hsz hts hds hT
    rw [hbT] at hs
    have hcp : m ≤ 140737488351232 := by
      have e : ((List.range len0).map D : List (DataW H)).length + ((List.range (m - len0)).map (fun j => D (len0 + j)) : List (DataW H)).length = m := by simp; omega
      rw [e] at hs
      unfold reachBytes at hs
      omega
    have each : ∀ i, i < m → ∃ y : Bool, V i = .bool y := by
      intro i hi
      obtain ⟨b, hb, _⟩ := DataW.trod_bool ht (hcell i hi).2
      exact ⟨b, by simpa using hb⟩
    obtain ⟨y, hy⟩ := Deep.choose_lt each
    refine ⟨some a, (List.range len0).map y, m, by simp, by simpa using hl, hcp, ?_⟩
    rcases Nat.eq_zero_or_pos len0 with h0 | h0
    · subst h0; exact .inl (by simp)
    · obtain ⟨b, off, spot⟩ := a
      have hc0 := (hcell 0 (by omega)).1
      obtain rfl : spot = none := by simpa [Addr.add] using World.cell?_spot hc0
      have hlt := World.block_lt_of_cell? _ _ hc0
      refine .inr ⟨b, off, rfl, by simpa [Addr.add_lit] using hlt, fun i l hil => ?_⟩
      obtain ⟨hi, rfl⟩ := row_of _ _ _ _ hil
      rw [← hy i (by omega), ← (hcell i (by omega)).1, Addr.add_lit]
end
end Go.Proofs.YtihhadgkcdkemaaDoor
