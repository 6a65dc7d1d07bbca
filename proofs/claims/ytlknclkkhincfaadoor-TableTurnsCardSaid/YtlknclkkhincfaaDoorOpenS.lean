/-
  A row of structs whose fields are all strings, that came in: opening it; over any program. No condition.
-/
import Derived.Test.YtlknclkkhincfaaDoorOpen
import Derived.Deep.Slices
namespace Go.Proofs.YtlknclkkhincfaaDoor
open Go.ChangeShapes Go.WideShapes Go.ChangeAt Go.RowKit Go.Deep
set_option linter.unusedVariables false
/-- a slice's address reads as a row of records of n strings -/
def RRec (w : World) (B n : Nat) (A : Option Addr) (R : List (List ByteArray)) : Prop :=
  R = [] ∨ ∃ b off, A = some ⟨b, off, none⟩ ∧ b < B ∧ ∀ i r, R[i]? = some r → r.length = n ∧ ∀ j s, r[j]? = some s → w.cell? ⟨b, off + i * n + j, none⟩ = some (.string s) ∧ s.size ≤ maxLen
section
variable {H : Type} {enc : TypeId × Value → H} {P : Program}
def strsD {H : Type} (r : List ByteArray) : DataW H := .agg (r.map fun s => .lit (.string s.data.toList))
theorem open_recs {W : World} {r : Reach} {base0 n : Nat} {T e : TypeId} {fs : Array Field} {v : Value} {d : DataW H} {p : List MemPlace} {ts : List TypeId} {ds : List (DataW H)} {j : Nat} (hT : P.underlying T = some (.slice e)) (he : P.underlying e = some (.struct fs)) (hn : fs.size = n) (hn0 : 0 < n)
    (hu : ∀ (i : Nat) (f : Field), fs[i]? = some f → P.underlying f.type = some .string ∧ f.offset = i ∧ P.cellsOf f.type = 1) (hC : P.cellsOf e = n) (hB : 1 ≤ P.bytesOf e)
    (hval : Value.okWide P W r base0 T v) (h : DataW.Trod enc P W 0 (fun _ => true) true T v d p) (hsz : (DataW.weightsEach P ts ds).all (· ≤ reachBytes) = true) (hts : ts[j]? = some T) (hds : ds[j]? = some d) :
    ∃ (A : Option Addr) (R : List (List ByteArray)) (cp : Nat), v = .slice A R.length cp ∧ R.length ≤ cp ∧ cp ≤ 140737488351232 ∧ RRec W W.heap.size n A R ∧ (R = [] ∨ ∃ es ss : List (DataW H), d = .slice es ss ∧ ∀ (i : Nat) (q : List ByteArray), R[i]? = some q → es[i]? = some (strsD q)) := by
  obtain ⟨a0, len0, cap0, rfl⟩ := okWide_slice hT hval
  obtain ⟨fuel, hf⟩ := h
  rcases open_slice hT hf with ⟨hcs, hx⟩ | ⟨a, len, cap, m, n', D, Pl, hcs, hb, hl, hm, hmm, hx, hi⟩
  · simp [Value.cells] at hcs
    obtain ⟨rfl, rfl, rfl⟩ := hcs
    exact ⟨none, [], 0, rfl, by simp, by omega, .inl rfl, .inl rfl⟩
  · simp [Value.cells] at hcs
    obtain ⟨rfl, rfl, rfl⟩ := hcs
    simp only [if_true] at hmm
    subst hmm
    obtain rfl : d = _ := congrArg Prod.fst hx
    have hs := sized_slice hsz hts hds hT
    simp only [List.length_map, List.length_range] at hs
    unfold reachBytes at hs
    have hm2 : m ≤ 140737488351232 := by
      have h1 : (len0 + (m - len0)) * 1 ≤ (len0 + (m - len0)) * P.bytesOf e := Nat.mul_le_mul_left _ hB
      omega
    have key : ∀ i, ∃ x : List ByteArray, i < len0 → x.length = n ∧ (∀ j s, x[j]? = some s → W.cell? (a.add (i * n + j)) = some (.string s) ∧ s.size ≤ maxLen) ∧ D i = strsD x := by
      intro i
      by_cases him : i < len0
      · obtain ⟨cs', hc, ht'⟩ := hi i (by omega)
        rw [hC] at hc
        obtain ⟨_, hcl, hat⟩ := World.cells?_some hc
        obtain ⟨xs, n2, _, hx2, hlen, hxl, hfd⟩ := DataW.trod_struct he ht'
        rw [hC] at hlen
        rw [hn] at hxl
        have each : ∀ k, k < n → ∃ s : ByteArray, cs'[k]? = some (.string s) ∧ (xs[k]?).map (·.1) = some (.lit (.string s.data.toList)) ∧ s.size ≤ maxLen := fun k hk => by
          obtain ⟨f, hfk⟩ : ∃ f, fs[k]? = some f := ⟨_, Array.getElem?_eq_getElem (by omega)⟩
          obtain ⟨u1, u2, u3⟩ := hu k f hfk
          have h1 := hfd k f hfk
          obtain ⟨y, hy⟩ : ∃ y, xs[k]? = some y := ⟨_, List.getElem?_eq_getElem (by omega)⟩
          rw [hy, u2, u3] at h1
          obtain ⟨s, e1, e2, e3⟩ := DataW.trod_string u1 h1
          refine ⟨s, ?_, by rw [hy, e2]; rfl, e3⟩
          have h2 : (List.take 1 (List.drop k cs'))[0]? = some (.string s) := by rw [e1]; rfl
          rw [List.getElem?_take_of_lt (by omega), List.getElem?_drop] at h2
          simpa using h2
        obtain ⟨g, hg⟩ := Deep.choose_lt each
        refine ⟨(List.range n).map g, fun _ => ⟨by simp, fun j s hj => ?_, ?_⟩⟩
        · rw [List.getElem?_map] at hj
          by_cases hjn : j < n
          · rw [List.getElem?_range hjn] at hj
            obtain rfl : g j = s := by simpa using hj
            obtain ⟨q1, q2, q3⟩ := hg j hjn
            refine ⟨?_, q3⟩
            have := hat j (by omega)
            rw [Go.Deep.add_add] at this
            exact this.trans q1
          · rw [List.getElem?_eq_none (by simpa using hjn)] at hj
            cases hj
        · rw [show D i = _ from congrArg Prod.fst hx2]
          show DataW.agg _ = DataW.agg _
          congr 1
          apply List.ext_getElem?
          intro k
          by_cases hk : k < n
          · rw [List.getElem?_map, (hg k hk).2.1, List.getElem?_map, List.getElem?_map, List.getElem?_range hk]
            rfl
          · rw [List.getElem?_eq_none (by simp; omega), List.getElem?_eq_none (by simp; omega)]
      · exact ⟨[], fun h => absurd h him⟩
    obtain ⟨f, hf2⟩ := Classical.skolem.1 key
    have hlen : ((List.range len0).map f).length = len0 := by simp
    refine ⟨some a, (List.range len0).map f, m, by rw [hlen], by rw [hlen]; exact hl, hm2, ?_, .inr ⟨_, _, rfl, fun i q hq => ?_⟩⟩
    · rcases Nat.eq_zero_or_pos len0 with h0 | h0
      · subst h0; exact .inl (by simp)
      · obtain ⟨b, off, spot⟩ := a
        obtain ⟨l0, c0, -⟩ := hf2 0 h0
        obtain ⟨s0, hs0⟩ : ∃ s, (f 0)[0]? = some s := ⟨_, List.getElem?_eq_getElem (by omega)⟩
        have hc0 := (c0 0 s0 hs0).1
        obtain rfl : spot = none := by simpa [Addr.add] using World.cell?_spot hc0
        have hlt := World.block_lt_of_cell? _ _ hc0
        refine .inr ⟨b, off, rfl, by simpa [Addr.add_lit] using hlt, fun i x hx => ?_⟩
        rw [List.getElem?_map] at hx
        by_cases hil : i < len0
        · rw [List.getElem?_range hil] at hx
          obtain rfl : f i = x := by simpa using hx
          obtain ⟨l1, c1, -⟩ := hf2 i hil
          refine ⟨l1, fun j s hj => ?_⟩
          have := c1 j s hj
          rw [Addr.add_lit, ← Nat.add_assoc] at this
          exact this
        · rw [List.getElem?_eq_none (by simpa using hil)] at hx
          cases hx
    · rw [List.getElem?_map] at hq ⊢
      by_cases hil : i < len0
      · rw [List.getElem?_range hil] at hq ⊢
        obtain rfl : f i = q := by simpa using hq
        rw [Option.map_some, (hf2 i hil).2.2]
      · rw [List.getElem?_eq_none (by simpa using hil)] at hq
        cases hq
end
end Go.Proofs.YtlknclkkhincfaaDoor
