/-
  Entries' lines in memory. No condition.
-/
import Derived.Test.YtlknclkkhincfaaDoorTbAdd
import Derived.Test.YtlknclkkhincfaaDoorLibAll
namespace Go.Proofs.YtlknclkkhincfaaDoor
open Go.RowKit
set_option linter.unusedVariables false
theorem uxL : UX Tryd.prog 67 74 3 := by
  obtain ⟨i, h1, h2, h3, h4⟩ := info_parts (show (Tryd.prog.info? 74).map (fun i => (i.zero, i.size, i.bytes)) = some (some (.agg #[.int .i64 0, .string ⟨#[]⟩, .slice none 0 0]), 3, 48) by kernel_rfl)
  exact ⟨Tryd.underlying67, ⟨i, _, h1, h2, rfl, h3, by omega⟩, by omega⟩
def strsV (ps : List (List UInt8)) : List Value := ps.map fun l => Value.string (bs l)
/-- line i, as it lies in memory -/
def LnRow (w : World) (own : Nat → Nat × Nat) (i : Nat) (x : PL) (r : List Value) : Prop :=
  ∃ v gi, r = [.int .i64 (x.at_ : Int), .string (bs x.key), v] ∧ OwnX 1 w gi v (strsV x.ps) ∧ ∀ b, gi = some b → own b = (2, i)
def CutSt (w : World) (own : Nat → Nat × Nat) (vo : Value) (out : List PL) : Prop :=
  ∃ (g : Option Nat) (R : List (List Value)), OwnX 3 w g vo R.flatten ∧ (∀ b, g = some b → own b = (1, 0)) ∧ R.length = out.length ∧ (∀ r ∈ R, r.length = 3) ∧ ∀ i x r, out[i]? = some x → R[i]? = some r → LnRow w own i x r
def isT (t : Nat × Nat) : Prop := t.1 = 1 ∨ t.1 = 2
theorem CutSt.nil (w : World) (own : Nat → Nat × Nat) : CutSt w own (.slice none 0 0) [] :=
  ⟨none, [], OwnX.nil w none, (fun _ h => by cases h), rfl, (fun _ h => by cases h), fun i x r h => by simp at h⟩
theorem LnRow.keep {w w' : World} {own own' : Nat → Nat × Nat} {i : Nat} {x : PL} {r : List Value} (h : LnRow w own i x r) (hs : w.heap.size ≤ w'.heap.size) (hk : ∀ k, k < w.heap.size → own k = (2, i) → w'.heap[k]? = w.heap[k]? ∧ own' k = own k) : LnRow w' own' i x r := by
  obtain ⟨v, gi, h1, h2, h3⟩ := h
  exact ⟨v, gi, h1, h2.same hs fun b hb => (hk b (h2.lt hb) (h3 b hb)).1, fun b hb => by rw [(hk b (h2.lt hb) (h3 b hb)).2]; exact h3 b hb⟩
theorem CutSt.below {w w' : World} {own : Nat → Nat × Nat} {vo : Value} {out : List PL} (h : CutSt w own vo out) (hb : Below w.heap.size w w') : CutSt w' own vo out := by
  obtain ⟨g, R, h1, h2, h3, h4, h5⟩ := h
  exact ⟨g, R, h1.below hb fun k hk => h1.lt hk, h2, h3, h4, fun i x r a b => (h5 i x r a b).keep hb.size fun k hk _ => ⟨hb.block k hk, rfl⟩⟩
/-- one more line -/
theorem CutSt.snoc {w w1 w2 : World} {own : Nat → Nat × Nat} {vo vo' v : Value} {out : List PL} {g' gi : Option Nat} {R : List (List Value)} {g : Option Nat} (x : PL)
    (h1 : OwnX 3 w g vo R.flatten) (h2 : ∀ b, g = some b → own b = (1, 0)) (h3 : R.length = out.length) (h4 : ∀ r ∈ R, r.length = 3) (h5 : ∀ i x r, out[i]? = some x → R[i]? = some r → LnRow w own i x r)
    (hb : Below w.heap.size w w1) (hv : OwnX 1 w1 gi v (strsV x.ps)) (hgi : ∀ k, gi = some k → w.heap.size ≤ k) (hg : w1.grownBy w2 g) (ho : g' = g ∨ g' = some w1.heap.size) (hX : OwnX 3 w2 g' vo' (R.flatten ++ [.int .i64 (x.at_ : Int), .string (bs x.key), v])) :
    ∃ own', CutSt w2 own' vo' (out ++ [x]) ∧ Turn isT w w2 own own' := by
  have s1 := hb.size
  have s2 := hg.size
  refine ⟨fun k => if k < w.heap.size then own k else if gi = some k then (2, out.length) else (1, 0), ⟨g', R ++ [[.int .i64 (x.at_ : Int), .string (bs x.key), v]], by simpa using hX, fun b e => ?_, by simp [h3], fun r hr => ?_, fun i y r hy hr => ?_⟩, ?_⟩
  · by_cases hbl : b < w.heap.size
    · show (if b < w.heap.size then own b else _) = _
      rw [if_pos hbl]
      rcases ho with rfl | rfl
      · exact h2 b e
      · injection e with e; omega
    · show (if b < w.heap.size then own b else if gi = some b then (2, out.length) else (1, 0)) = _
      rw [if_neg hbl, if_neg]
      intro e2
      have hlt := hv.lt e2
      rcases ho with rfl | rfl
      · exact hbl (h1.lt e)
      · injection e with e; omega
  · rcases List.mem_append.1 hr with hr | hr
    · exact h4 r hr
    · obtain rfl : r = _ := by simpa using hr
      rfl
  · rcases Nat.lt_or_ge i R.length with hi | hi
    · rw [List.getElem?_append_left hi] at hr
      rw [List.getElem?_append_left (by rw [← h3]; exact hi)] at hy
      refine (h5 i y r hy hr).keep (by omega) fun k hk hk2 => ⟨?_, if_pos hk⟩
      refine (hg.block k (by omega) fun e => ?_).trans (hb.block k hk)
      have := h2 k e.symm
      rw [hk2] at this; cases this
    · rw [List.getElem?_append_right hi] at hr
      rw [List.getElem?_append_right (by rw [← h3]; exact hi), ← h3] at hy
      have hi0 : i - R.length = 0 := by have := (List.getElem?_eq_some_iff.1 hr).1; simpa using this
      rw [hi0] at hr hy
      obtain rfl : _ = r := by simpa using hr
      obtain rfl : _ = y := by simpa using hy
      refine ⟨v, gi, rfl, hv.same (by omega) fun k hk => hg.block k (hv.lt hk) fun e => ?_, fun b hbe => ?_⟩
      · have := h1.lt e.symm; have := hgi k hk; omega
      · show (if b < w.heap.size then own b else if gi = some b then (2, out.length) else (1, 0)) = _
        have := hgi b hbe
        rw [if_neg (by omega), if_pos hbe, show i = out.length by omega]
  · refine ⟨hg.os.trans hb.os, hg.tape.trans hb.tape, hg.output.trans hb.output, Nat.le_trans s1 s2, fun k hk hn => ?_, fun k hk hn => if_pos hk⟩
    refine (hg.block k (by omega) fun e => hn ?_).trans (hb.block k hk)
    exact .inl (by rw [h2 k e.symm])
/-- one more piece in the last line -/
theorem CutSt.last {w : World} {own : Nat → Nat × Nat} {A : Option Addr} {n c : Nat} {out : List PL} (h : CutSt w own (.slice A n c) out) (hne : out ≠ []) :
    n = out.length ∧ n ≤ c ∧ c ≤ maxLen ∧ ∃ gb off v gi x, A = some ⟨gb, off, none⟩ ∧ w.cell? ⟨gb, off + (n - 1) * 3 + 2, none⟩ = some v ∧ w.frozen? ⟨gb, off + (n - 1) * 3 + 2, none⟩ = false ∧ out.getLast? = some x ∧ OwnX 1 w gi v (strsV x.ps) ∧ gi ≠ some gb ∧
      ∀ s e w', AddPost w gb (off + (n - 1) * 3) x.ps gi s e w' → e = .returned (.tuple #[]) ∧ ∃ own', CutSt w' own' (.slice A n c) (modLast out s) ∧ Turn isT w w' own own' := by
  obtain ⟨g, R, h1, h2, h3, h4, h5⟩ := h
  have hn0 : 0 < out.length := List.length_pos_iff.2 hne
  obtain ⟨r, hr⟩ : ∃ r, R[out.length - 1]? = some r := ⟨_, List.getElem?_eq_getElem (by omega)⟩
  obtain ⟨x, hx⟩ : ∃ x, out[out.length - 1]? = some x := ⟨_, List.getElem?_eq_getElem (by omega)⟩
  have hlast : out.getLast? = some x := by rw [List.getLast?_eq_getElem?]; exact hx
  obtain ⟨en, ec, em, ei, gb, off, hgo, hA, hlt, hcf⟩ := h1.elem (by omega) h4 hr
  rw [h3] at en
  obtain ⟨v, gi, hre, hv, hm⟩ := h5 _ x r hx hr
  have hne2 : gi ≠ some gb := fun e => by have a := hm gb e; rw [h2 gb hgo] at a; cases a
  refine ⟨en, ec, em, gb, off, v, gi, x, hA, ?_, ?_, hlast, hv, hne2, fun s e w' hp => ⟨hp.1, ?_⟩⟩
  · rw [en, (hcf 2 (by omega)).1, hre]; rfl
  · rw [en]; exact (hcf 2 (by omega)).2
  have hml : modLast out s = out.dropLast ++ [addP x s] := by unfold modLast; rw [hlast]
  have hset : out.dropLast ++ [addP x s] = out.set (out.length - 1) (addP x s) := by
    have e1 : out = out.dropLast ++ [x] := by
      have e2 := List.dropLast_concat_getLast hne
      have e3 : out.getLast hne = x := by rw [List.getLast?_eq_some_getLast hne] at hlast; exact Option.some.inj hlast
      rw [e3] at e2; exact e2.symm
    have e4 : out.length - 1 = out.dropLast.length := by rw [List.length_dropLast]
    conv => rhs; rw [e4, e1]
    rw [List.dropLast_concat, List.set_append_right _ _ (Nat.le_refl _)]
    simp
  rcases hp.2 with ⟨h0, hb⟩ | ⟨h0, v', g', w2, hX', hG, ho, rfl⟩
  · have : addP x s = x := by unfold addP; rw [if_pos h0]
    refine ⟨own, ?_, Turn.of_below hb fun _ _ => rfl⟩
    have e5 : modLast out s = out := by
      rw [hml, hset, this]
      apply List.ext_getElem?
      intro i
      by_cases hi : out.length - 1 = i
      · rw [← hi, List.getElem?_set_self (by omega), hx]
      · rw [List.getElem?_set_ne hi]
    rw [e5]
    exact CutSt.below ⟨g, R, h1, h2, h3, h4, h5⟩ hb
  · have hadd : addP x s = { x with ps := x.ps ++ [trimB s] } := by unfold addP; rw [if_neg h0]
    have sG := hG.size
    have hgo' : g' ≠ some gb := fun e => by
      rcases ho with rfl | ⟨k, rfl, hk⟩
      · exact hne2 e
      · injection e with e; omega
    have gne : g ≠ gi := fun e => hne2 (by rw [← e]; exact hgo)
    refine ⟨fun k => if k < w.heap.size then own k else (2, out.length - 1), ?_, ?_⟩
    · rw [hml, hset, hadd]
      refine ⟨g, R.set (out.length - 1) (r.set 2 v'), ?_, fun b hb => ?_, by simp [h3], set_all h4 (by rw [hre]; rfl), fun i y r2 hy hr2 => ?_⟩
      · have hk : OwnX 3 w2 g (.slice A n c) R.flatten := h1.same sG fun k hk => hG.block k (h1.lt hk) (fun e => gne (by rw [hk, e]))
        rw [hA] at hk ⊢
        have := hk.put_ (by omega) h4 hr (j := 2) (by omega) v'
        rw [en]
        rw [en] at this
        exact this
      · show (if b < w.heap.size then own b else _) = _
        rw [if_pos (h1.lt hb)]; exact h2 b hb
      · by_cases hi : out.length - 1 = i
        · subst hi
          rw [List.getElem?_set_self (by omega)] at hy hr2
          obtain rfl := Option.some.inj hy
          obtain rfl := Option.some.inj hr2
          refine ⟨v', g', by rw [hre]; rfl, ?_, fun b hb => ?_⟩
          · refine OwnX.same (w := w2) ?_ (by simp) fun k hk => Below.heap_setCell w2 _ v' k (fun e => hgo' (by rw [hk]; exact congrArg some e))
            exact hX'
          · rcases ho with rfl | ⟨k, rfl, hk⟩
            · show (if b < w.heap.size then own b else _) = _
              rw [if_pos (hv.lt hb)]; exact hm b hb
            · injection hb with hb
              show (if b < w.heap.size then own b else _) = _
              rw [if_neg (by omega)]
        · rw [List.getElem?_set_ne hi] at hy hr2
          refine (h5 i y r2 hy hr2).keep (by simpa using sG) fun k hk hk2 => ⟨?_, if_pos hk⟩
          refine (Below.heap_setCell w2 _ v' k (fun e => ?_)).trans (hG.block k hk (fun e => ?_))
          · have : own gb = (2, i) := by rw [← hk2]; exact congrArg own e.symm
            rw [h2 gb hgo] at this; cases this
          · have := hm k e.symm
            rw [hk2] at this
            injection this with _ this
            exact hi this.symm
    · refine ⟨hG.os, hG.tape, hG.output, by simpa using sG, fun k hk hn => ?_, fun k hk _ => if_pos hk⟩
      refine (Below.heap_setCell w2 _ v' k (fun e => hn ?_)).trans (hG.block k hk (fun e => hn ?_))
      · exact .inl (by rw [show k = gb from e, h2 gb hgo])
      · exact .inr (by rw [hm k e.symm])
/-- a new line's pieces -/
theorem add_new {w w' : World} {b : Nat} {T : TypeId} {u1 u2 : Value} {s : List UInt8} {e : Ending} (hB : Blk w b T #[u1, u2, .slice none 0 0]) (h : AddPost w b 0 [] none s e w') :
    e = .returned (.tuple #[]) ∧ ∃ v gi, Blk w' b T #[u1, u2, v] ∧ OwnX 1 w' gi v (strsV (addP ⟨0, [], []⟩ s).ps) ∧ (∀ k, gi = some k → w.heap.size ≤ k) ∧ w.grownBy w' (some b) := by
  obtain ⟨he, h⟩ := h
  refine ⟨he, ?_⟩
  rcases h with ⟨h0, hb⟩ | ⟨h0, v', g', w2, hX, hG, ho, rfl⟩
  · have : addP ⟨0, [], []⟩ s = ⟨0, [], []⟩ := by unfold addP; rw [if_pos h0]
    rw [this]
    exact ⟨_, none, hB.keep hb, OwnX.nil _ none, (fun k h => by cases h), grownBy_of_below hb _⟩
  · have : (addP ⟨0, [], []⟩ s).ps = [] ++ [trimB s] := by unfold addP; rw [if_neg h0]
    rw [this]
    have hge : ∀ k, g' = some k → w.heap.size ≤ k := fun k hk => by
      rcases ho with rfl | ⟨k', rfl, hk'⟩
      · cases hk
      · injection hk with hk; omega
    refine ⟨v', g', ?_, ?_, hge, ?_⟩
    · have h2 : Blk w2 b T #[u1, u2, .slice none 0 0] := hB.grown hG (by simp)
      have := h2.set_ 2 v'
      simpa using this
    · exact OwnX.same (w := w2) hX (by simp) fun k hk => Below.heap_setCell w2 _ v' k (fun e => by have := hge k hk; have := hB.lt; rw [show k = b from e] at *; omega)
    · exact ⟨hG.os, hG.tape, hG.output, by simpa using hG.size, fun k hk hne => (Below.heap_setCell w2 _ v' k (fun e => hne (by rw [show k = b from e]))).trans (hG.block k hk (by simp))⟩
end Go.Proofs.YtlknclkkhincfaaDoor
