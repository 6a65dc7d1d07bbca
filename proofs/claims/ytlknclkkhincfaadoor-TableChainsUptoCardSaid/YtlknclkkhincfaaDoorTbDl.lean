/-
  The document's lines: plain, and in memory. No condition.
-/
import Derived.Test.YtlknclkkhincfaaDoorTbLaw
import Derived.Test.YtlknclkkhincfaaDoorTbRf
namespace Go.Proofs.YtlknclkkhincfaaDoor
open Go.RowKit
set_option linter.unusedVariables false
def skipD (s : List UInt8) : Bool := (trimB s).isEmpty || (trimB s).head? == some 35
def blD (s : List UInt8) : Bool := match s with
  | c :: _ => isBl c
  | [] => false
/-- lines, and the places at which something is wrong, behind one more line -/
def dStep (at_ : Nat) (s : List UInt8) (o : List PL × List Nat) : List PL × List Nat :=
  if skipD s then o else if blD s then (if o.1 = [] then (o.1, o.2 ++ [at_]) else (modLast o.1 s, o.2)) else (o.1 ++ [⟨at_, s, []⟩], o.2)
def dGo : Nat → List UInt8 → Nat → List PL × List Nat → List PL × List Nat
  | 0, _, _, o => o
  | f + 1, rest, at_, o => if rest = [] then o else dGo f (rest.drop ((lineOf rest).length + 1)) (at_ + (lineOf rest).length + 1) (dStep at_ (lineOf rest) o)
theorem dGo_nil (f at_ : Nat) (o : List PL × List Nat) : dGo f [] at_ o = o := by cases f <;> simp [dGo]
theorem dGo_fuel : ∀ (f g : Nat) (rest : List UInt8) (at_ : Nat) (o : List PL × List Nat), rest.length ≤ f → rest.length ≤ g → dGo f rest at_ o = dGo g rest at_ o
  | 0, g, rest, at_, o, h1, h2 => by
    obtain rfl : rest = [] := List.eq_nil_of_length_eq_zero (by omega)
    rw [dGo_nil, dGo_nil]
  | f + 1, 0, rest, at_, o, h1, h2 => by
    obtain rfl : rest = [] := List.eq_nil_of_length_eq_zero (by omega)
    rw [dGo_nil, dGo_nil]
  | f + 1, g + 1, rest, at_, o, h1, h2 => by
    rw [dGo, dGo]
    split
    · rfl
    · rename_i hr
      have : 0 < rest.length := List.length_pos_iff.2 hr
      exact dGo_fuel f g _ _ _ (by rw [List.length_drop]; omega) (by rw [List.length_drop]; omega)
theorem dGo_next (text : List UInt8) {at_ : Nat} (h : at_ < text.length) (o : List PL × List Nat) :
    dGo text.length (text.drop at_) at_ o = dGo text.length (text.drop (at_ + (lineOf (text.drop at_)).length + 1)) (at_ + (lineOf (text.drop at_)).length + 1) (dStep at_ (lineOf (text.drop at_)) o) := by
  have h1 : 0 < (text.drop at_).length := by rw [List.length_drop]; omega
  have hne : text.drop at_ ≠ [] := List.length_pos_iff.1 h1
  rw [dGo_fuel text.length (text.length + 1) _ _ _ (by rw [List.length_drop]; omega) (by rw [List.length_drop]; omega), dGo, if_neg hne, List.drop_drop]
  rw [show at_ + ((lineOf (text.drop at_)).length + 1) = at_ + (lineOf (text.drop at_)).length + 1 by omega]
theorem lineOf_step {text : List UInt8} {e : Nat} (h : e < text.length) (hc : text[e] ≠ 10) : (lineOf (text.drop e)).length = (lineOf (text.drop (e + 1))).length + 1 := by
  rw [List.drop_eq_getElem_cons h]
  unfold lineOf
  rw [List.takeWhile_cons_of_pos (by simpa using hc)]
  rfl
theorem lineOf_stop {text : List UInt8} {e : Nat} (h : e < text.length) (hc : text[e] = 10) : (lineOf (text.drop e)).length = 0 := by
  rw [List.drop_eq_getElem_cons h, hc]
  rfl
theorem mid_bs (text : List UInt8) (i j : Nat) (h : j = i + (lineOf (text.drop i)).length) : (bs text).extract i j = bs (lineOf (text.drop i)) := by
  apply ByteArray.ext
  apply Array.ext'
  rw [ByteArray.data_extract]
  simp only [bs, Array.toList_extract, List.extract_eq_take_drop]
  rw [show j - i = (lineOf (text.drop i)).length by omega]
  unfold lineOf
  exact (List.prefix_iff_eq_take.1 (List.takeWhile_prefix _)).symm
/-! ### in memory -/
theorem uxD : UX Tryd.prog 58 63 3 := by
  obtain ⟨i, h1, h2, h3, h4⟩ := info_parts (show (Tryd.prog.info? 63).map (fun i => (i.zero, i.size, i.bytes)) = some (some (.agg #[.int .i64 0, .string ⟨#[]⟩, .slice none 0 0]), 3, 48) by kernel_rfl)
  exact ⟨Tryd.underlying58, ⟨i, _, h1, h2, rfl, h3, by omega⟩, by omega⟩
theorem uxI : UX Tryd.prog 59 3 1 := by
  obtain ⟨i, h1, h2, h3, h4⟩ := info_parts (show (Tryd.prog.info? 3).map (fun i => (i.zero, i.size, i.bytes)) = some (some (.int .i64 0), 1, 8) by kernel_rfl)
  exact ⟨Tryd.underlying59, ⟨i, _, h1, h2, rfl, h3, by omega⟩, by omega⟩
def natV (n : Nat) : Value := .int .i64 (n : Int)
def natsV (l : List Nat) : List Value := l.map natV
theorem natsV_snoc (l : List Nat) (n : Nat) : natsV l ++ [.int .i64 (n : Int)] = natsV (l ++ [n]) := by simp [natsV, natV]
theorem natsV_len (l : List Nat) : (natsV l).length = l.length := List.length_map _
theorem CutSt.turn {cl : Nat × Nat → Prop} {w w' : World} {own own' : Nat → Nat × Nat} {vo : Value} {out : List PL} (h : CutSt w own vo out) (ht : Turn cl w w' own own') (hc : ∀ t, cl t → t.1 ≠ 1 ∧ t.1 ≠ 2) : CutSt w' own' vo out := by
  obtain ⟨g, R, h1, h2, h3, h4, h5⟩ := h
  have n1 : ∀ k, k < w.heap.size → (own k).1 = 1 ∨ (own k).1 = 2 → w'.heap[k]? = w.heap[k]? ∧ own' k = own k := fun k hk ho => by
    have : ¬ cl (own k) := fun hx => by have := hc _ hx; omega
    exact ⟨ht.block k hk this, ht.mark k hk this⟩
  refine ⟨g, R, h1.same ht.size fun k hk => (n1 k (h1.lt hk) (.inl (by rw [h2 k hk]))).1, fun b hb => ?_, h3, h4, fun i x r a b => (h5 i x r a b).keep ht.size fun k hk ho => n1 k hk (.inr (by rw [ho]))⟩
  rw [(n1 b (h1.lt hb) (.inl (by rw [h2 b hb]))).2]
  exact h2 b hb
def RlSt (w : World) (own : Nat → Nat × Nat) (vo vb : Value) (out : List PL) (bads : List Nat) : Prop :=
  CutSt w own vo out ∧ ∃ g, OwnX 1 w g vb (natsV bads) ∧ ∀ b, g = some b → own b = (3, 0)
theorem RlSt.below {w w' : World} {own : Nat → Nat × Nat} {vo vb : Value} {out : List PL} {bads : List Nat} (h : RlSt w own vo vb out bads) (hb : Below w.heap.size w w') : RlSt w' own vo vb out bads := by
  obtain ⟨h1, g, h2, h3⟩ := h
  exact ⟨h1.below hb, g, h2.below hb fun k hk => h2.lt hk, h3⟩
def isBad (t : Nat × Nat) : Prop := t = (3, 0)
theorem RlSt.bad {w w1 w2 : World} {own : Nat → Nat × Nat} {vo vb' : Value} {out : List PL} {bads : List Nat} {g g' : Option Nat} (h : CutSt w own vo out) (hm : ∀ b, g = some b → own b = (3, 0)) (hb : Below w.heap.size w w1) (hG : w1.grownBy w2 g) (ho : g' = g ∨ g' = some w1.heap.size) (hlt : ∀ b, g = some b → b < w.heap.size) (hX : OwnX 1 w2 g' vb' (natsV bads)) :
    ∃ own', RlSt w2 own' vo vb' out bads ∧ Turn isBad w w2 own own' := by
  have s1 := hb.size
  have s2 := hG.size
  have ht : Turn isBad w w2 own (fun k => if k < w.heap.size then own k else (3, 0)) := by
    refine ⟨hG.os.trans hb.os, hG.tape.trans hb.tape, hG.output.trans hb.output, by omega, fun k hk hn => (hG.block k (by omega) fun e => hn ?_).trans (hb.block k hk), fun k hk _ => if_pos hk⟩
    exact hm k e.symm
  refine ⟨_, ⟨h.turn ht (by rintro t rfl; exact ⟨by decide, by decide⟩), g', hX, fun b e => ?_⟩, ht⟩
  show (if b < w.heap.size then own b else (3, 0)) = _
  by_cases hbl : b < w.heap.size
  · rw [if_pos hbl]
    rcases ho with rfl | rfl
    · exact hm b e
    · injection e with e; omega
  · rw [if_neg hbl]
theorem RlSt.out {w w' : World} {own own' : Nat → Nat × Nat} {vo vo' vb : Value} {out out' : List PL} {bads : List Nat} (h : RlSt w own vo vb out bads) (hC : CutSt w' own' vo' out') (ht : Turn isT w w' own own') : RlSt w' own' vo' vb out' bads := by
  obtain ⟨h1, g, h2, h3⟩ := h
  have hn : ∀ b, g = some b → ¬ isT (own b) := fun b hb hx => by rw [h3 b hb] at hx; rcases hx with hx | hx <;> cases hx
  exact ⟨hC, g, h2.same ht.size fun k hk => ht.block k (h2.lt hk) (hn k hk), fun b hb => by rw [ht.mark b (h2.lt hb) (hn b hb)]; exact h3 b hb⟩
/-- what Lines leaves -/
def LPost (w : World) (text : List UInt8) (e : Ending) (w' : World) : Prop :=
  ∃ own vo vb b0 out bads, (b0 = [] ↔ text.all okC = true) ∧ dGo text.length text 0 ([], b0) = (out, bads) ∧ RlSt w' own vo vb out bads ∧ (∀ k, k < w.heap.size → own k = (0, 0)) ∧ e = .returned (.tuple #[vo, vb]) ∧ Below w.heap.size w w' ∧
    (∀ b ∈ bads, b < text.length) ∧ bads.length ≤ 600000 ∧ out.length ≤ 262145 ∧ (∀ x ∈ out, x.at_ < text.length ∧ x.ps.length ≤ 262145 ∧ x.key.length ≤ text.length ∧ ∀ p ∈ x.ps, p.length ≤ text.length)
end Go.Proofs.YtlknclkkhincfaaDoor
