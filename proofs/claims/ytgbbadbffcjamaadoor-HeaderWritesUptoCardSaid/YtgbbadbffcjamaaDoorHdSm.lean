/-
  Sizes of the fields of a content; rows of fields beside a row of bytes that is written. No condition.
-/
import Derived.Test.YtgbbadbffcjamaaDoorHdF4
import Derived.Test.YtgbbadbffcjamaaDoorHdLC
import Derived.Test.YtgbbadbffcjamaaDoorHdCc
namespace Go.Proofs.YtgbbadbffcjamaaDoor
open Go.RowKit
set_option linter.unusedVariables false
def smN (N : Nat) (g : Fd) : Prop := g.nm.length ≤ N ∧ g.bd.length ≤ N
theorem splH_sm {D : List UInt8} : ∀ (f at_ : Nat) (out : List Fd), (∀ g ∈ out, smN D.length g) → ∀ g ∈ (splH D f at_ out).1, smN D.length g
  | 0, at_, out, h => h
  | f + 1, at_, out, h => by
    by_cases hl : at_ < D.length
    · by_cases hA : out ≠ [] ∧ blH (lnP (D.drop at_)).1 = true
      · obtain ⟨L0, g, rfl⟩ := getLast_some hA.1
        rw [splH_more hl hA.2]
        refine splH_sm f _ _ fun x hx => ?_
        rcases List.mem_append.1 hx with hx | hx
        · exact h x (List.mem_append_left _ hx)
        · obtain rfl : x = _ := by simpa using hx
          obtain ⟨h1, -⟩ := h g (by simp)
          refine ⟨h1, ?_⟩
          show ((D.drop _).take _).length ≤ _
          rw [List.length_take, List.length_drop]
          omega
      · cases hc : colP (lnP (D.drop at_)).1 with
        | some nr =>
          obtain ⟨nm, rs⟩ := nr
          rw [splH_new hl hA hc]
          refine splH_sm f _ _ fun x hx => ?_
          rcases List.mem_append.1 hx with hx | hx
          · exact h x hx
          · obtain rfl : x = _ := by simpa using hx
            have h1 := (lnP_le (D.drop at_)).1
            have h2 := (lnP_le (D.drop at_)).2.1
            rw [List.length_drop] at h2
            unfold colP at hc
            cases e : cutAt 58 (lnP (D.drop at_)).1 with
            | none => rw [e] at hc; cases hc
            | some xy =>
              obtain ⟨x, y⟩ := xy
              rw [e] at hc
              simp only [] at hc
              split at hc
              · injection hc with hc
                injection hc with c1 c2
                subst c1 c2
                have := congrArg List.length (cutAt_some e).1
                simp at this
                exact ⟨by show x.length ≤ _; omega, by show y.length ≤ _; omega⟩
              · cases hc
        | none =>
          rw [splH_stop hl hA hc]
          exact h
    · rw [splH_end (by omega)]
      exact h
theorem split11_small {D : List UInt8} {L : List Fd} {b : Nat} {er : Int} (h : split11 D = (L, b, er)) (hD : D.length ≤ 2000000) : smallF L ∧ L.length ≤ 1000 ∧ b ≤ D.length := by
  obtain ⟨L1, b1, hS⟩ : ∃ L1 b1, splP D = (L1, b1) := ⟨_, _, rfl⟩
  obtain ⟨t, ht⟩ : ∃ t, split11 D = if 65536 < t then ([], 0, 111) else if 1000 < (splP D).1.length then ([], 0, 112) else ((splP D).1, (splP D).2, 0) := ⟨_, rfl⟩
  rw [ht, hS] at h
  simp only [] at h
  split at h
  · injection h with h1 h2; injection h2 with h2 h3; subst h1 h2; exact ⟨fun g hg => (by cases hg), by simp, by simp⟩
  split at h
  · injection h with h1 h2; injection h2 with h2 h3; subst h1 h2; exact ⟨fun g hg => (by cases hg), by simp, by simp⟩
  rename_i hle
  injection h with h1 h2; injection h2 with h2 h3; subst h1 h2
  obtain ⟨e, q1, q2, q3⟩ := splP_chain hS
  refine ⟨fun g hg => ?_, by omega, by rcases q3 with q | q <;> omega⟩
  have k0 := splH_sm (D := D) D.length 0 [] (by simp) g
  rw [show splH D D.length 0 [] = (L1, b1) from hS] at k0
  obtain ⟨k1, k2⟩ := k0 hg
  have k3 : ∀ {L : List Fd} {a : Nat}, chainF D.length a e L → g ∈ L → g.fr ≤ D.length ∧ g.tt ≤ D.length := by
    intro L
    induction L with
    | nil => intro a _ h; cases h
    | cons x L ih =>
      intro a h hm
      obtain ⟨h1, h2, h3, h4⟩ := h
      rcases List.mem_cons.1 hm with rfl | hm
      · omega
      · exact ih h4 hm
  have := k3 q2 hg
  exact ⟨by omega, by omega, by omega, by omega⟩
/-- a byte that is written is no cell of a field -/
theorem RF.byte {w : World} {B : Nat} {A : Option Addr} {L : List Fd} (h : RF w B A L) {p : Addr} {x : Int} (hp : w.cell? p = some (.int .u8 x)) (hs : p.spot = none) (v : Value) : RF (w.setCell p v) B A L := by
  rcases h with h | ⟨b, off, rfl, hlt, hc⟩
  · exact .inl h
  · refine .inr ⟨b, off, rfl, hlt, fun i g hi j u hu => ?_⟩
    have h1 := hc i g hi j u hu
    have hne : p ≠ ⟨b, off + i * 4 + j, none⟩ := by
      rintro rfl
      rw [h1] at hp
      injection hp with hp
      subst hp
      have hj : j < 4 := by have := (List.getElem?_eq_some_iff.1 hu).1; simpa [fdc] using this
      match j, hj with
      | 0, _ => simp [fdc, sv] at hu
      | 1, _ => simp [fdc, sv] at hu
      | 2, _ => simp [fdc] at hu
      | 3, _ => simp [fdc] at hu
    exact (World.cell?_setCell_other _ _ _ _ hne).trans h1
/-- bytes that may be written -/
def Wu (w : World) (A : Option Addr) (n : Nat) : Prop := ∀ g o, A = some ⟨g, o, none⟩ → ∀ i, i < n → (∃ u, w.cell? ⟨g, o + i, none⟩ = some (.int .u8 u)) ∧ w.frozen? ⟨g, o + i, none⟩ = false
theorem Wu.set_ {w : World} {A : Option Addr} {n : Nat} (h : Wu w A n) (p : Addr) (u : Int) : Wu (w.setCell p (.int .u8 u)) A n := fun g o e i hi => by
  obtain ⟨⟨v, h1⟩, h2⟩ := h g o e i hi
  refine ⟨?_, by rw [← h2]; simp⟩
  by_cases hp : (⟨g, o + i, none⟩ : Addr) = p
  · subst hp
    exact ⟨u, World.cell?_setCell_same _ _ _ h1⟩
  · exact ⟨v, (World.cell?_setCell_other _ _ _ _ (Ne.symm hp)).trans h1⟩
theorem OwnV.wu {w : World} {base n c : Nat} {A : Option Addr} {l : List UInt8} (h : OwnV w base (.slice A n c) l) : Wu w A n ∧ (0 < n → ∃ g o, A = some ⟨g, o, none⟩ ∧ base ≤ g) := by
  obtain ⟨A', c', e, _, _, h3⟩ := h
  injection e with e1 e2 e3
  subst e1; subst e2; subst e3
  rcases h3 with rfl | ⟨g, off, rfl, hb, _, hc⟩
  · exact ⟨fun g o e i hi => by simp at hi, fun h => by simp at h⟩
  · refine ⟨fun g' o' e i hi => ?_, fun _ => ⟨g, off, rfl, hb⟩⟩
    injection e with e
    injection e with e1 e2
    subst e1 e2
    exact ⟨⟨_, (hc i hi).1⟩, (hc i hi).2⟩
/-- what Find answers -/
def fr11 (t : ByteArray) (L : List Fd) : Fd × Bool := match find11 t L with
  | some g => (g, true)
  | none => (emptyF, false)
theorem FindPost.get {w w' : World} {t : ByteArray} {L : List Fd} {e : Ending} (h : FindPost w t L e w') : Below w.heap.size w w' ∧ e = .returned (.tuple #[fdv (fr11 t L).1, .bool (fr11 t L).2]) := by
  obtain ⟨h1, ⟨g, h2, h3⟩ | ⟨h2, h3⟩⟩ := h
  · refine ⟨h1, ?_⟩; unfold fr11; rw [h2]; exact h3
  · refine ⟨h1, ?_⟩; unfold fr11; rw [h2]; exact h3
end Go.Proofs.YtgbbadbffcjamaaDoor
