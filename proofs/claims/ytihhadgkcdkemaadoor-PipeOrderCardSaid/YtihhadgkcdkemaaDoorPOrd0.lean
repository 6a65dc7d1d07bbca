/-
  Words for PipeOrder. No condition.
-/
import Derived.Test.YtihhadgkcdkemaaDoorPShown
import Derived.Test.YtihhadgkcdkemaaDoorOpenR
namespace Go.Proofs.YtihhadgkcdkemaaDoor
open Go.RowKit Go.Maps
set_option linter.unusedVariables false
def S2 (m : Nat) (Q R : List (List UInt8)) : List Pq := [⟨⟨#[97]⟩, ⟨#[98]⟩, m, Q⟩, ⟨⟨#[98]⟩, ⟨#[97]⟩, 64, R⟩]
theorem ia (m : Nat) (Q R : List (List UInt8)) : idxQ ⟨#[97]⟩ ⟨#[98]⟩ (S2 m Q R) = some 0 := by
  unfold S2 idxQ
  rw [if_pos ⟨rfl, rfl⟩]
theorem ib (m : Nat) (Q R : List (List UInt8)) : idxQ ⟨#[98]⟩ ⟨#[97]⟩ (S2 m Q R) = some 1 := by
  unfold S2 idxQ
  rw [if_neg (fun h => absurd (show (⟨#[97]⟩ : ByteArray) = ⟨#[98]⟩ from h.1) (by decide))]
  unfold idxQ
  rw [if_pos ⟨rfl, rfl⟩]
  rfl
theorem sa (m : Nat) (Q R : List (List UInt8)) (l : List UInt8) : sendQ (S2 m Q R) ⟨#[97]⟩ ⟨#[98]⟩ l = if 65536 < l.length then (S2 m Q R, 53) else if Q.length = m then (S2 m Q R, 51) else (S2 m (Q ++ [l]) R, 0) := by
  unfold sendQ; rw [ia]; rfl
theorem sb (m : Nat) (Q R : List (List UInt8)) (l : List UInt8) : ∃ R' er, sendQ (S2 m Q R) ⟨#[98]⟩ ⟨#[97]⟩ l = (S2 m Q R', er) := by
  unfold sendQ; rw [ib]
  show ∃ R' er, (if 65536 < l.length then (S2 m Q R, (53 : Int)) else if R.length = 64 then (S2 m Q R, 51) else (S2 m Q (R ++ [l]), 0)) = (S2 m Q R', er)
  by_cases h1 : 65536 < l.length
  · exact ⟨R, 53, by rw [if_pos h1]⟩
  · by_cases h2 : R.length = 64
    · exact ⟨R, 51, by rw [if_neg h1, if_pos h2]⟩
    · exact ⟨R ++ [l], 0, by rw [if_neg h1, if_neg h2]⟩
theorem ta0 (m : Nat) (R : List (List UInt8)) : takeQ (S2 m [] R) ⟨#[97]⟩ ⟨#[98]⟩ = (S2 m [] R, [], 54) := by
  unfold takeQ; rw [ia]; rfl
theorem ta1 (m : Nat) (q : List UInt8) (r R : List (List UInt8)) : takeQ (S2 m (q :: r) R) ⟨#[97]⟩ ⟨#[98]⟩ = (S2 m r R, q, 0) := by
  unfold takeQ; rw [ia]; rfl
theorem la (m : Nat) (Q R : List (List UInt8)) : lenQ (S2 m Q R) ⟨#[97]⟩ ⟨#[98]⟩ = Q.length := by
  unfold lenQ; rw [ia]; rfl
theorem ra (m : Nat) (Q R : List (List UInt8)) : roomQ (S2 m Q R) ⟨#[97]⟩ ⟨#[98]⟩ = m - Q.length := by
  unfold roomQ; rw [ia]; rfl
theorem oa0 (most : Int) (h : most < 1 ∨ 64 < most) : openQ [] ⟨#[97]⟩ ⟨#[98]⟩ most = ([], 1) := by
  unfold openQ
  rw [if_neg (by decide +kernel), if_pos h]
theorem oa1 (m : Nat) (h : ¬ ((m : Int) < 1 ∨ 64 < (m : Int))) : openQ [] ⟨#[97]⟩ ⟨#[98]⟩ (m : Int) = ([⟨⟨#[97]⟩, ⟨#[98]⟩, m, []⟩], 0) := by
  unfold openQ
  rw [if_neg (by decide +kernel), if_neg h]
  rfl
theorem ob0 : openQ [] ⟨#[98]⟩ ⟨#[97]⟩ 64 = ([⟨⟨#[98]⟩, ⟨#[97]⟩, 64, []⟩], 0) := by
  unfold openQ
  rw [if_neg (by decide +kernel), if_neg (by decide)]
  rfl
theorem ob1 (m : Nat) : openQ [⟨⟨#[97]⟩, ⟨#[98]⟩, m, []⟩] ⟨#[98]⟩ ⟨#[97]⟩ 64 = (S2 m [] [], 0) := by
  have e1 : portsQ [⟨⟨#[97]⟩, ⟨#[98]⟩, m, []⟩] ⟨#[98]⟩ ⟨#[97]⟩ = ([⟨#[97]⟩, ⟨#[98]⟩, ⟨#[98]⟩, ⟨#[97]⟩] : List ByteArray).foldl addB [] := rfl
  have e2 : idxQ ⟨#[98]⟩ ⟨#[97]⟩ [⟨⟨#[97]⟩, ⟨#[98]⟩, m, []⟩] = none := by
    unfold idxQ
    rw [if_neg (fun h => absurd (show (⟨#[97]⟩ : ByteArray) = ⟨#[98]⟩ from h.1) (by decide))]
    rfl
  unfold openQ
  rw [e1, e2, if_neg (by decide +kernel), if_neg (by decide)]
  rfl
theorem rb_nil {w : World} {B : Nat} {l : List UInt8} (h : RB w B none l) : l = [] := by
  rcases h with h | ⟨_, _, h, _⟩
  · exact h
  · cases h
/-- the slices that were sent, as they came in -/
def SentL (w : World) (B : Nat) (xs : List Value) (L : List (List UInt8)) : Prop :=
  xs.length = L.length ∧ ∀ (i : Nat) (v : Value) (l : List UInt8), xs[i]? = some v → L[i]? = some l → ∃ A c, v = .slice A l.length c ∧ RB w B A l
theorem SentL.below {w w' : World} {B : Nat} {xs : List Value} {L : List (List UInt8)} (h : SentL w B xs L) (hb : Below B w w') : SentL w' B xs L :=
  ⟨h.1, fun i v l h1 h2 => by obtain ⟨A, c, e, hr⟩ := h.2 i v l h1 h2; exact ⟨A, c, e, hr.below hb⟩⟩
theorem SentL.snoc {w : World} {B : Nat} {xs : List Value} {L : List (List UInt8)} (h : SentL w B xs L) {A : Option Addr} {c : Nat} {l : List UInt8} (hr : RB w B A l) : SentL w B (xs ++ [.slice A l.length c]) (L ++ [l]) := by
  refine ⟨by simp [h.1], fun i v l' h1 h2 => ?_⟩
  rcases Nat.lt_or_ge i xs.length with hi | hi
  · rw [List.getElem?_append_left hi] at h1
    rw [List.getElem?_append_left (by rw [← h.1]; exact hi)] at h2
    exact h.2 i v l' h1 h2
  · rw [List.getElem?_append_right hi] at h1
    rw [List.getElem?_append_right (by rw [← h.1]; exact hi), ← h.1] at h2
    have h0 : i - xs.length = 0 := by
      have := (List.getElem?_eq_some_iff.1 h1).1
      simpa using this
    rw [h0] at h1 h2
    obtain rfl : _ = v := by simpa using h1
    obtain rfl : l = l' := by simpa using h2
    exact ⟨A, c, rfl, hr⟩
/-- all that is carried from round to round -/
def OrdS (w : World) (pb m : Nat) (wr : World) (v : Value) (a n : Nat) : Prop :=
  ∃ (mk : Nat → Nat × Nat) (Q R SL : List (List UInt8)) (xs : List Value) (g : Option Nat), PSt wr mk pb (S2 m Q R) ∧ Below w.heap.size w wr ∧ (∀ k, k < w.heap.size → mk k = (0, 0)) ∧ OwnX 1 wr g v xs ∧ (∀ k, g = some k → w.heap.size ≤ k ∧ mk k = (0, 0)) ∧
    SentL w w.heap.size xs SL ∧ SL.drop a = Q ∧ a ≤ SL.length ∧ n = SL.length
/-- a step of the pipes' -/
theorem ord_turn {w wr w' : World} {mk mk' : Nat → Nat × Nat} {v : Value} {xs : List Value} {g : Option Nat} (hB : Below w.heap.size w wr) (hz : ∀ k, k < w.heap.size → mk k = (0, 0)) (hX : OwnX 1 wr g v xs) (hg : ∀ k, g = some k → w.heap.size ≤ k ∧ mk k = (0, 0)) (ht : Turn isP wr w' mk mk') :
    Below w.heap.size w w' ∧ (∀ k, k < w.heap.size → mk' k = (0, 0)) ∧ OwnX 1 w' g v xs ∧ (∀ k, g = some k → w.heap.size ≤ k ∧ mk' k = (0, 0)) := by
  have hb := ht.below hB.size hz isP0
  refine ⟨hB.trans hb, ht.zero hB.size hz isP0, hX.same ht.size fun k hk => ht.block k (hX.lt hk) (by rw [(hg k hk).2]; exact isP0), fun k hk => ⟨(hg k hk).1, by rw [ht.mark k (hX.lt hk) (by rw [(hg k hk).2]; exact isP0)]; exact (hg k hk).2⟩⟩
end Go.Proofs.YtihhadgkcdkemaaDoor
