/-
  Two readers beside one another; slices cut anywhere; a row of numbers that came in. Conditions: the sizes.
-/
import Derived.Test.YtkemmgfmmfcdlaaDoorLawBack
import Derived.Test.YtkemmgfmmfcdlaaDoorOpenI
namespace Go.Proofs.YtkemmgfmmfcdlaaDoor
open Go.RowKit
set_option linter.unusedVariables false
/-- two readers that share nothing -/
def TwoR (w : World) (T1 T2 : TypeId) (base p1 p2 : Nat) (o1 o2 : Option Nat) (m : Nat) (l1 l2 : List UInt8) : Prop :=
  Rd w T1 base p1 o1 m l1 ∧ Rd w T2 base p2 o2 m l2 ∧ p1 ≠ p2 ∧ o1 ≠ some p2 ∧ o2 ≠ some p1 ∧ (o1 = none ∨ o1 ≠ o2)
section
variable {w w' : World} {T1 T2 : TypeId} {base p1 p2 m : Nat} {o1 o2 o1' o2' : Option Nat} {l1 l2 l1' l2' : List UInt8}
theorem TwoR.swap (h : TwoR w T1 T2 base p1 p2 o1 o2 m l1 l2) : TwoR w T2 T1 base p2 p1 o2 o1 m l2 l1 := by
  obtain ⟨h1, h2, h3, h4, h5, h6⟩ := h
  refine ⟨h2, h1, h3.symm, h5, h4, ?_⟩
  rcases h6 with rfl | h6
  · cases o2 with
    | none => exact .inl rfl
    | some g => exact .inr (by simp)
  · exact .inr h6.symm
theorem TwoR.below (h : TwoR w T1 T2 base p1 p2 o1 o2 m l1 l2) (hb : Below w.heap.size w w') : TwoR w' T1 T2 base p1 p2 o1 o2 m l1 l2 :=
  ⟨h.1.below hb, h.2.1.below hb, h.2.2⟩
/-- the first reader has been fed -/
theorem TwoR.fed (h : TwoR w T1 T2 base p1 p2 o1 o2 m l1 l2) (hr : Rd w' T1 base p1 o1' m l1') (hc : Chg p1 o1 w w') (ho : o1' = o1 ∨ o1' = some w.heap.size) : TwoR w' T1 T2 base p1 p2 o1' o2 m l1' l2 := by
  obtain ⟨h1, h2, h3, h4, h5, h6⟩ := h
  have hs := (TwoR.swap ⟨h1, h2, h3, h4, h5, h6⟩).2.2.2.2.2
  refine ⟨hr, h2.chg hc h3.symm h4 h5 hs, h3, ?_, h5, ?_⟩
  · rcases ho with rfl | rfl
    · exact h4
    · intro e; injection e with e; have := h2.lt.2.1; omega
  · rcases ho with rfl | rfl
    · exact h6
    · exact .inr fun e => by have := (h2.lt.2.2 _ e.symm).2; omega
/-- the first reader has been asked -/
theorem TwoR.asked (h : TwoR w T1 T2 base p1 p2 o1 o2 m l1 l2) (hr : Rd w' T1 base p1 o1' m l1') (hc : Chg p1 none w w') (ho : o1' = o1 ∨ o1' = none ∨ ∃ g, o1' = some g ∧ w.heap.size ≤ g) : TwoR w' T1 T2 base p1 p2 o1' o2 m l1' l2 := by
  obtain ⟨h1, h2, h3, h4, h5, h6⟩ := h
  refine ⟨hr, h2.chg hc h3.symm (by simp) h5 (by cases o2; exact .inl rfl; exact .inr (by simp)), h3, ?_, h5, ?_⟩
  · rcases ho with rfl | rfl | ⟨g, rfl, hg⟩
    · exact h4
    · simp
    · intro e; injection e with e; have := h2.lt.2.1; omega
  · rcases ho with rfl | rfl | ⟨g, rfl, hg⟩
    · exact h6
    · exact .inl rfl
    · exact .inr fun e => by have := (h2.lt.2.2 _ e.symm).2; omega
theorem TwoR.chgB (h : TwoR w T1 T2 base p1 p2 o1 o2 m l1 l2) (hb : base ≤ w.heap.size) (hc : Chg p1 o1 w w') : Below base w w' := hc.below h.1.1 (fun g hg => (h.1.lt.2.2 g hg).1) hb
theorem TwoR.chgN (h : TwoR w T1 T2 base p1 p2 o1 o2 m l1 l2) (hb : base ≤ w.heap.size) (hc : Chg p1 none w w') : Below base w w' := hc.below h.1.1 (fun g hg => by cases hg) hb
end
theorem rfeed_at (w : World) (base p : Nat) (own : Option Nat) (most : Nat) (l : List UInt8) (A : Option Addr) (k : List UInt8) (n c : Nat) (hn : n = k.length) (hR : Rd w 50 base p own most l) (hk : RB w w.heap.size A k) (hb : base ≤ w.heap.size) (hs : l.length + k.length ≤ 140737488355328) :
    Calls Tryd.prog 11 #[.pointer (some ⟨p, 0, none⟩), .slice A n c] w (FeedPost 50 w base p own most (l ++ k)) := by
  subst hn
  exact rfeed_walk w base p own most l A k c hR hk hb hs
/-- where a slice begins behind some elements -/
def subA (A : Option Addr) (c j : Nat) : Option Addr := if c = j then A else A.map fun a => a.add j
theorem RB.subA {w : World} {B : Nat} {A : Option Addr} {l : List UInt8} (h : RB w B A l) (c j : Nat) (hc : l.length ≤ c) : RB w B (subA A c j) (l.drop j) := by
  unfold Go.Proofs.YtkemmgfmmfcdlaaDoor.subA
  by_cases hcj : c = j
  · exact .inl (List.drop_eq_nil_of_le (by omega))
  · rw [if_neg hcj]
    rcases h with rfl | ⟨b, off, rfl, hb, hcl⟩
    · exact .inl (by simp)
    · have := (show RB w B (some ⟨b, off, none⟩) l from .inr ⟨b, off, rfl, hb, hcl⟩).drop j
      simpa [Addr.add_lit] using this
theorem slice_sub (A : Option Addr) (n c j k : Nat) (h1 : j ≤ k) (h2 : k ≤ c) (W : World) : (Instr.slice 32 (.slice A n c) (some (.int .i64 (j : Int))) (some (.int .i64 (k : Int))) none).run Tryd.prog W = .ok (.slice (subA A c j) (k - j) (c - j)) W := by
  have ht' : Tryd.prog.underlying 32 = some (.slice (Tryd.prog.elem 32)) := by simp [Program.elem, Tryd.underlying32]
  have he : Tryd.prog.elem 32 = 5 := by simp [Program.elem, Tryd.underlying32]
  rw [run_slice_lh W 32 _ _ _ ht' .i64 .i64 _ _ (by omega) (by omega) (by omega), he, Tryd.sizeOf5]
  simp only [Result.andThen, sliced, Int.toNat_natCast, Nat.mul_one]
  rfl
theorem slice_tail (A : Option Addr) (n c j : Nat) (h1 : j ≤ n) (W : World) : (Instr.slice 32 (.slice A n c) (some (.int .i64 (j : Int))) none none).run Tryd.prog W = .ok (.slice (subA A c j) (n - j) (c - j)) W := by
  have ht' : Tryd.prog.underlying 32 = some (.slice (Tryd.prog.elem 32)) := by simp [Program.elem, Tryd.underlying32]
  have he : Tryd.prog.elem 32 = 5 := by simp [Program.elem, Tryd.underlying32]
  rw [run_slice_l W 32 _ _ _ ht' .i64 _ (by omega) (by omega), he, Tryd.sizeOf5]
  simp only [Result.andThen, sliced, Int.toNat_natCast, Nat.mul_one]
  rfl
/-- cutting a stream further -/
theorem cut_more {R S b : List UInt8} {at_ cn : Nat} (h : R = S ++ b.drop at_) (h1 : at_ ≤ cn) : R = (S ++ (b.drop at_).take (cn - at_)) ++ b.drop cn := by
  rw [h, List.append_assoc]
  congr 1
  have := List.take_append_drop (cn - at_) (b.drop at_)
  rw [List.drop_drop, show at_ + (cn - at_) = cn by omega] at this
  exact this.symm
end Go.Proofs.YtkemmgfmmfcdlaaDoor
