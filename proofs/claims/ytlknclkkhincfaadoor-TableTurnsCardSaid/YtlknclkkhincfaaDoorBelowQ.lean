/-
  A region that draws its order and holds calls which only lay new blocks: one walk of the lexical order serves every order; over any program. No condition.
-/
import Derived.Test.YtlknclkkhincfaaDoorLib
import Derived.Deep.QuietTactic
import Derived.BigQuiet
namespace Go.Proofs.YtlknclkkhincfaaDoor
open Go.RowKit
set_option linter.unusedVariables false
/-- the worlds in which all old blocks stand -/
structure Over (B : Nat) (w : World) : Type where
  v : World
  ok : Below B w v
instance {B : Nat} {w : World} : Nonempty (Over B w) := ⟨⟨w, Below.refl _ _⟩⟩
theorem wp_region_below {P : Program} {id : Nat} {Q : Exit → Act → World → Prop} {a : Act} {w : World} {l : List Oper} (B : Nat) (hm : P.follows .mixedOrders = true) (hB : Region.lexB .any l.toArray = true)
    (h : wpQuiet P l.toArray (fun w' => ∃ n : Over B w, w' = n.v) (fun a' => ∀ w', (∃ n : Over B w, w' = n.v) → Q .normal a' w') l a) : (Code.region id l.toArray true).wp P Q a w :=
  wp_region_quiet (C := fun w' => ∃ n : Over B w, w' = n.v) hm hB ⟨⟨{ w with drawn := w.drawn + 1 }, ⟨rfl, rfl, rfl, Nat.le_refl _, fun _ _ => rfl⟩⟩, rfl⟩ (by simpa using h)
/-- a callee that only lays new blocks, met in such a world -/
theorem calls_over {P : Program} {f : FuncId} {args : Array Value} {w : World} {B : Nat} {v : Value} (n : Over B w)
    (h : Calls P f args n.v fun e w' => Below n.v.heap.size n.v w' ∧ e = .returned v) (hB : B ≤ w.heap.size) : Calls P f args n.v fun e w'' => e = .returned v ∧ ∃ m : Over B w, w'' = m.v :=
  h.mono fun _ w' ⟨hb, he⟩ => ⟨he, ⟨w', n.ok.trans (hb.mono (Nat.le_trans hB n.ok.size))⟩, rfl⟩
end Go.Proofs.YtlknclkkhincfaaDoor
