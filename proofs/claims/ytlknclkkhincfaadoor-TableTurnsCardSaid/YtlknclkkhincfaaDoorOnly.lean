/-
  A world in which one block alone has changed, and new ones have come; over any program. No condition.
-/
import Derived.Test.YtlknclkkhincfaaDoorApp
import Derived.Test.YtlknclkkhincfaaDoorBlk
namespace Go.Proofs.YtlknclkkhincfaaDoor
open Go.RowKit
set_option linter.unusedVariables false
/-- only block g may have changed -/
abbrev Only (g : Nat) (w w' : World) : Prop := w.grownBy w' (some g)
section
variable {g : Nat} {w w' w2 : World}
theorem Only.refl (w : World) : Only g w w := World.grownBy.refl w _
theorem Only.trans (h : Only g w w') (k : Only g w' w2) : Only g w w2 :=
  ⟨k.os.trans h.os, k.tape.trans h.tape, k.output.trans h.output, Nat.le_trans h.size k.size, fun i hi hne => (k.block i (Nat.lt_of_lt_of_le hi h.size) hne).trans (h.block i hi hne)⟩
theorem Only.set_ (h : Only g w w') (i : Nat) (v : Value) : Only g w (w'.setCell ⟨g, i, none⟩ v) :=
  ⟨h.os, h.tape, h.output, by simpa using h.size, fun k hk hne => (Below.heap_setCell w' ⟨g, i, none⟩ v k (fun e => hne (congrArg some e))).trans (h.block k hk hne)⟩
theorem Only.drew (h : Only g w w') (n : Nat) : Only g w (w'.drewN n) := ⟨h.os, h.tape, h.output, h.size, h.block⟩
theorem Only.below (h : Only g w w') : Below g w w' ∨ w.heap.size < g := by
  rcases Nat.lt_or_ge w.heap.size g with h1 | h1
  · exact .inr h1
  · exact .inl ⟨h.os, h.tape, h.output, h.size, fun k hk => h.block k (by omega) (fun e => by injection e; omega)⟩
theorem Only.of_below (h : Below w.heap.size w w') : Only g w w' := grownBy_of_below h _
theorem Only.to_below (h : Only g w w') (hg : g < w.heap.size) {B : Nat} (hB : B ≤ g) : Below B w w' :=
  ⟨h.os, h.tape, h.output, h.size, fun k hk => h.block k (by omega) (fun e => by injection e; omega)⟩
theorem Only.alloc (h : Only g w w') (hg : w.heap.size ≤ w'.heap.size) (o : Obj) : Only g w (w'.alloc o) :=
  ⟨h.os, h.tape, h.output, by simp; omega, fun k hk hne => (Below.heap_alloc w' o k (by omega)).trans (h.block k hk hne)⟩
theorem RB.only {B : Nat} {A : Option Addr} {l : List UInt8} (h : RB w B A l) (ho : Only g w w') (hB : B ≤ g) (hw : g < w.heap.size) : RB w' B A l :=
  h.below (ho.to_below hw hB)
theorem Blk.only {k : Nat} {t : TypeId} {cs : Array Value} (h : Blk w k t cs) (ho : Only g w w') (hk : k ≠ g) : Blk w' k t cs := (ho.block k h.lt (fun e => hk (by injection e))).trans h
theorem OwnB.only {base E : Nat} {v : Value} {l : List UInt8} (h : OwnB w base E v l) (ho : Only g w w') (hne : v.ownBlock ≠ some g) : OwnB w' base E v l := h.kept ho (.inr hne)
end
end Go.Proofs.YtlknclkkhincfaaDoor
