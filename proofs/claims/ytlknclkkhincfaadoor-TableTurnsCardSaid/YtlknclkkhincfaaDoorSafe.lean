/-
  Some blocks stay as they are; over any program. No condition.
-/
import Derived.Test.YtlknclkkhincfaaDoorTurn
namespace Go.Proofs.YtlknclkkhincfaaDoor
open Go.RowKit
set_option linter.unusedVariables false
structure Safe (S : Nat → Prop) (w w' : World) : Prop where
  os : w'.os = w.os
  tape : w'.tape = w.tape
  output : w'.output = w.output
  size : w.heap.size ≤ w'.heap.size
  block : ∀ k, S k → w'.heap[k]? = w.heap[k]?
section
variable {S : Nat → Prop} {w w' w'' : World}
theorem Safe.refl (S : Nat → Prop) (w : World) : Safe S w w := ⟨rfl, rfl, rfl, Nat.le_refl _, fun _ _ => rfl⟩
theorem Safe.trans (h : Safe S w w') (h' : Safe S w' w'') : Safe S w w'' :=
  ⟨h'.os.trans h.os, h'.tape.trans h.tape, h'.output.trans h.output, Nat.le_trans h.size h'.size, fun k hk => (h'.block k hk).trans (h.block k hk)⟩
theorem Safe.of_below (h : Below w.heap.size w w') (hS : ∀ k, S k → k < w.heap.size) : Safe S w w' := ⟨h.os, h.tape, h.output, h.size, fun k hk => h.block k (hS k hk)⟩
theorem Safe.below (h : Safe S w w') (hb : Below w'.heap.size w' w'') (hS : ∀ k, S k → k < w'.heap.size) : Safe S w w'' := h.trans (Safe.of_below hb hS)
theorem Safe.set_ (h : Safe S w w') {p : Addr} (hp : ¬ S p.block) (v : Value) : Safe S w (w'.setCell p v) :=
  ⟨h.os, h.tape, h.output, by simpa using h.size, fun k hk => (Below.heap_setCell w' p v k (fun e => hp (by rw [← e]; exact hk))).trans (h.block k hk)⟩
theorem Safe.grown {g : Option Nat} (h : Safe S w w') (hg : w'.grownBy w'' g) (hS : ∀ k, S k → k < w'.heap.size ∧ g ≠ some k) : Safe S w w'' :=
  ⟨hg.os.trans h.os, hg.tape.trans h.tape, hg.output.trans h.output, Nat.le_trans h.size hg.size, fun k hk => (hg.block k (hS k hk).1 (fun e => (hS k hk).2 e.symm)).trans (h.block k hk)⟩
theorem Safe.drewN (h : Safe S w w') (n : Nat) : Safe S w (w'.drewN n) := ⟨h.os, h.tape, h.output, h.size, h.block⟩
theorem Safe.to_below (h : Safe S w w') {B : Nat} (hB : ∀ k, k < B → S k) : Below B w w' := ⟨h.os, h.tape, h.output, h.size, fun k hk => h.block k (hB k hk)⟩
theorem Safe.mono {S' : Nat → Prop} (h : Safe S w w') (hS : ∀ k, S' k → S k) : Safe S' w w' := ⟨h.os, h.tape, h.output, h.size, fun k hk => h.block k (hS k hk)⟩
theorem Blk.safe {g : Nat} {t : TypeId} {cs : Array Value} (h : Blk w g t cs) (hs : Safe S w w') (hg : S g) : Blk w' g t cs := (hs.block g hg).trans h
theorem OwnX.safe {sz : Nat} {o : Option Nat} {v : Value} {xs : List Value} (h : OwnX sz w o v xs) (hs : Safe S w w') (hg : ∀ k, o = some k → S k) : OwnX sz w' o v xs := h.same hs.size fun k hk => hs.block k (hg k hk)
end
end Go.Proofs.YtlknclkkhincfaaDoor
