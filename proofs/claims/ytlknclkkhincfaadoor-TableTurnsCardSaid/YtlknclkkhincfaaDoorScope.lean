/-
  A scope with gotos forward to one label: what follows the label is walked at each goto; over any program. No condition.
-/
import Derived.Test.YtlknclkkhincfaaDoorLib
import Derived.ScopeJumps
import Derived.WalkMore
namespace Go.Proofs.YtlknclkkhincfaaDoor
open Go.RowKit
theorem wp_scope_inline {P : Program} {a : Act} {w : World} {Q : Exit → Act → World → Prop} {c rest : Code} (l : Nat) (hf : findLabel c l = some rest)
    (first : c.wp P (Exit.jump l (fun a w => rest.wp P (Exit.jump l (fun _ _ => False) Q) a w) Q) a w) : (Code.scope c).wp P Q a w :=
  wp_scope_jumps l _ (fun _ _ => 0) hf first fun a w h => Code.wp_mono (fun e a w h => by
    cases e with
    | goto l' => exact h.2.elim
    | _ => exact h) h
theorem jump_ret {l : Nat} {J : Act → World → Prop} {Q : Exit → Act → World → Prop} {a : Act} {w : World} (h : Q .ret a w) : Exit.jump l J Q .ret a w := h
end Go.Proofs.YtlknclkkhincfaaDoor
