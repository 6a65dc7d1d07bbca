/-
  A call of a Go function at a step of a region that draws its order, by its contract; over any program. No condition.
-/
import Derived.Test.YtlknclkkhincfaaDoorLib
namespace Go.Proofs.YtlknclkkhincfaaDoor
open Go.RowKit
set_option linter.unusedVariables false
theorem step_calls {P : Program} {ops : Array Oper} {o : Oper} {a : Act} {w : World} {K : Act → World → Prop} {Q : Exit → Act → World → Prop} {E' : Prop} (hgd : o.guard = none) {f : FuncId} (xs : Array Operand) (ats : Array TypeId)
    (ho : o.op = .call { callee := .value (.func f), args := xs, argTypes := ats }) {fn : Func} (hf : P.funcs[f]? = some fn) (hb : fn.body.isNone = false) (hn : (fn.name == "runtime.NumGoroutine") = false)
    (vs : Array Value) (hv : xs.map a.eval = vs) {R : Ending → World → Prop} (hc : Calls P f vs w R) (hr : ∀ e w', R e w' → ∃ v, e = .returned v ∧ K (a.put o.dst v) w') :
    if Region.wanted o (yielded ops a.tmps) = true then Oper.wp P o a w K Q else E' := by
  have hw : Region.wanted o (yielded ops a.tmps) = true := by simp [Region.wanted, hgd]
  rw [if_pos hw]
  have hrun : (execOp a.eval o).run P w = .ok (.enter f vs) w := by
    obtain ⟨dst, op, ty, pos, after, guard⟩ := o
    simp only at ho
    subst ho
    rw [execOp_call_go]
    rw [hv]
    have hb2 : fn.body ≠ none := fun e => by rw [e] at hb; cases hb
    have hn2 : fn.name ≠ "runtime.NumGoroutine" := by simpa using hn
    simp [callFunc, go_sem, hf, hb2, hn2]
  unfold Oper.wp
  rw [hrun]
  simp only [Oper.upon]
  exact hc.mono fun e w' h => by
    obtain ⟨v, rfl, hk⟩ := hr e w' h
    exact hk
end Go.Proofs.YtlknclkkhincfaaDoor
