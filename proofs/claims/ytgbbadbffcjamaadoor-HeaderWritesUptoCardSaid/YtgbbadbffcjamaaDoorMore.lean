/-
  More words: the beginning of a slice; over any program. No condition.
-/
import Derived.Test.YtgbbadbffcjamaaDoorLib
namespace Go.Proofs.YtgbbadbffcjamaaDoor
set_option linter.unusedVariables false
theorem RB.take {w : World} {B : Nat} {A : Option Addr} {l : List UInt8} (h : RB w B A l) (k : Nat) : RB w B A (l.take k) := by
  rcases h with rfl | ⟨b, off, rfl, hb, hc⟩
  · exact .inl (by simp)
  · refine .inr ⟨b, off, rfl, hb, fun i hi => ?_⟩
    rw [List.length_take] at hi
    rw [hc i (by omega)]
    unfold bt
    rw [List.getD_eq_getElem?_getD, List.getD_eq_getElem?_getD, List.getElem?_take_of_lt (by omega)]
theorem RB.some_ {w : World} {B : Nat} {A : Option Addr} {l : List UInt8} (h : RB w B A l) (hl : 0 < l.length) : ∃ b off, A = some ⟨b, off, none⟩ := by
  obtain ⟨b, off, e, _⟩ := h.at_ hl
  exact ⟨b, off, e⟩
theorem arr_ne {a b : List UInt8} (h : ¬ a = b) : ¬ (⟨a.toArray⟩ : ByteArray) = ⟨b.toArray⟩ := by
  intro e
  apply h
  have := congrArg (fun x : ByteArray => x.data.toList) e
  simpa using this
/-- a return of four results -/
theorem results_t4 {fn : Func} {t u v x : Tmp} (h : fn.results = #[.tmp t, .tmp u, .tmp v, .tmp x]) (tmps : Array Value) (P : Program) (w : World) :
    (results fn tmps).run P w = .ok (.tuple #[tmps.getD t undef, tmps.getD u undef, tmps.getD v undef, tmps.getD x undef]) w := by
  simp [results, h]
end Go.Proofs.YtgbbadbffcjamaaDoor
