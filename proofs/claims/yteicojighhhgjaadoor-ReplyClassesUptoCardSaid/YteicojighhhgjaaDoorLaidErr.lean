/-
  A listed variable that holds an error: its cell holds some interface value; over any program. No condition.
-/
import Derived.LaidLaws
import Derived.LaidSub
import Derived.Lib.LaidTab
namespace Go.Proofs.YteicojighhhgjaaDoor
set_option linter.unusedVariables false
theorem iface_of_head {P : Program} {W : World} {name nm : String} {d : DataW Unit} {rest : List (String × DataW Unit)} {g : Nat} {t : TypeId} {ms : Array (String × TypeId)}
    (hg : P.globalNamed name = some g) (hty : (P.globals[g]?).map (·.type) = some t) (ht : P.underlying t = some (.interface ms))
    (h : laidMet P ((name, .iface nm d) :: rest) W) : ∃ u p, W.cell? ⟨g, 0, none⟩ = some (.iface u p) := by
  obtain ⟨ps, ⟨g', t', cs, fuel, p, q, hg', ht', hvar, hd, _, _⟩, _⟩ := h
  obtain rfl := Option.some.inj (hg.symm.trans hg')
  obtain rfl := Option.some.inj (hty.symm.trans ht')
  obtain ⟨_, u, v, hcs, _, _⟩ := iface_of_trod ht hd
  refine ⟨u, v, ?_⟩
  have hcs' : cs = #[.iface u v] := by cases cs; simp_all
  have hv : W.var? P name = some (#[Value.iface u v].toList.toArray) := by rw [hvar, hcs']
  have := World.var?_cell hg hvar 0
  rw [this, hcs']
  rfl
end Go.Proofs.YteicojighhhgjaaDoor
