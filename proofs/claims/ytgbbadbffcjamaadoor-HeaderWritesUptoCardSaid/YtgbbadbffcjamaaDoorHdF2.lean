/-
  The walks of SameFields and of both Find. Conditions: the sizes.
-/
import Derived.Test.YtgbbadbffcjamaaDoorHdH
import Derived.BigQuiet
import Derived.Deep.QuietTactic
namespace Go.Proofs.YtgbbadbffcjamaaDoor
open Go.RowKit
set_option linter.unusedVariables false
def emptyF : Fd := ⟨[], [], 0, 0⟩
/-- the first field of a name -/
def find11 (t : ByteArray) : List Fd → Option Fd
  | [] => none
  | g :: r => if sameB ⟨g.nm.toArray⟩ t = true then some g else find11 t r
def fdv (g : Fd) : Value := .agg #[.string ⟨g.nm.toArray⟩, .string ⟨g.bd.toArray⟩, .int .i64 (g.fr : Int), .int .i64 (g.tt : Int)]
def FindPost (w : World) (t : ByteArray) (L : List Fd) (e : Ending) (w' : World) : Prop :=
  Below w.heap.size w w' ∧ ((∃ g, find11 t L = some g ∧ e = .returned (.tuple #[fdv g, .bool true])) ∨ (find11 t L = none ∧ e = .returned (.tuple #[fdv emptyF, .bool false])))
set_option maxHeartbeats 1000000 in
theorem samef_walk (w : World) (A1 A2 : Option Addr) (L : List Fd) (n c1 c2 : Nat) (hn : n = L.length) (h1 : RF w w.heap.size A1 L) (h2 : RF w w.heap.size A2 L) (hl : n ≤ 2000000) :
    Calls Tryd.prog 10 #[.slice A1 n c1, .slice A2 n c2] w fun e w' => Below w.heap.size w w' ∧ e = .returned (.bool true) := by
  have H1 := Lib.hid h1
  have H2 := Lib.hid h2
  have HN := Lib.hid hn
  clear h1 h2 hn
  have hz : ((n : Int) != (n : Int)) = false := by simp
  go_enter Tryd.func10, Tryd.ntmps10
  go_wp2_with fail
  go_loopg [5] n (fun k s5 wr => ∃ j : Nat, j + k = n ∧ s5 = .int .i64 (j : Int) ∧ Hid (Below w.heap.size w wr))
  case atStart => exact ⟨0, by omega, rfl, Lib.hid (Below.refl _ _)⟩
  case round =>
    obtain ⟨j, hj, rfl, HW⟩ := hrel
    by_cases hlt : j < n
    · have hj1 : (j : Int) < (n : Int) := by omega
      obtain ⟨g, hg⟩ : ∃ g, L[j]? = some g := ⟨_, List.getElem?_eq_getElem (by rw [← HN.out]; exact hlt)⟩
      obtain ⟨b1, f1, rfl, -, r1⟩ := (H1.out.below HW.out).at_ hg
      obtain ⟨b2, f2, rfl, -, r2⟩ := (H2.out.below HW.out).at_ hg
      obtain ⟨a0, a1, a2, a3⟩ := rangeAt_cells (w := wr) (b := b1) (o := f1 + j * 4) (g := g) r1
      obtain ⟨d0, d1, d2, d3⟩ := rangeAt_cells (w := wr) (b := b2) (o := f2 + j * 4) (g := g) r2
      unfold sv at a0 a1 d0 d1
      clear hg r1 r2
      generalize (⟨g.nm.toArray⟩ : ByteArray) = sN at *
      generalize (⟨g.bd.toArray⟩ : ByteArray) = sB at *
      go_wp2_with fail
      go_quiet (fail)
      go_wp2
      go_roundg (gk - 1)
      case rel => exact ⟨j + 1, by omega, by go_num, Lib.hid (bdrewN HW.out _)⟩
      case measure => omega
    · have hj1 : ¬ (j : Int) < (n : Int) := by omega
      go_wp2
      go_ret
      exact ⟨HW.out, rfl⟩
end Go.Proofs.YtgbbadbffcjamaaDoor
