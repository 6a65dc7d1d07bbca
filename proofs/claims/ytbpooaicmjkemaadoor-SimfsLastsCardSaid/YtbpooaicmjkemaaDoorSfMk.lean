/-
  Rows of bools that are made; what a directory's sync brings, change by change. No condition.
-/
import Derived.Test.YtbpooaicmjkemaaDoorSfLast
import Derived.Laws.MakeOwn
namespace Go.Proofs.YtbpooaicmjkemaaDoor
open Go.RowKit Go.Maps
set_option linter.unusedVariables false
def boA (L : List Bool) : Array Value := (L.map Value.bool).toArray
def BoB (w : World) (g : Nat) (L : List Bool) : Prop := Blk w g 4 (boA L)
theorem BoB.cell {w : World} {g : Nat} {L : List Bool} (h : BoB w g L) {j : Nat} {x : Bool} (hx : L[j]? = some x) : w.cell? ⟨g, j, none⟩ = some (.bool x) := by
  have := Blk.cell h j
  rw [this]
  unfold boA
  simp [hx]
theorem BoB.free {w : World} {g : Nat} {L : List Bool} (h : BoB w g L) (j : Nat) : w.frozen? ⟨g, j, none⟩ = false := Blk.frozen h j
theorem BoB.set_ {w : World} {g : Nat} {L : List Bool} (h : BoB w g L) (j : Nat) (x : Bool) : BoB (w.setCell ⟨g, j, none⟩ (.bool x)) g (L.set j x) := by
  have := Blk.set_ h j (.bool x)
  have e : (boA L).setIfInBounds j (.bool x) = boA (L.set j x) := by
    unfold boA
    rw [List.setIfInBounds_toArray, List.map_set]
  unfold BoB
  rw [← e]
  exact this
theorem BoB.row {w : World} {g : Nat} {L : List Bool} (h : BoB w g L) : RBo w (some ⟨g, 0, none⟩) L := .inr ⟨g, 0, rfl, fun i x hx => by rw [Nat.zero_add]; exact h.cell hx⟩
theorem made_bo (n : Nat) : madeCells #[.bool false] n = boA (List.replicate n false) := by
  unfold madeCells boA
  apply Array.ext
  · simp
  · intro i h1 h2
    simp [Nat.mod_one]
theorem mk_bo (w : World) (n : Nat) (hn : n ≤ 1000000) : (Instr.makeSlice 23 (.int .i64 (n : Int)) (.int .i64 (n : Int))).run Tryd.prog w = .ok (.slice (some ⟨w.heap.size, 0, none⟩) n n) (w.alloc (.cells (boA (List.replicate n false)) 4)) := by
  obtain ⟨i, h1, h2, h3, h4⟩ := info_parts (show (Tryd.prog.info? 4).map (fun i => (i.zero, i.size, i.bytes)) = some (some (.bool false), 1, 1) by kernel_rfl)
  have := run_make (P := Tryd.prog) w 23 4 i _ Tryd.underlying23 h1 h2 .i64 .i64 (n : Int) (n : Int) (by omega) (by omega) (by rw [h4]; omega) (by omega)
  rw [this, h3, Int.toNat_natCast, Nat.mul_one]
  show Result.ok _ (w.alloc (.cells (madeCells #[.bool false] n) _)) = _
  rw [made_bo]
/-! ### what a sync brings -/
def bvM (c : Ch) (dir : Tx) (r : List Ch) (k : Nat) : Bool := withinC c dir || ((r.zip (broughtM dir r)).take k).any fun x => x.2 && shareC c x.1
theorem bvM_zero (c : Ch) (dir : Tx) (r : List Ch) : bvM c dir r 0 = withinC c dir := by unfold bvM; simp
theorem bvM_succ {c : Ch} {dir : Tx} {r : List Ch} {k : Nat} {x : Ch} {b : Bool} (hx : r[k]? = some x) (hb : (broughtM dir r)[k]? = some b) : bvM c dir r (k + 1) = (bvM c dir r k || (b && shareC c x)) := by
  have hz : (r.zip (broughtM dir r))[k]? = some (x, b) := by rw [List.getElem?_zip_eq_some]; exact ⟨hx, hb⟩
  obtain ⟨h1, h2⟩ := List.getElem?_eq_some_iff.1 hz
  unfold bvM
  rw [List.take_succ_eq_append_getElem h1, h2, List.any_append]
  simp [Bool.or_assoc]
theorem bvM_full {c : Ch} {dir : Tx} {r : List Ch} {k : Nat} (hk : r.length ≤ k) : broughtM dir (c :: r) = bvM c dir r k :: broughtM dir r := by
  unfold bvM
  rw [List.take_of_length_le (by rw [List.length_zip]; omega)]
  rfl
end Go.Proofs.YtbpooaicmjkemaaDoor
