/-
  What the listed variables give of the library's tables; how much a bounded reading holds. No condition.
-/
import Derived.Test.YtkemmgfmmfcdlaaDoorIdxA
import Derived.Test.YtkemmgfmmfcdlaaDoorRows
import Derived.Lib.LaidU8T
import Derived.PinnedBridge
import Derived.LaidSub
import Derived.Shelf.Vars
namespace Go.Proofs.YtkemmgfmmfcdlaaDoor
open Go.RowKit
set_option linter.unusedVariables false
def u8ren : Go.Shelf.Ren := ⟨fun n => n, fun | 5 => 5 | 119 => 85 | 138 => 87 | 139 => 88 | n => n, fun | 3 => 1 | 4 => 2 | n => n⟩
theorem u8types : U8Types Tryd.prog u8ren := { t5 := Tryd.underlying5, t119 := Tryd.underlying85, t138 := Tryd.underlying87, t139 := Tryd.underlying88 }
theorem u8extra : U8Extra Tryd.prog u8ren := { n3 := by kernel_rfl, n4 := by kernel_rfl, y3 := by kernel_rfl, y4 := by kernel_rfl, c5 := by kernel_rfl, c119 := by kernel_rfl, c138 := by kernel_rfl }
theorem tabsL_of {W : World} {laid : List (String × DataW Unit)} (h : laidMet Tryd.prog laid W) (hsh : W.ShapedOpen Tryd.prog)
    (e3 : laid.filter (fun x => x.1 == "unicode/utf8.first") = [("unicode/utf8.first", Lib.firstData)])
    (e4 : laid.filter (fun x => x.1 == "unicode/utf8.acceptRanges") = [("unicode/utf8.acceptRanges", Lib.acceptData)]) : TabsL W.heap.size W := by
  have h3 := h.filter (fun x => x.1 == "unicode/utf8.first")
  have h4 := h.filter (fun x => x.1 == "unicode/utf8.acceptRanges")
  rw [e3] at h3
  rw [e4] at h4
  have t3 : Lib.Utf8Tabs 1 2 W := utf8Tabs_of_readsT u8types u8extra (Lib.laidMet.reads h3 (List.mem_singleton.2 rfl)) (Lib.laidMet.reads h4 (List.mem_singleton.2 rfl))
  obtain ⟨m, hm⟩ := cell_of_shapedOpen_int hsh (g := 0) (t := 3) (zero := #[.int .i64 0]) (by decide) (by kernel_rfl) rfl (by kernel_rfl) (by kernel_rfl) Tryd.underlying3
  exact fun w' hb => ⟨Utf8Tabs_below t3 hb, m, (hb.cell (World.block_lt_of_cell? _ _ hm)).trans hm⟩
def TabsLW (w : World) : Prop := TabsL w.heap.size w
/-! ### how much a reading holds -/
theorem bulk_pos {H : Type} (d : DataW H) : 1 ≤ Rows.uptoBulk d := by
  cases d with
  | lit x => cases x <;> simp [Rows.uptoBulk]
  | _ => simp [Rows.uptoBulk]
theorem bulk_len {H : Type} : ∀ L : List (DataW H), L.length ≤ Rows.uptoBulkAll L
  | [] => by simp
  | d :: r => by
    have h1 := bulk_pos d
    have h2 := bulk_len r
    rw [Rows.uptoBulkAll, List.length_cons]
    omega
theorem bulk_slice {H : Type} {d : DataW H} {n c : Nat} (h : d = .nil ∧ c = 0 ∨ ∃ es ss : List (DataW H), d = .slice es ss ∧ es.length = n ∧ es.length + ss.length = c) : c ≤ Rows.uptoBulk d := by
  rcases h with ⟨rfl, rfl⟩ | ⟨es, ss, rfl, h1, h2⟩
  · simp
  · have h3 := bulk_len es
    have h4 := bulk_len ss
    rw [Rows.uptoBulk]
    omega
theorem bulk_mem {H : Type} {d : DataW H} : ∀ {L : List (DataW H)} {j : Nat}, L[j]? = some d → Rows.uptoBulk d ≤ Rows.uptoBulkAll L
  | [], _, h => by simp at h
  | x :: r, 0, h => by
    simp at h
    subst h
    rw [Rows.uptoBulkAll]
    omega
  | x :: r, j + 1, h => by
    rw [Rows.uptoBulkAll]
    have := bulk_mem (L := r) (j := j) (by simpa using h)
    omega
end Go.Proofs.YtkemmgfmmfcdlaaDoor
