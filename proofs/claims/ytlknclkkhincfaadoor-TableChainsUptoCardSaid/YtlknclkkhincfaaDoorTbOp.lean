/-
  What the listed variables give, a row of entries that came in; over waybill/table. No condition.
-/
import Derived.Test.YtlknclkkhincfaaDoorLibAll
import Derived.Test.YtlknclkkhincfaaDoorTbTurns
import Derived.Test.YtlknclkkhincfaaDoorRows
import Derived.Lib.LaidU8T
import Derived.PinnedBridge
import Derived.LaidSub
import Derived.Shelf.Vars
namespace Go.Proofs.YtlknclkkhincfaaDoor
open Go.RowKit
set_option linter.unusedVariables false
def u8ren : Go.Shelf.Ren := ⟨fun n => n, fun | 5 => 5 | 119 => 137 | 138 => 139 | 139 => 140 | n => n, fun | 3 => 1 | 4 => 2 | n => n⟩
theorem u8types : U8Types Tryd.prog u8ren := { t5 := Tryd.underlying5, t119 := Tryd.underlying137, t138 := Tryd.underlying139, t139 := Tryd.underlying140 }
theorem u8extra : U8Extra Tryd.prog u8ren := { n3 := by kernel_rfl, n4 := by kernel_rfl, y3 := by kernel_rfl, y4 := by kernel_rfl, c5 := by kernel_rfl, c119 := by kernel_rfl, c138 := by kernel_rfl }
def TabsTt (W : World) : Prop := TabsT W.heap.size W
theorem tabsTt_of {W : World} {laid : List (String × DataW Unit)} (h : laidMet Tryd.prog laid W) (hsh : W.ShapedOpen Tryd.prog)
    (e3 : laid.filter (fun x => x.1 == "unicode/utf8.first") = [("unicode/utf8.first", Lib.firstData)])
    (e4 : laid.filter (fun x => x.1 == "unicode/utf8.acceptRanges") = [("unicode/utf8.acceptRanges", Lib.acceptData)]) : TabsT W.heap.size W := by
  have h3 := h.filter (fun x => x.1 == "unicode/utf8.first")
  have h4 := h.filter (fun x => x.1 == "unicode/utf8.acceptRanges")
  rw [e3] at h3
  rw [e4] at h4
  have t3 : Lib.Utf8Tabs 1 2 W := utf8Tabs_of_readsT u8types u8extra (Lib.laidMet.reads h3 (List.mem_singleton.2 rfl)) (Lib.laidMet.reads h4 (List.mem_singleton.2 rfl))
  obtain ⟨m, hm⟩ := cell_of_shapedOpen_int hsh (g := 0) (t := 3) (zero := #[.int .i64 0]) (by decide) (by kernel_rfl) rfl (by kernel_rfl) (by kernel_rfl) Tryd.underlying3
  exact fun w' hb => ⟨Utf8Tabs_below t3 hb, m, (hb.cell (World.block_lt_of_cell? _ _ hm)).trans hm⟩
/-- two strings as an entry -/
def toEn (r : List ByteArray) : En := ⟨(r.getD 0 default).data.toList, (r.getD 1 default).data.toList⟩
theorem RRec.toRE {w : World} {A : Option Addr} {R : List (List ByteArray)} (h : RRec w w.heap.size 2 A R) : RE w A (R.map toEn) := by
  rcases h with rfl | ⟨b, off, rfl, hlt, hc⟩
  · exact .inl rfl
  · refine .inr ⟨b, off, rfl, hlt, fun i e he => ?_⟩
    rw [List.getElem?_map] at he
    obtain ⟨r, hr, rfl⟩ := Option.map_eq_some_iff.1 he
    obtain ⟨hl, hr2⟩ := hc i r hr
    match r, hl with
    | [x, y], _ =>
      refine ⟨?_, ?_⟩
      · show _ = some (Value.string (bs x.data.toList))
        rw [bs_of]; exact (hr2 0 x rfl).1
      · show _ = some (Value.string (bs y.data.toList))
        rw [bs_of]; exact (hr2 1 y rfl).1
theorem RRec.en_le {w : World} {B : Nat} {A : Option Addr} {R : List (List ByteArray)} (h : RRec w B 2 A R) : ∀ e ∈ R.map toEn, e.k.length ≤ maxLen ∧ e.v.length ≤ 9223372036854775807 := fun e he => by
  obtain ⟨r, hr, rfl⟩ := List.mem_map.1 he
  rcases h with rfl | ⟨b, off, rfl, hlt, hc⟩
  · simp at hr
  · obtain ⟨i, hi⟩ := List.mem_iff_getElem?.1 hr
    obtain ⟨hl, hr2⟩ := hc i r hi
    match r, hl with
    | [x, y], _ =>
      have h1 := (hr2 0 x rfl).2
      have h2 := (hr2 1 y rfl).2
      have e1 : x.data.toList.length = x.size := Array.length_toList
      have e2 : y.data.toList.length = y.size := Array.length_toList
      exact ⟨show x.data.toList.length ≤ maxLen by omega, show y.data.toList.length ≤ 9223372036854775807 by unfold maxLen at h2; omega⟩
theorem turns_row (W : World) (A : Option Addr) (R : List (List ByteArray)) (c : Nat) (h : RRec W W.heap.size 2 A R) (hc : R.length ≤ c) (hm : c ≤ 140737488351232) (turn : Int) (ht : -9223372036854775808 ≤ turn ∧ turn ≤ 9223372036854775807) (b : ByteArray) (hb : b.data.toList.length ≤ 140737488351232) (hT : TabsT W.heap.size W) :
    Calls Tryd.prog 4 #[.slice A R.length c, .int .i64 turn, .string b] W fun e w' => Below W.heap.size W w' ∧ e = .returned (.bool true) := by
  have h := turns_walk W A R.length c (R.map toEn) (by rw [List.length_map]) h.toRE hc (by unfold maxLen; omega) h.en_le turn ht.1 ht.2 b.data.toList (by omega) hT
  rw [bs_of] at h
  exact h
end Go.Proofs.YtlknclkkhincfaaDoor
