/-
  The walks of slices.Grow at nil and of slices.Concat at two slices of bytes. Conditions: the sizes.
-/
import Derived.Test.YtgbbadbffcjamaaDoorHdS0
import Derived.Lib.AppendZerosOnto
import Derived.Lib.SliceRun
namespace Go.Proofs.YtgbbadbffcjamaaDoor
open Go.RowKit
set_option linter.unusedVariables false
theorem OwnQ.belowG {w w' : World} {base : Nat} {own : Option Nat} {v : Value} {l : List UInt8} (h : OwnQ w base own v l) (hg : w.grownBy w' own) (hb : base ≤ w.heap.size) : Below base w w' :=
  ⟨hg.os, hg.tape, hg.output, hg.size, fun k hk => hg.block k (by omega) (fun e => by have := (h.base_ e.symm).1; omega)⟩
/-- a new slice that reads as l -/
def NewPost (w : World) (l : List UInt8) (e : Ending) (w' : World) : Prop :=
  Below w.heap.size w w' ∧ ∃ A2 n2 c2, e = .returned (.slice A2 n2 c2) ∧ OwnV w' w.heap.size (.slice A2 n2 c2) l
def GrowPost (w : World) (e : Ending) (w' : World) : Prop :=
  Below w.heap.size w w' ∧ ∃ own A2 c2, e = .returned (.slice A2 0 c2) ∧ OwnQ w' w.heap.size own (.slice A2 0 c2) []
set_option maxRecDepth 100000 in
set_option maxHeartbeats 2000000 in
theorem grow_walk (w : World) (n : Nat) (hn : n ≤ 140737488355328) :
    Calls Tryd.prog 50 #[.slice none 0 0, .int .i64 (n : Int)] w (GrowPost w) := by
  by_cases h0 : n = 0
  · subst h0
    go_enter Tryd.func50, Tryd.ntmps50
    go_wp2
    go_ret
    exact ⟨Below.refl _ _, none, none, 0, rfl, OwnQ.nil _ _ none⟩
  · obtain ⟨i0, hi0, hzz⟩ := Option.map_eq_some_iff.1 (show (Tryd.prog.info? 5).map (fun i => (i.zero, i.size, i.bytes)) = some (some (.int .u8 0), 1, 1) by kernel_rfl)
    simp only [Prod.mk.injEq] at hzz
    obtain ⟨hz0, hs0, hb0⟩ := hzz
    have h1 : ¬ ((n : Int) < 0) := by omega
    have h4 : (0 : Int) < (n : Int) := by omega
    have hrz : ∀ ty, (Builtin.append_ #[22, 3] ty #[.slice none 0 0, .int .i64 (n : Int)]).run Tryd.prog w =
        .ok (.slice (some ⟨w.heap.size, 0, none⟩) n (grownCap w n 0 5)) (w.drew.alloc (.cells (#[] ++ Builtin.zeroCells (Value.int .u8 0).cells n ++ Builtin.zeroCells (Value.int .u8 0).cells (grownCap w n 0 5 - n)) 5)) := fun ty => by
      have h := Lib.run_append_grow_zeros w 22 3 ty 5 i0 (.int .u8 0) .i64 .i64 Tryd.underlying22 Tryd.underlying3 hi0 hz0 none 0 0 [] (run_firstCells_none w.drew i0.size 0 0 0) n (by omega) (by omega) (by omega) (by omega) (by rw [hb0]; omega) (growslice_fits (by omega) (by rw [hb0]; omega))
      rw [Nat.zero_add] at h
      exact h
    have hG1 : n ≤ grownCap w n 0 5 := grownCap_ge w _ _ _
    have hG2 := grownCap_le_maxLen w n 0 5 (by unfold maxLen; omega)
    generalize grownCap w n 0 5 = G at *
    have hG3 : G ≤ 9223372036854775807 := by unfold maxLen at hG2; omega
    have hz : (Value.int .u8 0).cells = #[.int .u8 0] := rfl
    rw [hz] at hrz
    have e1 : wrap64 (n : Int) = (n : Int) := by unfold wrap64; omega
    have e2 : IntKind.i64.wrap (n : Int) = (n : Int) := IntWalk.i64_in _ (by omega)
    obtain ⟨cs, hcs⟩ : ∃ cs, (#[] ++ Builtin.zeroCells #[.int .u8 0] n ++ Builtin.zeroCells #[.int .u8 0] (G - n) : Array Value) = cs := ⟨_, rfl⟩
    rw [hcs] at hrz
    have hsz : cs.size = G := by rw [← hcs]; simp [size_zeroCells]; omega
    have HSZ := Lib.hid hsz
    clear hi0 hz0 hs0 hb0 hcs hsz hz
    go_enter Tryd.func50, Tryd.ntmps50
    go_wp2_with (at_builtin; refine Lib.wpList_append_run _ rfl _ _ _ _ rfl _ _ rfl rfl _ _ (hrz _) ?_)
    go_ret
    refine ⟨⟨rfl, rfl, rfl, by simp, fun k hk => ?_⟩, some w.heap.size, _, G, rfl, _, G, rfl, Nat.zero_le _, hG2, .inr ⟨w.heap.size, 0, rfl, rfl, Nat.le_refl _, by simp, fun i hi => by simp at hi, fun i hi => ?_⟩⟩
    · exact Below.heap_alloc w.drew _ k hk
    · have hB := Blk.new w.drew 5 cs
      have := hB.cell (0 + i)
      rw [show w.drew.heap.size = w.heap.size from rfl] at this
      refine ⟨?_, hB.frozen _⟩
      show ((w.drew.alloc (.cells cs 5)).cell? ⟨w.heap.size, 0 + i, none⟩).isSome = true
      rw [this, Array.getElem?_eq_getElem (by rw [HSZ.out]; omega)]
      rfl
theorem below_q {w w1 w2 : World} {base : Nat} {own : Option Nat} {v : Value} {l : List UInt8} (hb : Below base w w1) (h : OwnQ w1 base own v l) (hg : w1.grownBy w2 own) (hs : base ≤ w1.heap.size) : Below base w w2 := hb.trans (h.belowG hg hs)
set_option maxRecDepth 100000 in
set_option maxHeartbeats 4000000 in
theorem conc_walk (w : World) (q : Nat) (A1 A2 : Option Addr) (l1 l2 : List UInt8) (n1 c1 n2 c2 : Nat) (hq1 : w.cell? ⟨q, 0, none⟩ = some (.slice A1 n1 c1)) (hq2 : w.cell? ⟨q, 1, none⟩ = some (.slice A2 n2 c2))
    (h1 : RB w w.heap.size A1 l1) (h2 : RB w w.heap.size A2 l2) (hn1 : n1 = l1.length) (hn2 : n2 = l2.length) (hb : n1 + n2 ≤ 140737488355328) :
    Calls Tryd.prog 37 #[.slice (some ⟨q, 0, none⟩) 2 2] w (NewPost w (l1 ++ l2)) := by
  have HR1 := Lib.hid h1
  have HR2 := Lib.hid h2
  have HN1 := Lib.hid hn1
  have HN2 := Lib.hid hn2
  have KG := Lib.hid (grow_walk w (n1 + n2) hb)
  have e1 : wrap64 ((n1 : Int) + (n2 : Int)) = (n1 : Int) + (n2 : Int) := by unfold wrap64; omega
  have e2 : IntKind.i64.wrap ((n1 : Int) + (n2 : Int)) = (n1 : Int) + (n2 : Int) := IntWalk.i64_in _ (by omega)
  have e3 : IntKind.i64.wrap (n1 : Int) = (n1 : Int) := IntWalk.i64_in _ (by omega)
  have p1 : ¬ ((n1 : Int) < 0) := by omega
  have p2 : ¬ ((n1 : Int) + (n2 : Int) < 0) := by omega
  have hql := World.block_lt_of_cell? _ _ hq1
  have HQL := Lib.hid hql
  clear h1 h2 hn1 hn2 hql
  go_enter Tryd.func37, Tryd.ntmps37
  go_wp2_with fail
  go_loopg [3, 11] 2 (fun k s3 s11 wr => w = wr ∧ ((k = 2 ∧ s11 = .int .i64 0 ∧ s3 = .int .i64 0) ∨ (k = 1 ∧ s11 = .int .i64 1 ∧ s3 = .int .i64 (n1 : Int)) ∨ (k = 0 ∧ s11 = .int .i64 2 ∧ s3 = .int .i64 ((n1 : Int) + (n2 : Int)))))
  case atStart => exact ⟨rfl, .inl ⟨rfl, rfl, rfl⟩⟩
  case round =>
    obtain ⟨rfl, hc⟩ := hrel
    rcases hc with ⟨rfl, rfl, rfl⟩ | ⟨rfl, rfl, rfl⟩ | ⟨rfl, rfl, rfl⟩
    · clear KG
      go_wp2
      go_roundg 1
      case rel => exact ⟨rfl, .inr (.inl ⟨rfl, rfl, rfl⟩)⟩
      case measure => omega
    · clear KG
      go_wp2
      go_roundg 0
      case rel => exact ⟨rfl, .inr (.inr ⟨rfl, rfl, rfl⟩)⟩
      case measure => omega
    · clear e1 e2 e3
      go_wp2_with fail
      refine KG.out.mono ?_
      rintro e5 w5 ⟨hb5, own5, A5, c5, rfl, hO5⟩
      have HB5 := Lib.hid hb5
      have HO5 := Lib.hid hO5
      clear hb5 hO5 KG p1 p2
      go_wp2_with fail
      go_loopg [6, 27] 2 (fun k s6 s27 wr => ∃ own acc, Hid (OwnQ wr w.heap.size own s6 acc) ∧ Hid (Below w.heap.size w wr) ∧ ((k = 2 ∧ s27 = .int .i64 0 ∧ acc = []) ∨ (k = 1 ∧ s27 = .int .i64 1 ∧ acc = l1) ∨ (k = 0 ∧ s27 = .int .i64 2 ∧ acc = l1 ++ l2)))
      case atStart => exact ⟨own5, [], HO5, HB5, .inl ⟨rfl, rfl, rfl⟩⟩
      case round =>
        obtain ⟨own, acc, HO, HB, hc⟩ := hrel
        obtain ⟨A6, c6, rfl, -⟩ := HO.out.out
        have d1 : wr.cell? ⟨q, 0, none⟩ = some (.slice A1 n1 c1) := by rw [HB.out.cell (show q < w.heap.size from HQL.out)]; exact hq1
        have d2 : wr.cell? ⟨q, 1, none⟩ = some (.slice A2 n2 c2) := by rw [HB.out.cell (show q < w.heap.size from HQL.out)]; exact hq2
        rcases hc with ⟨rfl, rfl, rfl⟩ | ⟨rfl, rfl, rfl⟩ | ⟨rfl, rfl, rfl⟩
        · have hbz : ([] : List UInt8).length + l1.length ≤ 140737488355328 := by have := HN1.out; simp; omega
          go_wp2_with (at_builtin; go_loud (refine wpList_appQ _ u8S (.tmp 31) (.tmp 32) rfl rfl w.heap.size rfl HO.out _ _ rfl HN1.out (HR1.out.below HB.out) hbz HB.out.size ?_); intro v2 own2 w2 hO2 hg2 ho2; obtain ⟨A7, cc7, rfl, -⟩ := hO2.out; have HO2 := Lib.hid hO2; have HG2 := Lib.hid hg2; clear hO2 hg2 ho2)
          rw [List.nil_append] at HO2
          go_roundg 1
          case rel => exact ⟨own2, l1, by have := HO2; simpa using this, Lib.hid (below_q HB.out HO.out HG2.out HB.out.size), .inr (.inl ⟨rfl, rfl, rfl⟩)⟩
          case measure => omega
        · have hbz : acc.length + l2.length ≤ 140737488355328 := by have := HN1.out; have := HN2.out; omega
          go_wp2_with (at_builtin; go_loud (refine wpList_appQ _ u8S (.tmp 31) (.tmp 32) rfl rfl w.heap.size rfl HO.out _ _ rfl HN2.out (HR2.out.below HB.out) hbz HB.out.size ?_); intro v2 own2 w2 hO2 hg2 ho2; obtain ⟨A7, cc7, rfl, -⟩ := hO2.out; have HO2 := Lib.hid hO2; have HG2 := Lib.hid hg2; clear hO2 hg2 ho2)
          go_roundg 0
          case rel => exact ⟨own2, acc ++ l2, by have := HO2; rwa [List.length_append] at this, Lib.hid (below_q HB.out HO.out HG2.out HB.out.size), .inr (.inr ⟨rfl, rfl, rfl⟩)⟩
          case measure => omega
        · go_wp2
          go_ret
          exact ⟨HB.out, _, _, _, rfl, OwnV.of_q (by have := HO.out; rwa [List.length_append] at this)⟩
end Go.Proofs.YtgbbadbffcjamaaDoor
