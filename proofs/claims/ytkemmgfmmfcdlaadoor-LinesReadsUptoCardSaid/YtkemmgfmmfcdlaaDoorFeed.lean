/-
  The walks of both readers' New, Feed and Left. Conditions: the sizes.
-/
import Derived.Test.YtkemmgfmmfcdlaaDoorChg
import Derived.Test.YtkemmgfmmfcdlaaDoorProg
namespace Go.Proofs.YtkemmgfmmfcdlaaDoor
open Go.RowKit
set_option linter.unusedVariables false

theorem u8L : U8 Tryd.prog 32 5 := by
  obtain ⟨i, h1, h2, h3, h4⟩ := info_parts (show (Tryd.prog.info? 5).map (fun i => (i.zero, i.size, i.bytes)) = some (some (.int .u8 0), 1, 1) by kernel_rfl)
  exact ⟨Tryd.underlying32, Tryd.underlying5, i, h1, h2, h3, h4⟩
def FeedPost (T : TypeId) (w : World) (base p : Nat) (own : Option Nat) (most : Nat) (l : List UInt8) (e : Ending) (w' : World) : Prop :=
  e = .returned (.tuple #[]) ∧ ∃ own', Rd w' T base p own' most l ∧ Chg p own w w' ∧ (own' = own ∨ own' = some w.heap.size)
set_option maxHeartbeats 1000000 in
theorem feed_walk (w : World) (base p : Nat) (own : Option Nat) (most : Nat) (l : List UInt8) (A : Option Addr) (k : List UInt8) (c : Nat) (hR : Rd w 48 base p own most l) (hk : RB w w.heap.size A k) (hb : base ≤ w.heap.size) (hs : l.length + k.length ≤ 140737488355328) :
    Calls Tryd.prog 10 #[.pointer (some ⟨p, 0, none⟩), .slice A k.length c] w (FeedPost 48 w base p own most (l ++ k)) := by
  obtain ⟨h1, h2, v, hB, hO⟩ := hR
  have c1 := hB.cell 1
  simp only [List.getElem?_toArray, List.getElem?_cons_succ, List.getElem?_cons_zero] at c1
  have HB := Lib.hid hB
  have HO := Lib.hid hO
  have HK := Lib.hid hk
  have H2 := Lib.hid h2
  clear hB hO hk h2
  go_enter Tryd.func10, Tryd.ntmps10
  go_wp2_with (at_builtin; refine wpList_appQ _ u8L (.tmp 8) (.tmp 9) rfl rfl base rfl HO.out _ _ rfl rfl HK.out hs hb ?_; intro v1 own1 w1 hO1 hg1 ho1; obtain ⟨A1, cc1, rfl, -⟩ := hO1.out; have HB1 := Lib.hid (HB.out.grown hg1 (fun e => H2.out e.symm)); have f1 := HB1.out.frozen 1; have d1 : w1.cell? ⟨p, 1, none⟩ = some v := (HB1.out.cell 1); have HO1 := Lib.hid hO1; have HG1 := Lib.hid hg1; have HN := Lib.hid ho1; clear hO1 hg1 ho1)
  go_end0
  have hlt := HB.out.lt
  have hne : own1 ≠ some p := by
    rcases HN.out with h | h
    · rw [h]; exact H2.out
    · rw [h]; intro e; injection e with e; omega
  exact ⟨rfl, own1, ⟨h1, hne, _, HB1.out.set_ 1 _, by have := HO1.out.far (p := ⟨p, 1, none⟩) hne (.slice A1 (l.length + k.length) cc1); rwa [List.length_append] at this⟩, (Chg.of_grown HG1.out).setCell 1 _, HN.out⟩
set_option maxHeartbeats 1000000 in
theorem rfeed_walk (w : World) (base p : Nat) (own : Option Nat) (most : Nat) (l : List UInt8) (A : Option Addr) (k : List UInt8) (c : Nat) (hR : Rd w 50 base p own most l) (hk : RB w w.heap.size A k) (hb : base ≤ w.heap.size) (hs : l.length + k.length ≤ 140737488355328) :
    Calls Tryd.prog 11 #[.pointer (some ⟨p, 0, none⟩), .slice A k.length c] w (FeedPost 50 w base p own most (l ++ k)) := by
  obtain ⟨h1, h2, v, hB, hO⟩ := hR
  have c1 := hB.cell 1
  simp only [List.getElem?_toArray, List.getElem?_cons_succ, List.getElem?_cons_zero] at c1
  have HB := Lib.hid hB
  have HO := Lib.hid hO
  have HK := Lib.hid hk
  have H2 := Lib.hid h2
  clear hB hO hk h2
  go_enter Tryd.func11, Tryd.ntmps11
  go_wp2_with (at_builtin; refine wpList_appQ _ u8L (.tmp 8) (.tmp 9) rfl rfl base rfl HO.out _ _ rfl rfl HK.out hs hb ?_; intro v1 own1 w1 hO1 hg1 ho1; obtain ⟨A1, cc1, rfl, -⟩ := hO1.out; have HB1 := Lib.hid (HB.out.grown hg1 (fun e => H2.out e.symm)); have f1 := HB1.out.frozen 1; have d1 : w1.cell? ⟨p, 1, none⟩ = some v := (HB1.out.cell 1); have HO1 := Lib.hid hO1; have HG1 := Lib.hid hg1; have HN := Lib.hid ho1; clear hO1 hg1 ho1)
  go_end0
  have hlt := HB.out.lt
  have hne : own1 ≠ some p := by
    rcases HN.out with h | h
    · rw [h]; exact H2.out
    · rw [h]; intro e; injection e with e; omega
  exact ⟨rfl, own1, ⟨h1, hne, _, HB1.out.set_ 1 _, by have := HO1.out.far (p := ⟨p, 1, none⟩) hne (.slice A1 (l.length + k.length) cc1); rwa [List.length_append] at this⟩, (Chg.of_grown HG1.out).setCell 1 _, HN.out⟩
/-! ### how many wait -/
theorem left_walk (w : World) (base p : Nat) (own : Option Nat) (most : Nat) (l : List UInt8) (hR : Rd w 48 base p own most l) :
    Calls Tryd.prog 14 #[.pointer (some ⟨p, 0, none⟩)] w fun e w' => w = w' ∧ e = .returned (.int .i64 (l.length : Int)) := by
  obtain ⟨h1, h2, v, hB, hO⟩ := hR
  obtain ⟨A, c, rfl, -⟩ := hO.out
  have c1 : w.cell? ⟨p, 1, none⟩ = some (.slice A l.length c) := hB.cell 1
  clear hB hO
  go_enter Tryd.func14, Tryd.ntmps14
  go_wp2
  go_ret
  exact ⟨rfl, rfl⟩
theorem rleft_walk (w : World) (base p : Nat) (own : Option Nat) (most : Nat) (l : List UInt8) (hR : Rd w 50 base p own most l) :
    Calls Tryd.prog 15 #[.pointer (some ⟨p, 0, none⟩)] w fun e w' => w = w' ∧ e = .returned (.int .i64 (l.length : Int)) := by
  obtain ⟨h1, h2, v, hB, hO⟩ := hR
  obtain ⟨A, c, rfl, -⟩ := hO.out
  have c1 : w.cell? ⟨p, 1, none⟩ = some (.slice A l.length c) := hB.cell 1
  clear hB hO
  go_enter Tryd.func15, Tryd.ntmps15
  go_wp2
  go_ret
  exact ⟨rfl, rfl⟩
/-! ### New -/
theorem new_bad (most : Int) (w : World) (h : most < 1 ∨ 65536 < most) :
    Calls Tryd.prog 8 #[.int .i64 most] w fun e w' => w = w' ∧ e = .returned (.tuple #[.pointer none, .int .i64 1]) := by
  rcases h with h | h
  · go_enter Tryd.func8, Tryd.ntmps8
    go_wp2
    go_ret2
    exact ⟨rfl, rfl⟩
  · have h2 : 1 ≤ most := by omega
    go_enter Tryd.func8, Tryd.ntmps8
    go_wp2
    go_ret2
    exact ⟨rfl, rfl⟩
theorem rnew_bad (most : Int) (w : World) (h : most < 1 ∨ 65536 < most) :
    Calls Tryd.prog 9 #[.int .i64 most] w fun e w' => w = w' ∧ e = .returned (.tuple #[.pointer none, .int .i64 1]) := by
  rcases h with h | h
  · go_enter Tryd.func9, Tryd.ntmps9
    go_wp2
    go_ret2
    exact ⟨rfl, rfl⟩
  · have h2 : 1 ≤ most := by omega
    go_enter Tryd.func9, Tryd.ntmps9
    go_wp2
    go_ret2
    exact ⟨rfl, rfl⟩
theorem new_ok (most : Nat) (w : World) (base : Nat) (hb : base ≤ w.heap.size) (h1 : 1 ≤ most) (h2 : most ≤ 65536) :
    Calls Tryd.prog 8 #[.int .i64 (most : Int)] w fun e w' => e = .returned (.tuple #[.pointer (some ⟨w.heap.size, 0, none⟩), .int .i64 0]) ∧ Below w.heap.size w w' ∧ Rd w' 48 base w.heap.size none most [] ∧ w'.heap.size = w.heap.size + 1 := by
  have i1 : (1 : Int) ≤ (most : Int) := by omega
  have i2 : (most : Int) ≤ 65536 := by omega
  go_enter Tryd.func8, Tryd.ntmps8
  go_wp2
  go_ret2
  exact ⟨rfl, (Below.refl _ _).alloc (Nat.le_refl _) _, ⟨hb, by simp, _, Blk.new _ _ _, OwnQ.nil _ _ _⟩, by simp⟩
theorem rnew_ok (most : Nat) (w : World) (base : Nat) (hb : base ≤ w.heap.size) (h1 : 1 ≤ most) (h2 : most ≤ 65536) :
    Calls Tryd.prog 9 #[.int .i64 (most : Int)] w fun e w' => e = .returned (.tuple #[.pointer (some ⟨w.heap.size, 0, none⟩), .int .i64 0]) ∧ Below w.heap.size w w' ∧ Rd w' 50 base w.heap.size none most [] ∧ w'.heap.size = w.heap.size + 1 := by
  have i1 : (1 : Int) ≤ (most : Int) := by omega
  have i2 : (most : Int) ≤ 65536 := by omega
  go_enter Tryd.func9, Tryd.ntmps9
  go_wp2
  go_ret2
  exact ⟨rfl, (Below.refl _ _).alloc (Nat.le_refl _) _, ⟨hb, by simp, _, Blk.new _ _ _, OwnQ.nil _ _ _⟩, by simp⟩
end Go.Proofs.YtkemmgfmmfcdlaaDoor
