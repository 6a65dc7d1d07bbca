/-
  The walk of awake, and of the statement ReplyPrints. No condition but the sizes that the form gives, and what the table of powers of ten holds.
-/
import Derived.Test.YteicojighhhgjaaDoorPrint
namespace Go.Proofs.YteicojighhhgjaaDoor
open Go.RowKit Go.Sort
set_option linter.unusedVariables false

theorem RS.one (w : World) (E : TypeId) (s : ByteArray) : RS (w.alloc (.cells #[.string s] E)) (w.heap.size + 1) (some ⟨w.heap.size, 0, none⟩) [s] := by
  refine .inr ⟨_, _, rfl, by omega, fun i hi => ?_⟩
  obtain rfl : i = 0 := by simpa using hi
  simp [st]
theorem prt_awake : prtE 250 [⟨#[79, 107]⟩] = 0 ∧ prtB 250 [⟨#[79, 107]⟩] = [50, 53, 48, 32, 79, 107, 13, 10] := by decide
theorem cvRB {w : World} {B : Nat} {A : Option Addr} {l : List UInt8} (h : RB w B A l) (n c : Nat) (hn : n = l.length) :
    (convert 27 9 (.slice A n c)).run Tryd.prog w = .ok (.string ⟨l.toArray⟩) w :=
  run_convRB 27 9 5 Tryd.underlying27 Tryd.underlying5 Tryd.underlying9 h n c hn

set_option maxHeartbeats 1000000 in
theorem awake_walk (w : World) (T : Pow10 w) : Calls Tryd.prog 9 #[] w fun e w' => Below w.heap.size w w' ∧ e = .returned (.bool true) := by
  have hb0 : Below w.heap.size w (w.alloc (.cells #[.string ⟨#[79, 107]⟩] 9)) := (Below.refl _ _).alloc (Nat.le_refl _) _
  have hp := Lib.hid (print_walk 250 (some ⟨w.heap.size, 0, none⟩) [⟨#[79, 107]⟩] 1 (w.alloc (.cells #[.string ⟨#[79, 107]⟩] 9)) ((RS.one w 9 _).mono (by simp)) (by decide) (by intro s hs; simp at hs; subst hs; decide) (T.keep hb0))
  rw [prt_awake.1, prt_awake.2] at hp
  go_enter Tryd.func9, Tryd.ntmps9
  go_wp2_with fail
  refine hp.out.mono ?_
  rintro e w1 ⟨hb1, v, rfl, ho⟩
  obtain ⟨A, cp, rfl, -, -, hr⟩ := ho.out
  have hcv := cvRB hr 8 cp rfl
  go_wp2
  go_ret
  exact ⟨hb0.trans (hb1.mono hb0.size), rfl⟩

set_option maxHeartbeats 1000000 in
theorem prints_walk (c : Int) (A : Option Addr) (L : List ByteArray) (cp : Nat) (w : World) (h : RS w w.heap.size A L) (hl : L.length ≤ maxLen) (hs : ∀ s ∈ L, s.size ≤ maxLen) (T : Pow10 w) :
    Calls Tryd.prog 3 #[.agg #[.int .i64 c, .slice A L.length cp]] w fun e w' => Below w.heap.size w w' ∧ e = .returned (.bool true) := by
  have hb0 : Below w.heap.size w (w.alloc (.cells #[.int .i64 c, .slice A L.length cp] 24)) := (Below.refl _ _).alloc (Nat.le_refl _) _
  have hblk0 : Blk (w.alloc (.cells #[.int .i64 c, .slice A L.length cp] 24)) w.heap.size 24 #[.int .i64 c, .slice A L.length cp] := Blk.new w _ _
  generalize hw0 : w.alloc (.cells #[.int .i64 c, .slice A L.length cp] 24) = w0 at hb0 hblk0
  have k : ∀ w', Below w0.heap.size w0 w' → w'.cell? ⟨w.heap.size, 0, none⟩ = some (.int .i64 c) ∧ w'.cell? ⟨w.heap.size, 1, none⟩ = some (.slice A L.length cp) := fun w' hb => ⟨(hblk0.keep hb).cell 0, (hblk0.keep hb).cell 1⟩
  have K := Lib.hid k; clear k hblk0
  go_enter Tryd.func3, Tryd.ntmps3
  go_wp2_with fail
  refine (awake_walk w0 (T.keep hb0)).mono ?_
  rintro e w1 ⟨h1, rfl⟩
  have s1 := h1.size
  obtain ⟨c0, c1⟩ := K.out w1 h1
  have hw1 := hb0.trans (h1.mono hb0.size)
  go_wp2_with fail
  refine (right_walk c A L cp w1 ((h.below hw1).mono hw1.size) hl hs).mono ?_
  rintro e w2 ⟨h2, rfl⟩
  replace h2 : Below w0.heap.size w0 w2 := h1.trans (h2.mono s1)
  have s2 := h2.size
  clear c0 c1
  obtain ⟨c0, c1⟩ := K.out w2 h2
  have hw2 := hb0.trans (h2.mono hb0.size)
  go_wp2_with fail
  refine (rright_walk c A L cp w2 ((h.below hw2).mono hw2.size) hl hs).mono ?_
  rintro e w3 ⟨h3, rfl⟩
  replace h3 : Below w0.heap.size w0 w3 := h2.trans (h3.mono s2)
  have s3 := h3.size
  clear c0 c1
  obtain ⟨c0, c1⟩ := K.out w3 h3
  have hw3 := hb0.trans (h3.mono hb0.size)
  go_wp2_with fail
  refine (print_walk c A L cp w3 ((h.below hw3).mono hw3.size) hl hs (T.keep hw3)).mono ?_
  rintro e w4 ⟨h4', v4, rfl, o4⟩
  have h4 : Below w0.heap.size w0 w4 := h3.trans (h4'.mono s3)
  have s4 := h4.size
  clear c0 c1
  obtain ⟨c0, c1⟩ := K.out w4 h4
  have hw4 := hb0.trans (h4.mono hb0.size)
  go_wp2_with fail
  refine (rprint_walk c A L cp w4 ((h.below hw4).mono hw4.size) hl hs).mono ?_
  rintro e w5 ⟨h5', v5, rfl, o5⟩
  have h5 : Below w0.heap.size w0 w5 := h4.trans (h5'.mono s4)
  obtain ⟨A4, c4, rfl, -, -, r4⟩ := (o4.below h5').out
  obtain ⟨A5, c5, rfl, -, -, r5⟩ := o5.out
  have v4 := cvRB r4 _ c4 rfl
  have v5 := cvRB r5 _ c5 rfl
  clear o4 o5
  generalize prtB c L = bs at *
  generalize prtE c L = er at *
  generalize rightOk c L = ok at *
  go_wp2
  go_ret
  exact ⟨hb0.trans (h5.mono hb0.size), rfl⟩
end Go.Proofs.YteicojighhhgjaaDoor
