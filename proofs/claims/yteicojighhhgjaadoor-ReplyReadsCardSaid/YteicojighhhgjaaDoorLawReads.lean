/-
  The walk of the statement ReplyReads. No condition but the sizes that the form gives, and what the library's variables hold.
-/
import Derived.Test.YteicojighhhgjaaDoorReadW
import Derived.Test.YteicojighhhgjaaDoorPrints
import Derived.Test.YteicojighhhgjaaDoorSame
import Derived.Test.YteicojighhhgjaaDoorLawPlain
namespace Go.Proofs.YteicojighhhgjaaDoor
open Go.RowKit Go.Sort
set_option linter.unusedVariables false

set_option maxRecDepth 100000 in
set_option maxHeartbeats 2000000 in
theorem reads_walk (A : Option Addr) (l : List UInt8) (cp : Nat) (w : World) (h : RB w w.heap.size A l) (hl : l.length ≤ cp) (hc : cp ≤ 140737488351232) (T : Pow10 w) (TE : Errs w) :
    Calls Tryd.prog 5 #[.slice A l.length cp] w fun e w' => Below w.heap.size w w' ∧ e = .returned (.bool true) := by
  go_enter Tryd.func5, Tryd.ntmps5
  go_wp2_with fail
  refine (awake_walk w T).mono ?_
  rintro e w1 ⟨h1, rfl⟩
  go_wp2_with fail
  have hlen : (readP l).L.length ≤ maxLen := by have := readP_len l; unfold maxLen; omega
  refine (read_walk A l cp w1 ((h.below h1).mono h1.size) hl (by omega) (TE.keep h1)).mono ?_
  rintro e w2 ⟨h2, A2, cp2, rfl, r2⟩
  have hR := Lib.hid (fun w h => rread_walk A l cp w h hl (by omega))
  have b2 := h1.trans (h2.mono h1.size)
  have hw2 := (h.below b2).mono b2.size
  have s2 := b2.size
  clear h1 h2 T TE h
  generalize readP l = R at *
  go_wp2_with fail
  have hblk := Blk.new w2 24 #[.int .i64 R.c, .slice A2 R.L.length cp2]
  have b3 := b2.alloc s2 (.cells #[.int .i64 R.c, .slice A2 R.L.length cp2] 24)
  have hw3 := ((hw2.alloc (Nat.le_refl _) (.cells #[.int .i64 R.c, .slice A2 R.L.length cp2] 24))).mono (B' := (w2.alloc (.cells #[.int .i64 R.c, .slice A2 R.L.length cp2] 24)).heap.size) (by simp)
  have r3 : RS (w2.alloc (.cells #[.int .i64 R.c, .slice A2 R.L.length cp2] 24)) _ A2 R.L := r2.below ((Below.refl _ _).alloc (Nat.le_refl _) _)
  refine (hR.out _ hw3).mono ?_
  rintro e w4 ⟨h4, A4, cp4, rfl, r4⟩
  have hblk4 := hblk.keep h4
  have k0 : w4.cell? ⟨w2.heap.size, 0, none⟩ = some (.int .i64 R.c) := hblk4.cell 0
  have k1 : w4.cell? ⟨w2.heap.size, 1, none⟩ = some (.slice A2 R.L.length cp2) := hblk4.cell 1
  have b4 := b3.trans (h4.mono b3.size)
  have s4 := b4.size
  have s5 := h4.size
  simp only [World.size_alloc] at s5
  have k2 : (w4.alloc (.cells #[.int .i64 R.c, .slice A4 R.L.length cp4] 24)).cell? ⟨w2.heap.size, 0, none⟩ = some (.int .i64 R.c) := (hblk4.alloc _).cell 0
  have k3 : (w4.alloc (.cells #[.int .i64 R.c, .slice A4 R.L.length cp4] 24)).cell? ⟨w2.heap.size, 1, none⟩ = some (.slice A2 R.L.length cp2) := (hblk4.alloc _).cell 1
  have r34 := (r3.below (h4.mono (by simp))).mono (B' := w4.heap.size) (by omega)
  have hS := Lib.hid (fun w h1 h2 => same_walk R.c R.c A2 R.L cp2 A4 R.L cp4 w h1 h2 hlen hlen)
  have hone : ∀ w', Below w4.heap.size w4 w' → w'.cell? ⟨w2.heap.size, 0, none⟩ = some (.int .i64 R.c) ∧ w'.cell? ⟨w2.heap.size, 1, none⟩ = some (.slice A2 R.L.length cp2) := fun w' hb => ⟨(hblk4.keep hb).cell 0, (hblk4.keep hb).cell 1⟩
  clear hR hblk hblk4 hw3 hw2 r2 r3 b3 h4 b2
  rw [decide_eq_true (⟨rfl, rfl⟩ : R.c = R.c ∧ R.L = R.L)] at hS
  go_wp2_with fail
  refine (hS.out _ ((r34.below ((Below.refl _ _).alloc (Nat.le_refl _) _)).mono (by simp)) ((r4.below ((Below.refl _ _).alloc (Nat.le_refl _) _)).mono (by simp))).mono ?_
  rintro e w6 ⟨h6, rfl⟩
  go_wp2
  go_ret
  exact ⟨((b4.alloc s4 _).trans (h6.mono (by simp; omega))), rfl⟩
end Go.Proofs.YteicojighhhgjaaDoor
