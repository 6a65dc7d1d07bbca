/-
  The walk of the statement ReplySame. No condition but the sizes that the form gives, and what the library's variables hold.
-/
import Derived.Test.YteicojighhhgjaaDoorReadW
import Derived.Test.YteicojighhhgjaaDoorPrints
import Derived.Test.YteicojighhhgjaaDoorSame
import Derived.Test.YteicojighhhgjaaDoorLawPlain
import Derived.Test.YteicojighhhgjaaDoorTabs2
namespace Go.Proofs.YteicojighhhgjaaDoor
open Go.RowKit Go.Sort
set_option linter.unusedVariables false

set_option maxRecDepth 100000 in
set_option maxHeartbeats 2000000 in
theorem samelaw_walk (A : Option Addr) (l : List UInt8) (cp : Nat) (w : World) (h : RB w w.heap.size A l) (hl : l.length ≤ cp) (hc : cp ≤ 140737488351232) (T : PowErrs w) :
    Calls Tryd.prog 7 #[.slice A l.length cp] w fun e w' => Below w.heap.size w w' ∧ e = .returned (.bool true) := by
  go_enter Tryd.func7, Tryd.ntmps7
  go_wp2_with fail
  refine (awake_walk w T.pow).mono ?_
  rintro e w1 ⟨h1, rfl⟩
  go_wp2_with fail
  have hlen : (readP l).L.length ≤ maxLen := by have := readP_len l; unfold maxLen; omega
  have hRR := Lib.hid (readP_right (l := l))
  refine (read_walk A l cp w1 ((h.below h1).mono h1.size) hl (by omega) (by unfold maxLen; omega) (T.keep h1).errs).mono ?_
  rintro e w2 ⟨h2, A2, cp2, rfl, r2⟩
  have b2 := h1.trans (h2.mono h1.size)
  have s2 := b2.size
  have T2 := T.keep b2
  clear h1 h2 h T
  generalize readP l = R at *
  have b3 := b2.alloc s2 (.cells #[.int .i64 R.c, .slice A2 R.L.length cp2] 24)
  by_cases he : R.e = 0
  · obtain ⟨hr, hn1, hn2⟩ := hRR.out he
    clear hRR
    have he1 : (R.e != 0) = false := by simpa using he
    have hblk := Blk.new w2 24 #[.int .i64 R.c, .slice A2 R.L.length cp2]
    have k0 : (w2.alloc (.cells #[.int .i64 R.c, .slice A2 R.L.length cp2] 24)).cell? ⟨w2.heap.size, 0, none⟩ = some (.int .i64 R.c) := hblk.cell 0
    have k1 : (w2.alloc (.cells #[.int .i64 R.c, .slice A2 R.L.length cp2] 24)).cell? ⟨w2.heap.size, 1, none⟩ = some (.slice A2 R.L.length cp2) := hblk.cell 1
    have r3 : RS (w2.alloc (.cells #[.int .i64 R.c, .slice A2 R.L.length cp2] 24)) (w2.alloc (.cells #[.int .i64 R.c, .slice A2 R.L.length cp2] 24)).heap.size A2 R.L := (r2.below ((Below.refl _ _).alloc (Nat.le_refl _) _)).mono (by simp)
    obtain ⟨p1, p2, p3, p4⟩ := rightOk_parts hr
    have hP := Lib.hid (print_walk R.c A2 R.L cp2 _ r3 hlen (fun s hs => by have := line_len p1 hs; rw [size_len]; unfold maxLen; omega) (T2.pow.keep ((Below.refl _ _).alloc (Nat.le_refl _) (.cells #[.int .i64 R.c, .slice A2 R.L.length cp2] 24))))
    have e1 : prtE R.c R.L = 0 := by unfold prtE; rw [hr]; rfl
    have e3 : prtB R.c R.L = prt (dig3 R.c) R.L := by unfold prtB; rw [hr]; rfl
    rw [e1, e3] at hP
    have hback := readP_back hr []
    rw [List.append_nil] at hback
    have hpl := prt_len (dig3 R.c) rfl R.L p1
    have hpl2 : (prt (dig3 R.c) R.L).length ≤ 200000000000000 := by omega
    have hRd := Lib.hid (fun A cp w h hl hc T => hback ▸ read_walk A (prt (dig3 R.c) R.L) cp w h hl hpl2 hc T)
    have hn1' : (1 : Int) ≤ R.n := hn1
    have hn2' : R.n ≤ (l.length : Int) := hn2
    have T3 := T2.keep ((Below.refl _ _).alloc (Nat.le_refl _) (.cells #[.int .i64 R.c, .slice A2 R.L.length cp2] 24))
    have HE := Lib.hid he
    clear p1 p2 p3 p4 hr hback hpl e1 e3 he r2 T2 b2 hn1 hn2
    generalize prt (dig3 R.c) R.L = P at *
    go_wp2_with fail
    refine hP.out.mono ?_
    rintro e w4 ⟨h4, v4, rfl, o4⟩
    obtain ⟨A4, c4, rfl, q4, q5, r4⟩ := o4.out
    have hblk4 := hblk.keep h4
    have T4 := T3.keep h4
    have b4 := b3.trans (h4.mono b3.size)
    have s4 := b4.size
    have s5 := h4.size
    simp only [World.size_alloc] at s5
    have r34 := (r3.below h4).mono h4.size
    clear hP hblk T3 b3 h4 r3 k0 k1
    go_wp2_with fail
    refine (hRd.out A4 c4 w4 r4 q4 q5 T4.errs).mono ?_
    rintro e w6 ⟨h6, A6, c6, rfl, r6⟩
    have hblk6 := hblk4.keep h6
    have b6 := b4.trans (h6.mono b4.size)
    have s6 := b6.size
    have s7 := h6.size
    have r36 := (r34.below h6).mono h6.size
    have k2 : (w6.alloc (.cells #[.int .i64 R.c, .slice A6 R.L.length c6] 24)).cell? ⟨w2.heap.size, 0, none⟩ = some (.int .i64 R.c) := (hblk6.alloc _).cell 0
    have k3 : (w6.alloc (.cells #[.int .i64 R.c, .slice A6 R.L.length c6] 24)).cell? ⟨w2.heap.size, 1, none⟩ = some (.slice A2 R.L.length cp2) := (hblk6.alloc _).cell 1
    have hS := Lib.hid (fun w h1 h2 => same_walk R.c R.c A2 R.L cp2 A6 R.L c6 w h1 h2 hlen hlen)
    rw [decide_eq_true (⟨rfl, rfl⟩ : R.c = R.c ∧ R.L = R.L)] at hS
    clear hRd hblk4 hblk6 T4 b4 h6 r34 o4 r4
    go_wp2_with fail
    refine (hS.out _ ((r36.below ((Below.refl _ _).alloc (Nat.le_refl _) _)).mono (by simp)) ((r6.below ((Below.refl _ _).alloc (Nat.le_refl _) _)).mono (by simp))).mono ?_
    rintro e w8 ⟨h8, rfl⟩
    go_wp2
    go_ret
    exact ⟨((b6.alloc s6 _).trans (h8.mono (by simp; omega))), rfl⟩
  · have he1 : (R.e != 0) = true := by simpa using he
    clear he hRR
    go_wp2
    go_ret
    exact ⟨b3, rfl⟩
end Go.Proofs.YteicojighhhgjaaDoor
