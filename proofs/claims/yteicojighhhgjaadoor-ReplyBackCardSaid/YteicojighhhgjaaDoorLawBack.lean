/-
  The walk of the statement ReplyBack. No condition but the sizes that the form gives, and what the library's variables hold.
-/
import Derived.Test.YteicojighhhgjaaDoorReadW
import Derived.Test.YteicojighhhgjaaDoorPrints
import Derived.Test.YteicojighhhgjaaDoorSame
import Derived.Test.YteicojighhhgjaaDoorLawPlain
import Derived.Test.YteicojighhhgjaaDoorTabs2
import Derived.Test.YteicojighhhgjaaDoorApart
namespace Go.Proofs.YteicojighhhgjaaDoor
open Go.RowKit Go.Sort
set_option linter.unusedVariables false

set_option maxRecDepth 100000 in
set_option maxHeartbeats 4000000 in
theorem back_walk (c : Int) (A : Option Addr) (L : List ByteArray) (cp : Nat) (B : Option Addr) (l : List UInt8) (cq : Nat) (z : Int) (w : World) (hA : RS w w.heap.size A L) (hlA : L.length ≤ maxLen) (hs : ∀ s ∈ L, s.size ≤ maxLen)
    (hB : RB w w.heap.size B l) (hl : l.length ≤ cq) (hc : cq ≤ 140737488351232) (T : PowErrs w) :
    Calls Tryd.prog 6 #[.agg #[.int .i64 c, .slice A L.length cp], .slice B l.length cq, .int .i64 z] w fun e w' => Below w.heap.size w w' ∧ e = .returned (.bool true) := by
  have hb0 : Below w.heap.size w (w.alloc (.cells #[.int .i64 c, .slice A L.length cp] 24)) := (Below.refl _ _).alloc (Nat.le_refl _) _
  have hblk0 : Blk (w.alloc (.cells #[.int .i64 c, .slice A L.length cp] 24)) w.heap.size 24 #[.int .i64 c, .slice A L.length cp] := Blk.new w _ _
  generalize hw0 : w.alloc (.cells #[.int .i64 c, .slice A L.length cp] 24) = w0 at hb0 hblk0
  have k : ∀ w', Below w0.heap.size w0 w' → w'.cell? ⟨w.heap.size, 0, none⟩ = some (.int .i64 c) ∧ w'.cell? ⟨w.heap.size, 1, none⟩ = some (.slice A L.length cp) := fun w' hb => ⟨(hblk0.keep hb).cell 0, (hblk0.keep hb).cell 1⟩
  have K := Lib.hid k; clear k hblk0
  go_enter Tryd.func6, Tryd.ntmps6
  go_wp2_with fail
  refine (awake_walk w0 (T.keep hb0).pow).mono ?_
  rintro e w1 ⟨h1, rfl⟩
  have s1 := h1.size
  obtain ⟨c0, c1⟩ := K.out w1 h1
  have hw1 := hb0.trans (h1.mono hb0.size)
  go_wp2_with fail
  refine (rright_walk c A L cp w1 ((hA.below hw1).mono hw1.size) hlA hs).mono ?_
  rintro e w2 ⟨h2', rfl⟩
  have h2 : Below w0.heap.size w0 w2 := h1.trans (h2'.mono s1)
  have s2 := h2.size
  clear c0 c1
  obtain ⟨c0, c1⟩ := K.out w2 h2
  have hw2 := hb0.trans (h2.mono hb0.size)
  go_wp2_with fail
  refine (print_walk c A L cp w2 ((hA.below hw2).mono hw2.size) hlA hs (T.keep hw2).pow).mono ?_
  rintro e w3 ⟨h3', v3, rfl, o3⟩
  have h3 : Below w0.heap.size w0 w3 := h2.trans (h3'.mono s2)
  have s3 := h3.size
  have hw3 := hb0.trans (h3.mono hb0.size)
  have z3 := hw3.size
  clear c0 c1 h1 h2 h2' h3' hw1 hw2 s1 s2
  cases hr : rightOk c L
  · have e1 : prtE c L = 141 := by unfold prtE; rw [hr]; rfl
    rw [e1]
    clear hr
    go_wp2
    go_ret
    exact ⟨hw3, rfl⟩
  · have e1 : prtE c L = 0 := by unfold prtE; rw [hr]; rfl
    have e3 : prtB c L = prt (dig3 c) L := by unfold prtB; rw [hr]; rfl
    rw [e1]
    rw [e3] at o3
    have hR := Lib.hid (readP_back hr l)
    have hT := Lib.hid (fun cut (h : cut < (prt (dig3 c) L).length) => readP_torn hr h)
    obtain ⟨p1, p2, p3, p4⟩ := rightOk_parts hr
    have hpl := prt_len (dig3 c) rfl L p1
    have hpp := prt_pos hr
    have hlI : (l.length : Int) ≤ 140737488351232 := by omega
    clear hr e1 e3 p1 p2 p3
    generalize prt (dig3 c) L = P at *
    have hP5 : P.length ≤ 25600 := by omega
    obtain ⟨A3, c3, rfl, q3, q3', r3⟩ := o3.out
    unfold maxLen at q3'
    obtain ⟨b3, f3, rfl⟩ := r3.some_ hpp
    have R3 := Lib.hid r3
    have hB3 := Lib.hid ((hB.below hw3).mono z3)
    have HP := Lib.hid hpl
    clear o3 r3 hB hpl hpp
    go_wp2_with (first
      | (at_builtin; refine wpList_appB _ isU8 (.tmp 34) (.tmp 35) rfl rfl w3.heap.size rfl (OwnB.made _ _ _ (Nat.le_refl _)) P.length c3 rfl rfl (R3.out.alloc (Nat.le_refl _) _) (by first | omega | (simp <;> omega)) (by first | omega | (simp <;> omega)) ?_; intro v4 w4 ho4 hb4; rw [List.nil_append] at ho4; have HO4 := Lib.hid ho4; clear ho4; have hs4 := hb4.size; simp only [World.size_alloc] at hs4)
      | (at_builtin; refine wpList_appB _ isU8 (.tmp 36) (.tmp 37) rfl rfl w3.heap.size rfl HO4.out l.length cq rfl rfl (hB3.out.below (((Below.refl w3.heap.size w3).alloc (Nat.le_refl _) _).trans hb4)) (by first | omega | (simp <;> omega)) (by first | omega | (simp <;> omega)) ?_; intro v5 w5 ho5 hb5; have HO5 := Lib.hid ho5; clear ho5)
      | fail)
    have b5 : Below w3.heap.size w3 w5 := (((Below.refl _ _).alloc (Nat.le_refl _) _).trans hb4).trans hb5
    have s5 := b5.size
    have w5b : Below w0.heap.size w0 w5 := h3.trans (b5.mono s3)
    have w5w : Below w.heap.size w w5 := hw3.trans (b5.mono z3)
    obtain ⟨A5, c5, rfl, q5, q5', r5⟩ := HO5.out.out
    have hrd := read_walk A5 (P ++ l) c5 w5 r5 q5 (by simp; omega) q5' (T.keep w5w).errs
    rw [hR.out] at hrd
    unfold ReadAns at hrd
    dsimp only at hrd
    clear HO4 HO5 hb4 hb5 r5 hR hs4
    refine hrd.mono ?_
    clear hrd
    rintro e w6 ⟨h6, A6, c6, rfl, r6⟩
    have b6 := b5.trans (h6.mono s5)
    have w6b := w5b.trans (h6.mono w5b.size)
    have w6w := w5w.trans (h6.mono w5w.size)
    have s6 := w6w.size
    have s6b := w6b.size
    have R6 := R3.out.below b6
    have K6 := K.out (w6.alloc (.cells #[.int .i64 c, .slice A6 L.length c6] 24)) (w6b.alloc s6b _)
    obtain ⟨k0, k1⟩ := K6
    have hS := Lib.hid (fun w h1 h2 => same_walk c c A6 L c6 A L cp w h1 h2 hlA hlA)
    rw [decide_eq_true (⟨rfl, rfl⟩ : c = c ∧ L = L)] at hS
    have hA6 := Lib.hid ((hA.below w6w).mono s6)
    clear b5 s5 w5b w5w h6 R3 hB3 hA
    go_wp2_with fail
    refine (hS.out _ ((r6.below ((Below.refl _ _).alloc (Nat.le_refl _) _)).mono (by simp)) ((hA6.out.below ((Below.refl _ _).alloc (Nat.le_refl _) _)).mono (by simp))).mono ?_
    rintro e w8 ⟨h8, rfl⟩
    have w8w : Below w.heap.size w w8 := (w6w.alloc s6 _).trans (h8.mono (by simp; omega))
    have R8 : RB w8 w8.heap.size (some ⟨b3, f3, none⟩) P := (R6.below (((Below.refl _ _).alloc (Nat.le_trans b6.size (Nat.le_refl _)) _).trans (h8.mono (by simp; have := b6.size; omega)))).mono (by have := h8.size; have := b6.size; simp at *; omega)
    have T8 := T.keep w8w
    clear k0 k1 hS hA6 h8 r6 b6 w6b w6w R6
    by_cases hz : z < 0
    · go_wp2
      go_ret
      exact ⟨w8w, rfl⟩
    · obtain ⟨n, rfl⟩ := Int.eq_ofNat_of_zero_le (Int.not_lt.1 hz)
      clear hz
      by_cases hn : P.length ≤ n
      · have hn2 : (P.length : Int) ≤ (n : Int) := by omega
        clear hn
        go_wp2
        go_ret
        exact ⟨w8w, rfl⟩
      · have hn2 : (n : Int) < (P.length : Int) := by omega
        have hn3 : (n : Int) ≤ (c3 : Int) := by omega
        have hnl : n = (P.take n).length := by rw [List.length_take]; omega
        have hrd := read_walk _ (P.take n) c3 w8 (R8.take n) (by omega) (by omega) (by unfold maxLen; omega) T8.errs
        have hte := hT.out n (by omega)
        rw [← hnl] at hrd
        have HRD := Lib.hid hrd
        clear hT hrd hnl hn
        generalize readP (P.take n) = R at *
        have hte1 : (R.e == 140) = true := by simpa using hte
        have HTE := Lib.hid hte
        clear hte
        go_wp2_with fail
        refine HRD.out.mono ?_
        rintro e w9 ⟨h9, A9, c9, rfl, r9⟩
        go_wp2
        go_ret
        exact ⟨(w8w.trans (h9.mono w8w.size)).alloc (by have := h9.size; have := w8w.size; omega) _, rfl⟩
end Go.Proofs.YteicojighhhgjaaDoor
