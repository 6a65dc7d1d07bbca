/-
  The walk of the statement ReplyApart. No condition but the sizes that the form gives, and what the table of powers of ten holds.
-/
import Derived.Test.YteicojighhhgjaaDoorApart
import Derived.Test.YteicojighhhgjaaDoorSame
import Derived.Test.YteicojighhhgjaaDoorMore
namespace Go.Proofs.YteicojighhhgjaaDoor
open Go.RowKit Go.Sort
set_option linter.unusedVariables false

set_option maxHeartbeats 2000000 in
theorem apart_walk (c : Int) (A : Option Addr) (L : List ByteArray) (cp : Nat) (d : Int) (B : Option Addr) (M : List ByteArray) (cq : Nat) (w : World) (hA : RS w w.heap.size A L) (hl : L.length ≤ maxLen) (hs : ∀ s ∈ L, s.size ≤ maxLen)
    (hB : RS w w.heap.size B M) (hm : M.length ≤ maxLen) (hs' : ∀ s ∈ M, s.size ≤ maxLen) (T : Pow10 w) :
    Calls Tryd.prog 4 #[.agg #[.int .i64 c, .slice A L.length cp], .agg #[.int .i64 d, .slice B M.length cq]] w fun e w' => Below w.heap.size w w' ∧ e = .returned (.bool true) := by
  have hb0 : Below w.heap.size w ((w.alloc (.cells #[.int .i64 c, .slice A L.length cp] 24)).alloc (.cells #[.int .i64 d, .slice B M.length cq] 24)) := ((Below.refl _ _).alloc (Nat.le_refl _) _).alloc (by simp) _
  have hblk0 : Blk ((w.alloc (.cells #[.int .i64 c, .slice A L.length cp] 24)).alloc (.cells #[.int .i64 d, .slice B M.length cq] 24)) w.heap.size 24 #[.int .i64 c, .slice A L.length cp] := (Blk.new w _ _).alloc _
  have hblk1 : Blk ((w.alloc (.cells #[.int .i64 c, .slice A L.length cp] 24)).alloc (.cells #[.int .i64 d, .slice B M.length cq] 24)) (w.heap.size + 1) 24 #[.int .i64 d, .slice B M.length cq] := by
    have := Blk.new (w.alloc (.cells #[.int .i64 c, .slice A L.length cp] 24)) 24 #[.int .i64 d, .slice B M.length cq]
    simpa using this
  generalize hw0 : (w.alloc (.cells #[.int .i64 c, .slice A L.length cp] 24)).alloc (.cells #[.int .i64 d, .slice B M.length cq] 24) = w0 at hb0 hblk0 hblk1
  have k : ∀ w', Below w0.heap.size w0 w' → (w'.cell? ⟨w.heap.size, 0, none⟩ = some (.int .i64 c) ∧ w'.cell? ⟨w.heap.size, 1, none⟩ = some (.slice A L.length cp)) ∧ (w'.cell? ⟨w.heap.size + 1, 0, none⟩ = some (.int .i64 d) ∧ w'.cell? ⟨w.heap.size + 1, 1, none⟩ = some (.slice B M.length cq)) :=
    fun w' hb => ⟨⟨(hblk0.keep hb).cell 0, (hblk0.keep hb).cell 1⟩, ⟨(hblk1.keep hb).cell 0, (hblk1.keep hb).cell 1⟩⟩
  have K := Lib.hid k; clear k hblk0 hblk1
  go_enter Tryd.func4, Tryd.ntmps4
  go_wp2_with fail
  refine (awake_walk w0 (T.keep hb0)).mono ?_
  rintro e w1 ⟨h1, rfl⟩
  have s1 := h1.size
  obtain ⟨⟨c0, c1⟩, c2, c3⟩ := K.out w1 h1
  have hw1 := hb0.trans (h1.mono hb0.size)
  go_wp2_with fail
  refine (print_walk c A L cp w1 ((hA.below hw1).mono hw1.size) hl hs (T.keep hw1)).mono ?_
  rintro e w2 ⟨h2', v2, rfl, o2⟩
  have h2 : Below w0.heap.size w0 w2 := h1.trans (h2'.mono s1)
  have s2 := h2.size
  clear c0 c1 c2 c3
  obtain ⟨⟨c0, c1⟩, c2, c3⟩ := K.out w2 h2
  have hw2 := hb0.trans (h2.mono hb0.size)
  go_wp2_with fail
  refine (print_walk d B M cq w2 ((hB.below hw2).mono hw2.size) hm hs' (T.keep hw2)).mono ?_
  rintro e w3 ⟨h3', v3, rfl, o3⟩
  have h3 : Below w0.heap.size w0 w3 := h2.trans (h3'.mono s2)
  have s3 := h3.size
  have hw3 := hb0.trans (h3.mono hb0.size)
  have hfin := hw3
  have O2 := o2.below h3'
  clear c0 c1 c2 c3 o2
  cases hr : rightOk c L
  · have e1 : prtE c L = 141 := by unfold prtE; rw [hr]; rfl
    rw [e1]
    clear hr
    generalize prtE d M = q at *
    go_wp2
    all_goals
      go_ret
      exact ⟨hfin, rfl⟩
  cases hr' : rightOk d M
  · have e1 : prtE c L = 0 := by unfold prtE; rw [hr]; rfl
    have e2 : prtE d M = 141 := by unfold prtE; rw [hr']; rfl
    rw [e1, e2]
    clear hr hr'
    go_wp2
    all_goals
      go_ret
      exact ⟨hfin, rfl⟩
  · have e1 : prtE c L = 0 := by unfold prtE; rw [hr]; rfl
    have e2 : prtE d M = 0 := by unfold prtE; rw [hr']; rfl
    have e3 : prtB c L = prt (dig3 c) L := by unfold prtB; rw [hr]; rfl
    have e4 : prtB d M = prt (dig3 d) M := by unfold prtB; rw [hr']; rfl
    have hlaw : prt (dig3 c) L <+: prt (dig3 d) M → (c = d ∧ L = M) ∧ prt (dig3 c) L = prt (dig3 d) M := fun h => by
      obtain ⟨rfl, rfl⟩ := apart_law hr hr' h
      exact ⟨⟨rfl, rfl⟩, rfl⟩
    have hp1 := prt_pos hr
    have hp2 := prt_pos hr'
    rw [e1, e2]
    rw [e3] at O2
    rw [e4] at o3
    obtain ⟨A2, c2, rfl, hq2, -, r2⟩ := O2.out
    obtain ⟨A3, c3, rfl, hq3, -, r3⟩ := o3.out
    clear O2 o3 hr hr' e1 e2 e3 e4
    generalize prt (dig3 c) L = l at *
    generalize prt (dig3 d) M = m at *
    obtain ⟨b2, o2, rfl⟩ := r2.some_ hp1
    obtain ⟨b3, o3, rfl⟩ := r3.some_ hp2
    by_cases hle : l.length ≤ m.length
    · have q1 := fun n => cvRB ((r3.take l.length).drewN n) l.length c3 (by rw [List.length_take]; omega)
      have q2 := fun n => cvRB (r2.drewN n) l.length c2 rfl
      have hle2 : (l.length : Int) ≤ (m.length : Int) := by omega
      have hlc : l.length ≤ c3 := by omega
      have hdd : ¬ m.length < l.length := by omega
      have hde : decide (m.length < l.length) = false := decide_eq_false hdd
      have hlc2 : (l.length : Int) ≤ (c3 : Int) := by omega
      by_cases hpre : m.take l.length = l
      · obtain ⟨⟨rfl, rfl⟩, rfl⟩ := hlaw ⟨m.drop l.length, by rw [← hpre, List.length_take, Nat.min_eq_left hle, List.take_append_drop]⟩
        rw [hpre] at q1
        clear hlaw hpre
        obtain ⟨⟨k0, k1⟩, k2, k3⟩ := K.out w3 h3
        have hsm := fun n => same_walk c c A L cp B L cq (w3.drewN n) (RS.mono (((hA.below hw3)).keep (Nat.le_refl _) (fun _ _ => rfl)) hw3.size) (RS.mono (((hB.below hw3)).keep (Nat.le_refl _) (fun _ _ => rfl)) hw3.size) hl hl
        rw [show decide (c = c ∧ L = L) = true by simp] at hsm
        go_wp2
        go_quiet (fail)
        go_wp2_with fail
        refine (hsm _).mono ?_
        rintro e w4 ⟨h4, rfl⟩
        go_wp2
        go_ret
        exact ⟨(bdrewN hfin _).trans (h4.mono hw3.size), rfl⟩
      · have hne : (m.take l.length == l) = false := beq_eq_false_iff_ne.2 hpre
        have Hp := Lib.hid hpre; clear hpre
        clear hlaw
        generalize m.take l.length = mt at *
        go_wp2
        go_quiet (fail)
        go_wp2
        go_ret
        exact ⟨bdrewN hfin _, rfl⟩
    · have hle2 : (m.length : Int) < (l.length : Int) := by omega
      have hdd : m.length < l.length := by omega
      have hde : decide (m.length < l.length) = true := decide_eq_true hdd
      clear hlaw hle
      go_wp2
      go_quiet (fail)
      go_wp2
      go_ret
      exact ⟨bdrewN hfin _, rfl⟩
end Go.Proofs.YteicojighhhgjaaDoor
