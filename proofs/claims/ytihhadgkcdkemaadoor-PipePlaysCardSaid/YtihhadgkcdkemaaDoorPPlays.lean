/-
  The walk of the law PipePlays. Conditions: the sizes.
-/
import Derived.Test.YtihhadgkcdkemaaDoorPDoes
import Derived.Test.YtihhadgkcdkemaaDoorPLooks
import Derived.Test.YtihhadgkcdkemaaDoorPShown
namespace Go.Proofs.YtihhadgkcdkemaaDoor
open Go.RowKit Go.Maps
set_option linter.unusedVariables false
/-- a deed as it lies in memory -/
structure Dd where
  k : Int
  f : ByteArray
  t : ByteArray
  m : Int
  A : Option Addr
  l : List UInt8
  c : Nat
/-- the deed at one place -/
structure RDd (w : World) (B : Nat) (b off : Nat) (x : Dd) : Prop where
  c0 : w.cell? ⟨b, off, none⟩ = some (.int .i64 x.k)
  c1 : w.cell? ⟨b, off + 1, none⟩ = some (.string x.f)
  c2 : w.cell? ⟨b, off + 2, none⟩ = some (.string x.t)
  c3 : w.cell? ⟨b, off + 3, none⟩ = some (.int .i64 x.m)
  c4 : w.cell? ⟨b, off + 4, none⟩ = some (.slice x.A x.l.length x.c)
  rb : RB w B x.A x.l
  nil : x.A = none → x.l.length = 0
  f_le : x.f.size ≤ maxLen
  t_le : x.t.size ≤ maxLen
  m1 : -9223372036854775808 ≤ x.m
  m2 : x.m ≤ 9223372036854775807
  le : x.l.length ≤ 140737488351232
def RDs (w : World) (B : Nat) (A : Option Addr) (D : List Dd) : Prop :=
  D = [] ∨ ∃ b off, A = some ⟨b, off, none⟩ ∧ b < B ∧ ∀ (i : Nat) (x : Dd), D[i]? = some x → RDd w B b (off + i * 5) x
theorem RDd.below {w w' : World} {B b off : Nat} {x : Dd} (h : RDd w B b off x) (hb : b < B) (hw : Below B w w') : RDd w' B b off x :=
  ⟨(hw.cell (p := ⟨b, off, none⟩) hb).trans h.c0, (hw.cell (p := ⟨b, off + 1, none⟩) hb).trans h.c1, (hw.cell (p := ⟨b, off + 2, none⟩) hb).trans h.c2, (hw.cell (p := ⟨b, off + 3, none⟩) hb).trans h.c3, (hw.cell (p := ⟨b, off + 4, none⟩) hb).trans h.c4, h.rb.below hw, h.nil, h.f_le, h.t_le, h.m1, h.m2, h.le⟩
set_option maxRecDepth 100000 in
set_option maxHeartbeats 4000000 in
theorem plays_walk (w : World) (A : Option Addr) (D : List Dd) (n c : Nat) (hn : n = D.length) (hD : RDs w w.heap.size A D) (hb : n ≤ 140737488351232) :
    Calls Tryd.prog 4 #[.slice A n c] w fun e w' => Below w.heap.size w w' ∧ e = .returned (.bool true) := by
  have HN := Lib.hid hn
  have HD := Lib.hid hD
  have KS := Lib.hid (shown_walk w)
  clear hn hD
  go_enter Tryd.func4, Tryd.ntmps4
  go_wp2_with fail
  with_reducible refine KS.out.mono ?_
  rintro e1 w1 ⟨hb1, rfl⟩
  have HB1 := Lib.hid hb1
  have KN := Lib.hid (new_walk w1 fun _ => (0, 0))
  clear hb1 KS
  go_wp2_with fail
  with_reducible refine KN.out.mono ?_
  rintro e2 w2 ⟨own2, pb, hP, hT, rfl⟩
  have HP2 := Lib.hid hP
  have HB2 := Lib.hid (HB1.out.trans (hT.below HB1.out.size (fun _ _ => rfl) isP0))
  have HZ2 := Lib.hid (hT.zero HB1.out.size (fun _ _ => rfl) isP0)
  have KR := Lib.hid (rnew_walk w2 own2)
  clear hP hT KN HB1
  go_wp2_with fail
  with_reducible refine KR.out.mono ?_
  rintro e3 w3 ⟨own3, rb, hR, hT, rfl⟩
  have HI3 : Hid (Both w w3 w.heap.size own3 pb rb [] []) := Lib.hid ⟨HP2.out.turn hT fun t a b => isR_lt b, hR, HB2.out.trans (hT.below HB2.out.size HZ2.out isR0), Nat.le_trans HB2.out.size hT.size, hT.zero HB2.out.size HZ2.out isR0⟩
  clear hR hT KR HB2 HZ2 HP2
  go_wp2_with fail
  go_loopg [6, 7, 8] n (fun q s6 s7 s8 wr => ∃ (j : Nat) (S : List Pq) (own : Nat → Nat × Nat), j + q = n ∧ s6 = .int .i64 (j : Int) ∧ Hid (S.length ≤ j ∧ j ≤ 300) ∧ Hid (Both w wr w.heap.size own pb rb S S))
  case atStart => exact ⟨0, [], own3, by omega, rfl, Lib.hid ⟨Nat.le_refl _, by omega⟩, HI3⟩
  case round =>
    obtain ⟨j, S, own, hj, rfl, HS, HI⟩ := hrel
    clear HI3
    by_cases hlt : j < n
    · have hj1 : (j : Int) < (n : Int) := by omega
      have hj2 : (0 : Int) ≤ (j : Int) := by omega
      by_cases h300 : j < 300
      · have h3 : (j : Int) < 300 := by omega
        obtain ⟨x, hx⟩ : ∃ x, D[j]? = some x := ⟨_, List.getElem?_eq_getElem (by have := HN.out; omega)⟩
        have hb2 : ∃ b off, A = some ⟨b, off, none⟩ ∧ b < w.heap.size ∧ RDd w w.heap.size b (off + j * 5) x := by
          rcases HD.out with h | ⟨b, off, e, hb, h⟩
          · rw [h] at hx; simp at hx
          · exact ⟨b, off, e, hb, h j x hx⟩
        obtain ⟨b, off, rfl, hbl, hR⟩ := hb2
        have HRw := Lib.hid (hR.below hbl HI.out.b)
        have HBL := Lib.hid hbl
        have HRo := Lib.hid hR
        clear hx hbl hR
        have x0 := HRw.out.c0
        have x1 := HRw.out.c1
        have x2 := HRw.out.c2
        have x3 := HRw.out.c3
        have x4 := HRw.out.c4
        have KD := Lib.hid (does_walk w wr w.heap.size own pb rb S HI.out (by have := HS.out; omega) x.k x.f x.t HRw.out.f_le HRw.out.t_le x.m HRw.out.m1 HRw.out.m2 x.A x.l x.l.length x.c rfl HRw.out.rb HRw.out.nil HRw.out.le)
        go_wp2_with fail
        with_reducible refine KD.out.mono ?_
        rintro e4 w4 ⟨own4, hI4, rfl⟩
        have HI4 := Lib.hid hI4
        have HR4 := Lib.hid (HRo.out.below HBL.out hI4.b)
        have HS4 : Hid ((doQ S x.k x.f x.t x.m x.l).length ≤ j + 1) := Lib.hid (by have := doQ_len S x.k x.f x.t x.m x.l; have := HS.out; omega)
        clear hI4 KD x0 x1 x2 x3 x4 HI HRw
        generalize doQ S x.k x.f x.t x.m x.l = S4 at *
        have x0 := HR4.out.c0
        have x1 := HR4.out.c1
        have x2 := HR4.out.c2
        have x3 := HR4.out.c3
        have x4 := HR4.out.c4
        have KL := Lib.hid (looks_walk w w4 w.heap.size own4 pb rb S4 HI4.out (by have := HS4.out; omega) x.k x.f x.t HR4.out.f_le HR4.out.t_le x.m x.A x.l.length x.c)
        go_wp2_with fail
        with_reducible refine KL.out.mono ?_
        rintro e5 w5 ⟨own5, hI5, rfl⟩
        have HI5 := Lib.hid hI5
        clear hI5 KL x0 x1 x2 x3 x4
        go_wp2_with fail
        go_roundg (gk - 1)
        case rel => exact ⟨j + 1, S4, own5, by omega, by go_num, Lib.hid ⟨HS4.out, by omega⟩, HI5⟩
        case measure => omega
      · have h3 : ¬ (j : Int) < 300 := by omega
        clear hj
        go_wp2_with fail
        go_ret
        exact ⟨HI.out.b, rfl⟩
    · have hj1 : ¬ (j : Int) < (n : Int) := by omega
      clear hj
      go_wp2_with fail
      go_ret
      exact ⟨HI.out.b, rfl⟩
end Go.Proofs.YtihhadgkcdkemaaDoor
