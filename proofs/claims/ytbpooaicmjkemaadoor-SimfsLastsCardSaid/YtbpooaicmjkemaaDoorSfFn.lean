/-
  The walks of slices.IndexFunc and ContainsFunc at the program's three predicates (printed by gen_fn.py). Conditions: the lengths.
-/
import Derived.Test.YtbpooaicmjkemaaDoorSfPath
namespace Go.Proofs.YtbpooaicmjkemaaDoor
open Go.RowKit Go.Maps Go.Sort
set_option linter.unusedVariables false
def IdxPost (w : World) (b : Bool) (e : Ending) (w' : World) : Prop := Below w.heap.size w w' ∧ ∃ r : Int, e = .returned (.int .i64 r) ∧ decide (0 ≤ r) = b ∧ r ≤ 9223372036854775807
theorem any_drop {L : List Tx} {P : Tx → Bool} {j : Nat} {l : Tx} (h : L[j]? = some l) : (L.drop j).any P = (P l || (L.drop (j + 1)).any P) := by
  obtain ⟨h1, rfl⟩ := List.getElem?_eq_some_iff.1 h
  rw [List.drop_eq_getElem_cons h1, List.any_cons]
set_option maxHeartbeats 1000000 in
theorem index_leans (w : World) (A : Option Addr) (n c : Nat) (L : List Tx) (P : Tx → Bool) (eb : Nat) (hr : RSx w A L) (hn : n = L.length) (hm : n ≤ 1000000)
    (HP : ∀ (W : World) (p : Tx), Below w.heap.size w W → p ∈ L → Calls Tryd.prog 55 #[.string (bs p), .pointer (some ⟨eb, 0, none⟩)] W fun e w' => e = .returned (.bool (P p)) ∧ Below W.heap.size W w') :
    Calls Tryd.prog 47 #[.slice A n c, .func (.func 55) #[] #[.pointer (some ⟨eb, 0, none⟩)]] w (IdxPost w (L.any P)) := by
  have HR := Lib.hid hr
  have HN := Lib.hid hn
  have HPP := Lib.hid HP
  have HA : Hid (L.any P = (L.drop 0).any P) := Lib.hid rfl
  generalize L.any P = F at *
  clear hr hn HP
  go_enter Tryd.func47, Tryd.ntmps47
  go_wp2_with fail
  go_loopg [5, 8] n (fun k s5 s8 wr => ∃ j : Nat, s8 = .int .i64 (j : Int) ∧ j + k = n ∧ Hid (Below w.heap.size w wr) ∧ Hid (F = (L.drop j).any P))
  case atStart => exact ⟨0, rfl, by omega, Lib.hid (Below.refl _ _), HA⟩
  case round =>
    clear HA
    obtain ⟨j, rfl, hj, HB, HA⟩ := hrel
    by_cases hlt : j < n
    · have hlt1 : (j : Int) < (n : Int) := by omega
      obtain ⟨l, hl⟩ : ∃ l, L[j]? = some l := ⟨_, List.getElem?_eq_getElem (by rw [← HN.out]; exact hlt)⟩
      obtain ⟨b, off, rfl, hbl, hc⟩ : ∃ b off, A = some ⟨b, off, none⟩ ∧ b < w.heap.size ∧ w.cell? ⟨b, off + j, none⟩ = some (.string (bs l)) := by
        rcases HR.out with h | ⟨b, off, h1, h2, h3⟩
        · rw [h] at hl; simp at hl
        · exact ⟨b, off, h1, h2, h3 j l hl⟩
      have k0 := (HB.out.cell (p := ⟨b, off + j, none⟩) hbl).trans hc
      have KK := Lib.hid (HPP.out wr l HB.out (List.mem_of_getElem? hl))
      have HD := Lib.hid (HA.out.trans (any_drop hl))
      clear hl hbl hc HA
      generalize P l = pl at *
      cases pl with
      | true =>
        go_wp2_with fail
        refine KK.out.mono ?_
        rintro e w2 ⟨rfl, hb2⟩
        have HB2 := Lib.hid (HB.out.trans (hb2.mono HB.out.size))
        clear hb2
        go_wp2_with fail
        go_ret
        exact ⟨HB2.out, (j : Int), rfl, by rw [HD.out]; simp, by omega⟩
      | false =>
        have HD2 : Hid (F = (L.drop (j + 1)).any P) := Lib.hid (by rw [HD.out]; simp)
        clear HD
        go_wp2_with fail
        refine KK.out.mono ?_
        rintro e w2 ⟨rfl, hb2⟩
        have HB2 := Lib.hid (HB.out.trans (hb2.mono HB.out.size))
        clear hb2
        go_wp2_with fail
        go_roundg (gk - 1)
        case rel => exact ⟨j + 1, by go_num, by omega, HB2, HD2⟩
        case measure => omega
    · have hlt1 : ¬ (j : Int) < (n : Int) := by omega
      have HF : Hid (F = false) := Lib.hid (by rw [HA.out, List.drop_of_length_le (by rw [← HN.out]; omega)]; rfl)
      clear HA
      go_wp2_with fail
      go_ret
      exact ⟨HB.out, -1, rfl, by rw [HF.out]; rfl, by omega⟩
theorem contains_leans (w : World) (A : Option Addr) (n c : Nat) (L : List Tx) (P : Tx → Bool) (eb : Nat) (hr : RSx w A L) (hn : n = L.length) (hm : n ≤ 1000000)
    (HP : ∀ (W : World) (p : Tx), Below w.heap.size w W → p ∈ L → Calls Tryd.prog 55 #[.string (bs p), .pointer (some ⟨eb, 0, none⟩)] W fun e w' => e = .returned (.bool (P p)) ∧ Below W.heap.size W w') :
    Calls Tryd.prog 20 #[.slice A n c, .func (.func 55) #[] #[.pointer (some ⟨eb, 0, none⟩)]] w fun e w' => Below w.heap.size w w' ∧ e = .returned (.bool (L.any P)) := by
  have K := Lib.hid (index_leans w A n c L P eb hr hn hm HP)
  generalize L.any P = F at *
  clear hr hn HP
  go_enter Tryd.func20, Tryd.ntmps20
  go_wp2_with fail
  refine K.out.mono ?_
  rintro e w2 ⟨hb2, r, rfl, hr, hr2⟩
  have HB2 := Lib.hid hb2
  clear hb2
  go_wp2_with fail
  go_ret
  exact ⟨HB2.out, by first | (rw [← hr]; rfl) | (rw [← hr])⟩
set_option maxHeartbeats 1000000 in
theorem index_sync (w : World) (A : Option Addr) (n c : Nat) (L : List Tx) (P : Tx → Bool) (eb : Nat) (hr : RSx w A L) (hn : n = L.length) (hm : n ≤ 1000000)
    (HP : ∀ (W : World) (p : Tx), Below w.heap.size w W → p ∈ L → Calls Tryd.prog 34 #[.string (bs p), .pointer (some ⟨eb, 0, none⟩)] W fun e w' => e = .returned (.bool (P p)) ∧ Below W.heap.size W w') :
    Calls Tryd.prog 47 #[.slice A n c, .func (.func 34) #[] #[.pointer (some ⟨eb, 0, none⟩)]] w (IdxPost w (L.any P)) := by
  have HR := Lib.hid hr
  have HN := Lib.hid hn
  have HPP := Lib.hid HP
  have HA : Hid (L.any P = (L.drop 0).any P) := Lib.hid rfl
  generalize L.any P = F at *
  clear hr hn HP
  go_enter Tryd.func47, Tryd.ntmps47
  go_wp2_with fail
  go_loopg [5, 8] n (fun k s5 s8 wr => ∃ j : Nat, s8 = .int .i64 (j : Int) ∧ j + k = n ∧ Hid (Below w.heap.size w wr) ∧ Hid (F = (L.drop j).any P))
  case atStart => exact ⟨0, rfl, by omega, Lib.hid (Below.refl _ _), HA⟩
  case round =>
    clear HA
    obtain ⟨j, rfl, hj, HB, HA⟩ := hrel
    by_cases hlt : j < n
    · have hlt1 : (j : Int) < (n : Int) := by omega
      obtain ⟨l, hl⟩ : ∃ l, L[j]? = some l := ⟨_, List.getElem?_eq_getElem (by rw [← HN.out]; exact hlt)⟩
      obtain ⟨b, off, rfl, hbl, hc⟩ : ∃ b off, A = some ⟨b, off, none⟩ ∧ b < w.heap.size ∧ w.cell? ⟨b, off + j, none⟩ = some (.string (bs l)) := by
        rcases HR.out with h | ⟨b, off, h1, h2, h3⟩
        · rw [h] at hl; simp at hl
        · exact ⟨b, off, h1, h2, h3 j l hl⟩
      have k0 := (HB.out.cell (p := ⟨b, off + j, none⟩) hbl).trans hc
      have KK := Lib.hid (HPP.out wr l HB.out (List.mem_of_getElem? hl))
      have HD := Lib.hid (HA.out.trans (any_drop hl))
      clear hl hbl hc HA
      generalize P l = pl at *
      cases pl with
      | true =>
        go_wp2_with fail
        refine KK.out.mono ?_
        rintro e w2 ⟨rfl, hb2⟩
        have HB2 := Lib.hid (HB.out.trans (hb2.mono HB.out.size))
        clear hb2
        go_wp2_with fail
        go_ret
        exact ⟨HB2.out, (j : Int), rfl, by rw [HD.out]; simp, by omega⟩
      | false =>
        have HD2 : Hid (F = (L.drop (j + 1)).any P) := Lib.hid (by rw [HD.out]; simp)
        clear HD
        go_wp2_with fail
        refine KK.out.mono ?_
        rintro e w2 ⟨rfl, hb2⟩
        have HB2 := Lib.hid (HB.out.trans (hb2.mono HB.out.size))
        clear hb2
        go_wp2_with fail
        go_roundg (gk - 1)
        case rel => exact ⟨j + 1, by go_num, by omega, HB2, HD2⟩
        case measure => omega
    · have hlt1 : ¬ (j : Int) < (n : Int) := by omega
      have HF : Hid (F = false) := Lib.hid (by rw [HA.out, List.drop_of_length_le (by rw [← HN.out]; omega)]; rfl)
      clear HA
      go_wp2_with fail
      go_ret
      exact ⟨HB.out, -1, rfl, by rw [HF.out]; rfl, by omega⟩
theorem contains_sync (w : World) (A : Option Addr) (n c : Nat) (L : List Tx) (P : Tx → Bool) (eb : Nat) (hr : RSx w A L) (hn : n = L.length) (hm : n ≤ 1000000)
    (HP : ∀ (W : World) (p : Tx), Below w.heap.size w W → p ∈ L → Calls Tryd.prog 34 #[.string (bs p), .pointer (some ⟨eb, 0, none⟩)] W fun e w' => e = .returned (.bool (P p)) ∧ Below W.heap.size W w') :
    Calls Tryd.prog 20 #[.slice A n c, .func (.func 34) #[] #[.pointer (some ⟨eb, 0, none⟩)]] w fun e w' => Below w.heap.size w w' ∧ e = .returned (.bool (L.any P)) := by
  have K := Lib.hid (index_sync w A n c L P eb hr hn hm HP)
  generalize L.any P = F at *
  clear hr hn HP
  go_enter Tryd.func20, Tryd.ntmps20
  go_wp2_with fail
  refine K.out.mono ?_
  rintro e w2 ⟨hb2, r, rfl, hr, hr2⟩
  have HB2 := Lib.hid hb2
  clear hb2
  go_wp2_with fail
  go_ret
  exact ⟨HB2.out, by first | (rw [← hr]; rfl) | (rw [← hr])⟩
set_option maxHeartbeats 1000000 in
theorem index_new (w : World) (A : Option Addr) (n c : Nat) (L : List Tx) (P : Tx → Bool) (hr : RSx w A L) (hn : n = L.length) (hm : n ≤ 1000000)
    (HP : ∀ (W : World) (p : Tx), Below w.heap.size w W → p ∈ L → Calls Tryd.prog 18 #[.string (bs p)] W fun e w' => e = .returned (.bool (P p)) ∧ Below W.heap.size W w') :
    Calls Tryd.prog 47 #[.slice A n c, .func (.func 18) #[] #[]] w (IdxPost w (L.any P)) := by
  have HR := Lib.hid hr
  have HN := Lib.hid hn
  have HPP := Lib.hid HP
  have HA : Hid (L.any P = (L.drop 0).any P) := Lib.hid rfl
  generalize L.any P = F at *
  clear hr hn HP
  go_enter Tryd.func47, Tryd.ntmps47
  go_wp2_with fail
  go_loopg [5, 8] n (fun k s5 s8 wr => ∃ j : Nat, s8 = .int .i64 (j : Int) ∧ j + k = n ∧ Hid (Below w.heap.size w wr) ∧ Hid (F = (L.drop j).any P))
  case atStart => exact ⟨0, rfl, by omega, Lib.hid (Below.refl _ _), HA⟩
  case round =>
    clear HA
    obtain ⟨j, rfl, hj, HB, HA⟩ := hrel
    by_cases hlt : j < n
    · have hlt1 : (j : Int) < (n : Int) := by omega
      obtain ⟨l, hl⟩ : ∃ l, L[j]? = some l := ⟨_, List.getElem?_eq_getElem (by rw [← HN.out]; exact hlt)⟩
      obtain ⟨b, off, rfl, hbl, hc⟩ : ∃ b off, A = some ⟨b, off, none⟩ ∧ b < w.heap.size ∧ w.cell? ⟨b, off + j, none⟩ = some (.string (bs l)) := by
        rcases HR.out with h | ⟨b, off, h1, h2, h3⟩
        · rw [h] at hl; simp at hl
        · exact ⟨b, off, h1, h2, h3 j l hl⟩
      have k0 := (HB.out.cell (p := ⟨b, off + j, none⟩) hbl).trans hc
      have KK := Lib.hid (HPP.out wr l HB.out (List.mem_of_getElem? hl))
      have HD := Lib.hid (HA.out.trans (any_drop hl))
      clear hl hbl hc HA
      generalize P l = pl at *
      cases pl with
      | true =>
        go_wp2_with fail
        refine KK.out.mono ?_
        rintro e w2 ⟨rfl, hb2⟩
        have HB2 := Lib.hid (HB.out.trans (hb2.mono HB.out.size))
        clear hb2
        go_wp2_with fail
        go_ret
        exact ⟨HB2.out, (j : Int), rfl, by rw [HD.out]; simp, by omega⟩
      | false =>
        have HD2 : Hid (F = (L.drop (j + 1)).any P) := Lib.hid (by rw [HD.out]; simp)
        clear HD
        go_wp2_with fail
        refine KK.out.mono ?_
        rintro e w2 ⟨rfl, hb2⟩
        have HB2 := Lib.hid (HB.out.trans (hb2.mono HB.out.size))
        clear hb2
        go_wp2_with fail
        go_roundg (gk - 1)
        case rel => exact ⟨j + 1, by go_num, by omega, HB2, HD2⟩
        case measure => omega
    · have hlt1 : ¬ (j : Int) < (n : Int) := by omega
      have HF : Hid (F = false) := Lib.hid (by rw [HA.out, List.drop_of_length_le (by rw [← HN.out]; omega)]; rfl)
      clear HA
      go_wp2_with fail
      go_ret
      exact ⟨HB.out, -1, rfl, by rw [HF.out]; rfl, by omega⟩
theorem contains_new (w : World) (A : Option Addr) (n c : Nat) (L : List Tx) (P : Tx → Bool) (hr : RSx w A L) (hn : n = L.length) (hm : n ≤ 1000000)
    (HP : ∀ (W : World) (p : Tx), Below w.heap.size w W → p ∈ L → Calls Tryd.prog 18 #[.string (bs p)] W fun e w' => e = .returned (.bool (P p)) ∧ Below W.heap.size W w') :
    Calls Tryd.prog 20 #[.slice A n c, .func (.func 18) #[] #[]] w fun e w' => Below w.heap.size w w' ∧ e = .returned (.bool (L.any P)) := by
  have K := Lib.hid (index_new w A n c L P hr hn hm HP)
  generalize L.any P = F at *
  clear hr hn HP
  go_enter Tryd.func20, Tryd.ntmps20
  go_wp2_with fail
  refine K.out.mono ?_
  rintro e w2 ⟨hb2, r, rfl, hr, hr2⟩
  have HB2 := Lib.hid hb2
  clear hb2
  go_wp2_with fail
  go_ret
  exact ⟨HB2.out, by first | (rw [← hr]; rfl) | (rw [← hr])⟩
end Go.Proofs.YtbpooaicmjkemaaDoor
