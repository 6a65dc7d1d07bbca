/-
  The walk of the law CodecTorn. Its conditions: what the form gives (the tables of the library, the argument's reading).
-/
import Derived.Test.YtliigjmbgbckpaaDoorLawNum
namespace Go.Proofs.YtliigjmbgbckpaaDoor
open Go.RowKit
set_option linter.unusedVariables false

theorem RB.take {w : World} {B : Nat} {A : Option Addr} {l : List UInt8} (h : RB w B A l) (k : Nat) : RB w B A (l.take k) := by
  rcases h with rfl | ⟨b, off, rfl, hb, hc⟩
  · exact .inl (by simp)
  · refine .inr ⟨b, off, rfl, hb, fun i hi => ?_⟩
    rw [List.length_take] at hi
    rw [hc i (by omega)]
    unfold bt
    rw [List.getD_eq_getElem?_getD, List.getD_eq_getElem?_getD, List.getElem?_take_of_lt (by omega)]

theorem numB_pos {n : Int} (h : numE n = 0) : 1 ≤ (numB n).length ∧ (numB n).length ≤ 20 := by
  have hn : ¬ (n < 0 ∨ 9007199254740992 < n) := by
    intro hn; unfold numE at h; rw [if_pos hn] at h; omega
  unfold numB
  rw [if_neg hn, List.length_append]
  have := decDigits_len (u := n.toNat) (by omega)
  simp; omega
theorem textB_pos {s : List UInt8} (h : textE s = 0) : 1 ≤ (textB s).length ∧ (textB s).length ≤ 1048600 := by
  obtain ⟨h1, h2⟩ := text_form h
  have := decDigits_len (u := s.length) (by omega)
  rw [h2, List.length_append, List.length_cons, List.length_append, List.length_singleton]
  omega

set_option maxHeartbeats 2000000 in
theorem lawTorn (n : Int) (s : ByteArray) (cut : Int) (w : World) (T : Tabs w) 
    (h0 : -9223372036854775808 ≤ n) (h1 : n ≤ 9223372036854775807) (hs : s.size ≤ maxLen) (c0 : -9223372036854775808 ≤ cut) (c1 : cut ≤ 9223372036854775807) :
    Calls Tryd.prog 5 #[.int .i64 n, .string s, .int .i64 cut] w fun e w' => Below w.heap.size w w' ∧ e = .returned (.bool true) := by
  go_enter Tryd.func5, Tryd.ntmps5
  go_wp2_with fail
  refine (shown_any w T).mono ?_
  rintro e w1 ⟨hb1, rfl⟩
  have T1 := T.keep hb1
  go_wp2_with fail
  refine (number_any n w1 h0 h1 T1.pow10).mono ?_
  rintro e w2 ⟨hb2, v1, rfl, ho1⟩
  obtain ⟨A1, c1', rfl, hc1, hm1, hr1⟩ := ho1.out
  have T2 := T1.keep hb2
  have hb3 := hb1.trans (hb2.mono hb1.size)
  clear hb1 hb2 T1 ho1
  go_wp2_with fail
  refine (text_any s w2 hs T2.pow10).mono ?_
  rintro e w3 ⟨hb4, v2, rfl, ho2⟩
  obtain ⟨A2, c2, rfl, hc2, hm2, hr2⟩ := ho2.out
  have hr1' := (hr1.below hb4).mono hb4.size
  have hb5 := hb3.trans (hb4.mono hb3.size)
  clear hr1 hb3 hb4 T2 ho2
  by_cases he : numE n = 0
  · by_cases he2 : textE s.data.toList = 0
    · by_cases hcut : cut < 0
      · rw [he, he2]
        clear he he2
        go_wp2
        go_ret
        exact ⟨hb5, rfl⟩
      · have p1 := numB_pos he
        have p2 := textB_pos he2
        have t1 := fun c => number_torn (n := n) (c := c) he
        have t2 := fun c => text_torn (s := s.data.toList) (c := c) he2
        rw [he, he2]
        clear he he2
        generalize numB n = N at *
        generalize textB s.data.toList = S at *
        have q1 : (0 : Int) ≤ cut % (N.length : Int) := Int.emod_nonneg _ (by omega)
        have q2 : cut % (N.length : Int) < (N.length : Int) := Int.emod_lt_of_pos _ (by omega)
        have q3 : (0 : Int) ≤ cut % (S.length : Int) := Int.emod_nonneg _ (by omega)
        have q4 : cut % (S.length : Int) < (S.length : Int) := Int.emod_lt_of_pos _ (by omega)
        obtain ⟨x, hx⟩ := Int.eq_ofNat_of_zero_le q1
        obtain ⟨y, hy⟩ := Int.eq_ofNat_of_zero_le q3
        rw [hx] at q1 q2
        rw [hy] at q3 q4
        have z1 : (N.take x).length = x := by rw [List.length_take]; omega
        have z2 : (S.take y).length = y := by rw [List.length_take]; omega
        unfold maxLen at hm1 hm2
        have u1 := takeNumber_any A1 (N.take x) c1' w3 _ (hr1'.take x) (by rw [z1]; simp only [maxLen]; omega)
        have u2 := takeText_any A2 (S.take y) c2 w3 _ (hr2.take y) (by rw [z2]; simp only [maxLen]; omega) (by rw [z2]; omega) (by simp only [maxLen]; omega)
        rw [t1 x (by omega), z1] at u1
        rw [t2 y (by omega), z2] at u2
        have U1 := Lib.hid u1; have U2 := Lib.hid u2
        clear u1 u2 t1 t2 z1 z2 hr1' hr2
        have b1 : ((N.length : Int) == 0) = false := beq_eq_false_iff_ne.2 (by omega)
        have b2 : ((S.length : Int) == 0) = false := beq_eq_false_iff_ne.2 (by omega)
        have q5 : (x : Int) ≤ (c1' : Int) := by omega
        have q6 : (y : Int) ≤ (c2 : Int) := by omega
        have q7 : (0 : Int) < (N.length : Int) := by omega
        have q8 : (0 : Int) < (S.length : Int) := by omega
        go_wp2_with (first
          | (go_at_call 12; refine U1.out.mono ?_; rintro e w6 ⟨rfl, rfl⟩)
          | (go_at_call 15; refine U2.out.mono ?_; rintro e w7 ⟨rfl, rfl⟩))
        go_ret
        exact ⟨hb5, rfl⟩
    · have he' := Lib.hid he2
      rw [he]
      clear he he2
      generalize textE s.data.toList = E at *
      have e2 : (E != 0) = true := by simpa using he'.out
      go_wp2
      go_ret
      exact ⟨hb5, rfl⟩
  · have he' := Lib.hid he
    clear he
    generalize numE n = E at *
    have e2 : (E != 0) = true := by simpa using he'.out
    go_wp2
    go_ret
    exact ⟨hb5, rfl⟩
end Go.Proofs.YtliigjmbgbckpaaDoor
