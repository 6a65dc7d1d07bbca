/-
  The walk of the law CodecNumbers. Its conditions: what the form gives (the tables of the library, the argument's reading).
-/
import Derived.Test.YtliigjmbgbckpaaDoorShown
import Derived.Test.YtliigjmbgbckpaaDoorPlain
namespace Go.Proofs.YtliigjmbgbckpaaDoor
open Go.RowKit
set_option linter.unusedVariables false

theorem cvRB {w : World} {B : Nat} {A : Option Addr} {l : List UInt8} (h : RB w B A l) (n c : Nat) (hn : n = l.length) :
    (convert 22 9 (.slice A n c)).run Tryd.prog w = .ok (.string ⟨l.toArray⟩) w :=
  run_convRB (P := Tryd.prog) 22 9 5 Tryd.underlying22 Tryd.underlying5 Tryd.underlying9 h n c hn

set_option maxHeartbeats 2000000 in
theorem lawNumbers (n : Int) (A : Option Addr) (l : List UInt8) (cp : Nat) (w : World) (T : Tabs w) (h : RB w w.heap.size A l) (hl : l.length ≤ 140737488351232)
    (h0 : -9223372036854775808 ≤ n) (h1 : n ≤ 9223372036854775807) :
    Calls Tryd.prog 3 #[.int .i64 n, .slice A l.length cp] w fun e w' => Below w.heap.size w w' ∧ e = .returned (.bool true) := by
  go_enter Tryd.func3, Tryd.ntmps3
  go_wp2_with fail
  refine (shown_any w T).mono ?_
  rintro e w1 ⟨hb1, rfl⟩
  have T1 := T.keep hb1
  go_wp2_with fail
  refine (rnumber_any n w1 h0 h1).mono ?_
  rintro e w2 ⟨hb2, v1, rfl, A1, c1, rfl, -, -, hr1⟩
  have T2 := T1.keep hb2
  have hb3 := hb1.trans (hb2.mono hb1.size)
  clear hb1 hb2 T1
  go_wp2_with fail
  refine (number_any n w2 h0 h1 T2.pow10).mono ?_
  rintro e w3 ⟨hb4, v2, rfl, ho2⟩
  obtain ⟨A2, c2, rfl, hc2, hm2, hr2⟩ := ho2.out
  have hr1' := (hr1.below hb4).mono hb4.size
  have hb5 := hb3.trans (hb4.mono hb3.size)
  have T3 := T2.keep hb4
  have h' := (h.below hb5).mono hb5.size
  clear hr1 hb3 hb4 T2 ho2
  have k1 := cvRB hr1' _ c1 rfl
  have k2 := cvRB hr2 _ c2 rfl
  by_cases he : numE n = 0
  · have hbk := number_back (rest := l) he
    have hle := congrArg List.length (show numB n = numB n from rfl)
    rw [he]
    have hnl : (numB n).length ≤ 20 := by
      unfold numE at he
      unfold numB
      by_cases hn : n < 0 ∨ 9007199254740992 < n
      · rw [if_pos hn]; simp
      · rw [if_neg hn, List.length_append]
        have := decDigits_len (u := n.toNat) (by omega)
        simp; omega
    generalize numB n = N at *
    have HB := Lib.hid hbk
    clear hbk hle he
    have hs3 := hb5.size
    have HR := Lib.hid hr2; clear hr2
    go_wp2_with (first
      | (at_builtin; refine wpList_appB _ u8 (.tmp 41) (.tmp 42) rfl rfl w.heap.size rfl (OwnB.made _ _ _ hs3) N.length c2 rfl rfl (HR.out.alloc (Nat.le_refl _) _) (by first | omega | (simp; omega)) (by first | omega | (simp; omega)) ?_; intro v4 w4 ho4 hb6; rw [List.nil_append] at ho4; have HO4 := Lib.hid ho4; clear ho4; have hs4 := hb6.size; simp only [World.size_alloc] at hs4)
      | (at_builtin; refine wpList_appB _ u8 (.tmp 43) (.tmp 44) rfl rfl w.heap.size rfl HO4.out l.length cp rfl rfl (h.below ((hb5.alloc hs3 _).trans hb6)) (by first | omega | (simp; omega)) (by omega) ?_; intro v5 w5 ho5 hb7; obtain ⟨M, hM⟩ : ∃ M, N ++ l = M := ⟨_, rfl⟩; rw [hM] at ho5; have HM := Lib.hid hM; clear hM; obtain ⟨A5, c5, rfl, hc5, hm5, hr5⟩ := ho5.out; have HR5 := Lib.hid hr5; clear hr5 ho5)
      | (go_at_call 12; rw [HM.out] at HB; have t1 := takeNumber_any A5 M c5 w5 _ HR5.out (by rw [← HM.out]; simp [maxLen]; omega); rw [HB.out] at t1; refine t1.mono ?_; clear t1; rintro e w6 ⟨rfl, rfl⟩))
    go_ret
    exact ⟨((hb5.alloc hs3 _).trans hb6).trans hb7, rfl⟩
  · have he' := Lib.hid he
    generalize numE n = E at *
    have e1 : (E == 0) = false := by simpa using he'.out
    have e2 : (E != 0) = true := by simpa using he'.out
    clear he
    go_wp2
    go_ret
    exact ⟨hb5, rfl⟩
end Go.Proofs.YtliigjmbgbckpaaDoor
