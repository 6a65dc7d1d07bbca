/-
  The walk of the law's own words. Conditions: a text's length.
-/
import Derived.Test.YtgbbadbffcjamaaDoorHdRW
import Derived.Test.YtgbbadbffcjamaaDoorHdAd
namespace Go.Proofs.YtgbbadbffcjamaaDoor
open Go.RowKit Go.Sort
set_option linter.unusedVariables false
theorem lenW_join : ∀ ws : List (List UInt8), (spW ws).length = lenW ws + ws.length
  | [] => rfl
  | x :: r => by
    rw [spW, List.length_cons, List.length_append, lenW_join r, List.length_cons]
    have e : lenW (x :: r) = x.length + lenW r := rfl
    omega
set_option maxHeartbeats 1000000 in
theorem lwords_walk (s : ByteArray) (w : World) (hs : s.size ≤ 2000000) :
    Calls Tryd.prog 20 #[.string s] w fun e w' => Below w.heap.size w w' ∧ e = .returned (.string ⟨(joinSp (wordsL s.data.toList)).toArray⟩) := by
  have KW := Lib.hid (rwords_walk s w (by omega))
  unfold RWords at KW
  obtain ⟨Ws, hWs⟩ : ∃ Ws, wordsL s.data.toList = Ws := ⟨_, rfl⟩
  have hWn : Ws.length ≤ 2000000 := by have := (wordsA_len s.data.toList []).2; rw [← hWs]; unfold wordsL; simp at this; omega
  have hlW : lenW Ws ≤ 2000000 := by have := (wordsA_len s.data.toList []).1; rw [← hWs]; unfold wordsL; rw [← Lib.size_eq] at this; simp at this; omega
  rw [hWs] at KW ⊢
  have HJ : Hid ((joinSp Ws).length ≤ 4000000) := Lib.hid (by cases Ws with | nil => simp [joinSp] | cons x r => have := lenW_join r; have e : lenW (x :: r) = x.length + lenW r := rfl; simp [joinSp] at hWn ⊢; omega)
  clear hWs hlW
  go_enter Tryd.func20, Tryd.ntmps20
  go_wp2_with fail
  with_reducible refine KW.out.mono ?_
  rintro e1 w1 ⟨hb1, v, rfl, hO⟩
  obtain ⟨A, c, rfl, hcl9, hcm9, hr⟩ := hO.out
  rw [List.length_map] at hcl9 ⊢
  obtain ⟨n, hn⟩ : ∃ n, n = Ws.length := ⟨_, rfl⟩
  rw [← hn]
  have HN := Lib.hid hn
  have HB := Lib.hid hb1
  have HR := Lib.hid hr
  have hnn : n ≤ 2000000 := by omega
  clear hn hO hb1 hr KW hcl9 hcm9
  go_wp2_with fail
  go_loopg [4, 5] n (fun k s4 s5 wr => w1 = wr ∧ ∃ (j : Nat) (acc : ByteArray), j + k = n ∧ s5 = .int .i64 (j : Int) ∧ s4 = .string acc ∧ Hid ((j = 0 ∧ acc.data.toList = []) ∨ (0 < j ∧ acc.data.toList ++ spW (Ws.drop j) = joinSp Ws)))
  case atStart => exact ⟨rfl, 0, ⟨#[]⟩, by omega, rfl, rfl, Lib.hid (.inl ⟨rfl, rfl⟩)⟩
  case round =>
    obtain ⟨rfl, j, acc, hj, rfl, rfl, H⟩ := hrel
    by_cases hlt : j < n
    · have hj1 : (j : Int) < (n : Int) := by omega
      obtain ⟨x, hx⟩ : ∃ x, Ws[j]? = some x := ⟨_, List.getElem?_eq_getElem (by rw [← HN.out]; exact hlt)⟩
      have hdr : Ws.drop j = x :: Ws.drop (j + 1) := by
        obtain ⟨h9, rfl⟩ := List.getElem?_eq_some_iff.1 hx
        exact List.drop_eq_getElem_cons h9
      have hjm : j < (Ws.map mkS).length := by rw [List.length_map, ← HN.out]; exact hlt
      obtain ⟨b, off, rfl, -, hcl⟩ := HR.out.at_ (j := j) hjm
      have cx := hcl j hjm
      have hst : st (Ws.map mkS) j = mkS x := by rw [st_getElem hjm]; simp only [List.getElem_map]; congr 1; exact (List.getElem?_eq_some_iff.1 hx).2
      rw [hst] at cx
      by_cases h0 : j = 0
      · subst h0
        have HE : Hid ((acc ++ mkS x).data.toList ++ spW (Ws.drop 1) = joinSp Ws) := Lib.hid (by
          rcases H.out with ⟨_, h2⟩ | ⟨h1, _⟩
          · have : Ws = x :: Ws.drop 1 := by have := hdr; rwa [List.drop_zero] at this
            rw [app_list, h2]
            conv => rhs; rw [this]
            rfl
          · omega)
        have hsz : acc.size + (mkS x).size ≤ 9223372036854775807 := by
          have := congrArg List.length HE.out
          have hJ := HJ.out
          rw [app_list, List.length_append, List.length_append, ← Lib.size_eq, ← Lib.size_eq] at this
          omega
        simp only [Nat.add_zero] at cx
        clear H hdr hx hst hcl
        generalize mkS x = sX at *
        go_wp2
        go_roundg (n - 1)
        case rel => exact ⟨rfl, 1, _, by omega, by go_num, rfl, Lib.hid (.inr ⟨by omega, HE.out⟩)⟩
        case measure => omega
      · have hj0 : (0 : Int) < (j : Int) := by omega
        have HE : Hid ((acc ++ ⟨#[32]⟩ ++ mkS x).data.toList ++ spW (Ws.drop (j + 1)) = joinSp Ws) := Lib.hid (by
          rcases H.out with ⟨h1, _⟩ | ⟨_, h2⟩
          · exact absurd h1 h0
          · rw [← h2, hdr, app_list, app_list, spW]
            show _ ++ [32] ++ x ++ _ = _
            simp)
        have hsz : acc.size + 1 + (mkS x).size ≤ 9223372036854775807 := by
          have := congrArg List.length HE.out
          have hJ := HJ.out
          rw [app_list, app_list, List.length_append, List.length_append, List.length_append, ← Lib.size_eq, ← Lib.size_eq, ← Lib.size_eq] at this
          have h1 : (⟨#[32]⟩ : ByteArray).size = 1 := rfl
          omega
        have hsz0 : acc.size + 1 ≤ 9223372036854775807 := by omega
        have hsz1 : (acc ++ ⟨#[32]⟩).size + (mkS x).size ≤ 9223372036854775807 := by rw [ByteArray.size_append]; exact hsz
        clear H hdr hx hst hcl
        generalize mkS x = sX at *
        go_wp2
        go_roundg (n - (j + 1))
        case rel => exact ⟨rfl, j + 1, _, by omega, by go_num, rfl, Lib.hid (.inr ⟨by omega, HE.out⟩)⟩
        case measure => omega
    · have hj1 : ¬ (j : Int) < (n : Int) := by omega
      have HE : Hid (acc.data.toList = joinSp Ws) := Lib.hid (by
        rcases H.out with ⟨h1, h2⟩ | ⟨_, h2⟩
        · have : Ws = [] := List.eq_nil_of_length_eq_zero (by rw [← HN.out]; omega)
          rw [h2, this]; rfl
        · rw [List.drop_of_length_le (by rw [← HN.out]; omega)] at h2
          simpa [spW] using h2)
      clear H
      go_wp2
      go_ret
      exact ⟨HB.out, ret_str HE.out⟩
end Go.Proofs.YtgbbadbffcjamaaDoor
