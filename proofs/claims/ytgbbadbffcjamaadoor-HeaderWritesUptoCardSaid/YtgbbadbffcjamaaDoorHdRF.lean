/-
  The walk of waybillref11's Fold. Conditions: the sizes.
-/
import Derived.Test.YtgbbadbffcjamaaDoorHdRW
import Derived.Test.YtgbbadbffcjamaaDoorHdLW
import Derived.Test.YtgbbadbffcjamaaDoorHdFo
namespace Go.Proofs.YtgbbadbffcjamaaDoor
open Go.RowKit Go.Sort
set_option linter.unusedVariables false
theorem foldF_T {Ws : List (List UInt8)} {c : Nat} : ∀ x r, Ws = x :: r → foldF c Ws = x ++ foldW (c + x.length) r := fun x r h => by rw [h]; rfl
set_option maxRecDepth 100000 in
set_option maxHeartbeats 2000000 in
theorem rfold_walk (s : ByteArray) (cl : Int) (w : World) (hs : s.size ≤ 2000000) (hc1 : -9223372036854775808 ≤ cl) (hc2 : cl ≤ 9223372036854775807) :
    Calls Tryd.prog 34 #[.string s, .int .i64 cl] w fun e w' => Below w.heap.size w w' ∧ e = .returned (.string ⟨(fold11 s.data.toList cl).toArray⟩) := by
  have KW := Lib.hid (rwords_walk s w (by omega))
  unfold RWords at KW
  have hfl := fold11_len s.data.toList cl
  rw [← Lib.size_eq] at hfl
  unfold fold11 at hfl ⊢
  obtain ⟨Ws, hWs⟩ : ∃ Ws, wordsL s.data.toList = Ws := ⟨_, rfl⟩
  have hWn : Ws.length ≤ 2000000 := by have := (wordsA_len s.data.toList []).2; rw [← hWs]; unfold wordsL; simp at this; omega
  rw [hWs] at KW hfl ⊢
  obtain ⟨c0, hc0⟩ : ∃ c0, c0 = col0 cl := ⟨_, rfl⟩
  rw [← hc0] at hfl ⊢
  obtain ⟨T, hT⟩ : ∃ T, T = foldF c0 Ws := ⟨_, rfl⟩
  rw [← hT] at hfl ⊢
  have HT := Lib.hid hT
  have hcl : c0 ≤ 78 := by rw [hc0]; unfold col0; omega
  have hcI : min (max 0 cl) 78 = (c0 : Int) := by rw [hc0]; unfold col0; omega
  clear hWs hc0 hT
  go_enter Tryd.func34, Tryd.ntmps34
  go_wp2_with fail
  with_reducible refine KW.out.mono ?_
  rintro e1 w1 ⟨hb1, v, rfl, hO⟩
  obtain ⟨A, c, rfl, hcl9, hcm9, hr⟩ := hO.out
  rw [List.length_map] at hcl9 ⊢
  obtain ⟨n, hn⟩ : ∃ n, n = Ws.length := ⟨_, rfl⟩
  rw [← hn]
  have HN := Lib.hid hn
  have HB1 := Lib.hid hb1
  have HR := Lib.hid hr
  have hnn : n ≤ 2000000 := by omega
  clear hn hO hb1 hr KW hcl9 hcm9
  go_wp2_with fail
  go_loopg [1, 6, 7] n (fun k s1 s6 s7 wr => ∃ (j col : Nat) (acc : List UInt8), j + k = n ∧ s7 = .int .i64 (j : Int) ∧ s1 = .int .i64 (col : Int) ∧ col ≤ 78 + acc.length ∧ acc.length ≤ T.length ∧ Hid (OwnB wr w1.heap.size 5 s6 acc) ∧ Hid (Below w1.heap.size w1 wr) ∧ Hid ((j = 0 ∧ acc = [] ∧ col = c0) ∨ (0 < j ∧ acc ++ foldW col (Ws.drop j) = T)))
  case atStart => exact ⟨0, c0, [], by omega, rfl, rfl, by simp; omega, by simp, Lib.hid (OwnB.nil _ _ _), Lib.hid (Below.refl _ _), Lib.hid (.inl ⟨rfl, rfl, rfl⟩)⟩
  case round =>
    obtain ⟨j, col, acc, hj, rfl, rfl, hcb, hab, HO, HB, H⟩ := hrel
    by_cases hlt : j < n
    · have hj1 : (j : Int) < (n : Int) := by omega
      obtain ⟨x, hx⟩ : ∃ x, Ws[j]? = some x := ⟨_, List.getElem?_eq_getElem (by rw [← HN.out]; exact hlt)⟩
      have hdr : Ws.drop j = x :: Ws.drop (j + 1) := by
        obtain ⟨h9, rfl⟩ := List.getElem?_eq_some_iff.1 hx
        exact List.drop_eq_getElem_cons h9
      have hjm : j < (Ws.map mkS).length := by rw [List.length_map, ← HN.out]; exact hlt
      obtain ⟨b, off, rfl, hb, hcl9⟩ := HR.out.at_ (j := j) hjm
      have cx := hcl9 j hjm
      have hst : st (Ws.map mkS) j = mkS x := by rw [st_getElem hjm]; simp only [List.getElem_map]; congr 1; exact (List.getElem?_eq_some_iff.1 hx).2
      rw [hst] at cx
      obtain ⟨sX, hsX⟩ : ∃ sX, sX = mkS x := ⟨_, rfl⟩
      rw [← hsX] at cx
      have hxl : sX.data.toList = x := by rw [hsX]; rfl
      have hxs : sX.size = x.length := by rw [Lib.size_eq, hxl]
      have CX := Lib.hid cx
      have HXL := Lib.hid hxl
      have cr : wr.cell? ⟨b, off + j, none⟩ = some (.string sX) := (HB.out.cell (p := ⟨b, off + j, none⟩) hb).trans cx
      have hbs := HB.out.size
      obtain ⟨S, hS⟩ : ∃ S, S = sX.size := ⟨_, rfl⟩
      by_cases h0 : j = 0
      · subst h0
        obtain ⟨ha, hcc⟩ : acc = [] ∧ col = c0 := by
          rcases H.out with ⟨_, h⟩ | ⟨h, _⟩
          · exact h
          · omega
        subst ha hcc
        have hE : x ++ foldW (col + x.length) (Ws.drop 1) = T := by rw [HT.out]; exact (foldF_T x _ (by have := hdr; rwa [List.drop_zero] at this)).symm
        have hTl := congrArg List.length hE
        rw [List.length_append] at hTl
        have HE : Hid (([] ++ sX.data.toList) ++ foldW (col + S) (Ws.drop 1) = T) := Lib.hid (by rw [hxl, hS, hxs, ← hE]; rfl)
        have hSb : S ≤ T.length := by omega
        have hsz : sX.size ≤ 8000000 := by omega
        have hxT : ([] ++ sX.data.toList).length = S := by rw [hxl, hS, hxs]; rfl
        have HXT := Lib.hid hxT
        have HS := Lib.hid hS
        simp only [Nat.add_zero] at cr cx
        have CX0 := Lib.hid cx
        clear hcl9 hst hsX hxl hxs hdr hx hjm cx H hE hTl hxT hS
        go_wp2_with (at_builtin; go_loud (refine wpList_appS _ u8S Tryd.underlying9 (.tmp 38) (.tmp 42) rfl rfl w1.heap.size rfl HO.out sX rfl (by rw [← HS.out]; simp; omega) hbs ?_); intro v2 w2 ho2 hb2; have HO2 := Lib.hid ho2; have HB2 := Lib.hid (HB.out.trans hb2); have c2 := (HB2.out.cell (p := ⟨b, off, none⟩) hb).trans CX0.out; clear ho2 hb2)
        go_roundg (n - 1)
        case rel =>
          refine ⟨1, col + sX.size, _, by omega, by go_num, ?_, ?_, ?_, HO2, HB2, Lib.hid (.inr ⟨by omega, by rw [← HS.out]; exact HE.out⟩)⟩
          · have h2 := HS.out
            go_num
          · have h1 := HXT.out; have h2 := HS.out; simp only [List.nil_append] at h1 ⊢; omega
          · have h1 := HXT.out; simp only [List.nil_append] at h1 ⊢; omega
        case measure => omega
      · have hj0 : (0 : Int) < (j : Int) := by omega
        have hE : acc ++ foldW col (x :: Ws.drop (j + 1)) = T := by
          rcases H.out with ⟨h, _⟩ | ⟨_, h⟩
          · omega
          · rwa [hdr] at h
        have HS := Lib.hid hS
        by_cases h8 : 78 < col + 1 + S
        · have hE2 : acc ++ [13, 10] ++ [32] ++ x ++ foldW (1 + S) (Ws.drop (j + 1)) = T := by
            rw [← hE, foldW, if_pos (by rw [← hxs, ← hS]; exact h8), hS, hxs]; simp
          have hTl := congrArg List.length hE2
          rw [List.length_append] at hTl
          have hxT : (acc ++ [13, 10] ++ [32] ++ x).length = acc.length + 3 + S := by rw [hS, hxs]; simp; omega
          rw [hxT] at hTl
          have hSb : acc.length + 3 + S ≤ T.length := by omega
          have HE : Hid (acc ++ [13, 10] ++ [32] ++ sX.data.toList ++ foldW (1 + S) (Ws.drop (j + 1)) = T) := Lib.hid (by rw [hxl]; exact hE2)
          have HXT : Hid ((acc ++ [13, 10] ++ [32] ++ sX.data.toList).length = acc.length + 3 + S) := Lib.hid (by rw [hxl]; exact hxT)
          have hsz : sX.size ≤ 8000000 := by omega
          have h8j : (78 : Int) < (col : Int) + 1 + (sX.size : Int) := by omega
          clear hcl9 hst hsX hxl hxs hdr hx hjm cx H hE hTl hxT hE2
          clear hS h8
          go_wp2_with (first
            | (at_builtin; go_loud (refine wpList_appB _ u8S (.tmp 30) (.tmp 31) rfl rfl w1.heap.size rfl (HO.out.alloc _) (k := [13, 10]) _ _ rfl rfl ((Blk.new wr 5 #[.int .u8 13, .int .u8 10]).rb 0 rfl (B := wr.heap.size + 1) (by omega)) (by simp; omega) (by simp; omega) ?_); intro v2 w2 ho2 hb2; have HO2 := Lib.hid ho2; have HB2 := Lib.hid ((HB.out.alloc hbs (.cells #[.int .u8 13, .int .u8 10] 5)).trans hb2); have hs2 := HB2.out.size; clear ho2 hb2)
            | (at_builtin; go_loud (refine wpList_appB _ u8S (.tmp 33) (.tmp 34) rfl rfl w1.heap.size rfl (HO2.out.alloc _) (k := [32]) _ _ rfl rfl (RB.one w2 5 32 32 rfl) (by simp; omega) (by simp; omega) ?_); intro v3 w3 ho3 hb3; have HO3 := Lib.hid ho3; have HB3 := Lib.hid ((HB2.out.alloc hs2 (.cells #[.int .u8 32] 5)).trans hb3); have hs3 := HB3.out.size; have c3 := (HB3.out.cell (p := ⟨b, off + j, none⟩) hb).trans CX.out; clear ho3 hb3)
            | (at_builtin; go_loud (refine wpList_appS _ u8S Tryd.underlying9 (.tmp 38) (.tmp 42) rfl rfl w1.heap.size rfl HO3.out sX rfl (by simp; omega) hs3 ?_); intro v4 w4 ho4 hb4; have HO4 := Lib.hid ho4; have HB4 := Lib.hid (HB3.out.trans hb4); have c4 := (HB4.out.cell (p := ⟨b, off + j, none⟩) hb).trans CX.out; clear ho4 hb4))
          go_roundg (n - (j + 1))
          case rel =>
            refine ⟨j + 1, 1 + sX.size, _, by omega, by go_num, ?_, ?_, ?_, HO4, HB4, Lib.hid (.inr ⟨by omega, by have h := HE.out; rwa [HS.out] at h⟩)⟩
            · have h2 := HS.out
              go_num
            · have h1 := HXT.out; have h2 := HS.out; omega
            · have h1 := HXT.out; omega
          case measure => omega
        · have hE2 : acc ++ [32] ++ x ++ foldW (col + 1 + S) (Ws.drop (j + 1)) = T := by
            rw [← hE, foldW, if_neg (by rw [← hxs, ← hS]; exact h8), hS, hxs]; simp
          have hTl := congrArg List.length hE2
          rw [List.length_append] at hTl
          have hxT : (acc ++ [32] ++ x).length = acc.length + 1 + S := by rw [hS, hxs]; simp; omega
          rw [hxT] at hTl
          have hSb : acc.length + 1 + S ≤ T.length := by omega
          have HE : Hid (acc ++ [32] ++ sX.data.toList ++ foldW (col + 1 + S) (Ws.drop (j + 1)) = T) := Lib.hid (by rw [hxl]; exact hE2)
          have HXT : Hid ((acc ++ [32] ++ sX.data.toList).length = acc.length + 1 + S) := Lib.hid (by rw [hxl]; exact hxT)
          have hsz : sX.size ≤ 8000000 := by omega
          have h8j : ¬ (78 : Int) < (col : Int) + 1 + (sX.size : Int) := by omega
          clear hcl9 hst hsX hxl hxs hdr hx hjm cx H hE hTl hxT hE2
          clear hS h8
          go_wp2_with (first
            | (at_builtin; go_loud (refine wpList_appB _ u8S (.tmp 33) (.tmp 34) rfl rfl w1.heap.size rfl (HO.out.alloc _) (k := [32]) _ _ rfl rfl (RB.one wr 5 32 32 rfl) (by simp; omega) (by simp; omega) ?_); intro v3 w3 ho3 hb3; have HO3 := Lib.hid ho3; have HB3 := Lib.hid ((HB.out.alloc hbs (.cells #[.int .u8 32] 5)).trans hb3); have hs3 := HB3.out.size; have c3 := (HB3.out.cell (p := ⟨b, off + j, none⟩) hb).trans CX.out; clear ho3 hb3)
            | (at_builtin; go_loud (refine wpList_appS _ u8S Tryd.underlying9 (.tmp 38) (.tmp 42) rfl rfl w1.heap.size rfl HO3.out sX rfl (by simp; omega) hs3 ?_); intro v4 w4 ho4 hb4; have HO4 := Lib.hid ho4; have HB4 := Lib.hid (HB3.out.trans hb4); have c4 := (HB4.out.cell (p := ⟨b, off + j, none⟩) hb).trans CX.out; clear ho4 hb4))
          go_roundg (n - (j + 1))
          case rel =>
            refine ⟨j + 1, col + 1 + sX.size, _, by omega, by go_num, ?_, ?_, ?_, HO4, HB4, Lib.hid (.inr ⟨by omega, by have h := HE.out; rwa [HS.out] at h⟩)⟩
            · have h2 := HS.out
              go_num
            · have h1 := HXT.out; have h2 := HS.out; omega
            · have h1 := HXT.out; omega
          case measure => omega
    · have hj1 : ¬ (j : Int) < (n : Int) := by omega
      have hE : acc = T := by
        rcases H.out with ⟨h1, h2, h3⟩ | ⟨h1, h2⟩
        · subst h2
          have : Ws = [] := List.eq_nil_of_length_eq_zero (by rw [← HN.out]; omega)
          rw [HT.out, this]; rfl
        · rw [List.drop_of_length_le (by rw [← HN.out]; omega)] at h2
          simpa [foldW] using h2
      obtain ⟨A6, c6, rfl, h61, h62, hr6⟩ := HO.out.out
      have hcv := conv_rb hr6 acc.length c6 rfl
      rw [hE] at hcv ⊢
      have HBF := Lib.hid (HB1.out.trans (HB.out.mono HB1.out.size))
      clear H hr6 HO
      go_wp2
      go_ret
      exact ⟨HBF.out, rfl⟩
end Go.Proofs.YtgbbadbffcjamaaDoor
