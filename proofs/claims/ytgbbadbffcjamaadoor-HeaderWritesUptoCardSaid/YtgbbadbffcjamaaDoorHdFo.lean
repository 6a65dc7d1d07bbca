/-
  The walk of the program's Fold. Conditions: a text's length.
-/
import Derived.Test.YtgbbadbffcjamaaDoorHdW
import Derived.Test.YtgbbadbffcjamaaDoorBld
import Derived.Test.YtgbbadbffcjamaaDoorOwn
import Derived.Test.YtgbbadbffcjamaaDoorShelf
import Derived.Shelf.Strings.FuncGrows
namespace Go.Proofs.YtgbbadbffcjamaaDoor
open Go.RowKit Go.Sort
set_option linter.unusedVariables false
theorem bl1_walk (x : Nat) (w : World) : Calls Tryd.prog 45 #[.int .i32 (x : Int)] w fun e w' => w = w' ∧ e = .returned (.bool (isBl x)) := by
  have hF : isBl x = decide (x = 32 ∨ x = 9) := rfl
  by_cases h1 : x = 32
  · have q : ((x : Int) == 32) = true := by rw [beq_iff_eq]; omega
    rw [hF, decide_eq_true (.inl h1)]
    clear hF h1
    go_enter Tryd.func45, Tryd.ntmps45
    go_wp2
    go_ret
    exact ⟨rfl, rfl⟩
  · have q : ((x : Int) == 32) = false := by rw [beq_eq_false_iff_ne]; omega
    by_cases h2 : x = 9
    · have q2 : ((x : Int) == 9) = true := by rw [beq_iff_eq]; omega
      rw [hF, decide_eq_true (.inr h2)]
      clear hF h1 h2
      go_enter Tryd.func45, Tryd.ntmps45
      go_wp2
      go_ret
      exact ⟨rfl, rfl⟩
    · have q2 : ((x : Int) == 9) = false := by rw [beq_eq_false_iff_ne]; omega
      rw [hF, decide_eq_false (fun h => h.elim h1 h2)]
      clear hF h1 h2
      go_enter Tryd.func45, Tryd.ntmps45
      go_wp2
      go_ret
      exact ⟨rfl, rfl⟩
theorem words_walk (s : ByteArray) (hs : s.size ≤ 2000000) (w : World) :
    Calls Tryd.prog 44 #[.string s, .func (.func 45) #[] #[]] w fun e w' => Below w.heap.size w w' ∧ ∃ A n, n = (wordsL s.data.toList).length ∧ e = .returned (.slice (some ⟨A, 0, none⟩) n n) ∧ w.heap.size ≤ A ∧ OwnS w' w.heap.size 9 (.slice (some ⟨A, 0, none⟩) n n) ((wordsL s.data.toList).map mkS) := by
  refine (Tryd.strings_FieldsFunc_grows 45 #[] (enters_of Tryd.func45 (by kernel_rfl) rfl) isBl s w (by omega) (fun W x _ _ => (bl1_walk x W).mono fun _ _ ⟨h, he⟩ => ⟨he, h ▸ Below.refl _ _⟩)).mono ?_
  rintro e w2 ⟨A, rfl, hA, hrow, hb⟩
  rw [fields_wordsL] at hrow ⊢
  exact ⟨hb, A, _, rfl, by rw [List.length_map], hA, by have := hrow; rw [List.length_map] at this; unfold OwnS; rw [List.length_map]; exact this⟩
theorem Bld.below {w w' : World} {B b : Nat} {l : List UInt8} (h : Bld w B b l) (hb : Below w.heap.size w w') : Bld w' B b l := by
  rcases h with ⟨h1, v, h2, h3, h4⟩ | ⟨h1, v, h2, h3, h4⟩
  · exact .inl ⟨h1, v, Blk.keep (show Blk w b _ _ from h2) hb, World.ownsRow.kept h3 (grownBy_of_below hb none) (by cases v.ownBlock <;> simp), h4⟩
  · exact .inr ⟨h1, v, Blk.keep (show Blk w b _ _ from h2) hb, World.ownsRow.kept h3 (grownBy_of_below hb none) (by cases v.ownBlock <;> simp), h4⟩
theorem fold_step {col : Nat} {x : List UInt8} {r : List (List UInt8)} : foldW col (x :: r) = if 78 < col + 1 + x.length then [13, 10] ++ ([32] ++ (x ++ foldW (1 + x.length) r)) else [32] ++ (x ++ foldW (col + 1 + x.length) r) := by rw [foldW]; rfl
set_option maxRecDepth 100000 in
set_option maxHeartbeats 4000000 in
theorem fold_walk (s : ByteArray) (c : Int) (w : World) (hs : s.size ≤ 2000000) (hc1 : -9223372036854775808 ≤ c) (hc2 : c ≤ 9223372036854775807) :
    Calls Tryd.prog 35 #[.string s, .int .i64 c] w fun e w' => Below w.heap.size w w' ∧ e = .returned (.string ⟨(fold11 s.data.toList c).toArray⟩) := by
  have hFl := fold11_len s.data.toList c
  rw [← Lib.size_eq] at hFl
  obtain ⟨F, hF⟩ : ∃ F, fold11 s.data.toList c = F := ⟨_, rfl⟩
  rw [hF] at hFl ⊢
  obtain ⟨Ws, hWs⟩ : ∃ Ws, wordsL s.data.toList = Ws := ⟨_, rfl⟩
  obtain ⟨k0, hk0⟩ : ∃ k0, col0 c = k0 := ⟨_, rfl⟩
  have HF : Hid (foldF k0 Ws = F) := Lib.hid (by rw [← hF, ← hWs, ← hk0]; rfl)
  have hk78 : k0 ≤ 78 := by rw [← hk0]; unfold col0; omega
  have hmm : min (max c 0) 78 = (k0 : Int) := by rw [← hk0]; unfold col0; omega
  have hWn : Ws.length ≤ 2000000 := by have := (wordsA_len s.data.toList []).2; rw [← hWs]; unfold wordsL; simp at this; omega
  have KW := Lib.hid fun w' => words_walk s hs w'
  rw [hWs] at KW
  have HMM := Lib.hid hmm
  clear hF hWs hk0 hmm
  go_enter Tryd.func35, Tryd.ntmps35
  have h1 := HMM.out
  go_upto_region 2 with fail
  clear h1
  have HB1 := Lib.hid ((Below.refl w.heap.size w).alloc (Nat.le_refl _) (.cells #[.pointer none, .slice none 0 0] 64))
  have HD1 := Lib.hid (Bld.new w w.heap.size (Nat.le_refl _))
  have HZ1 : Hid (w.heap.size < (w.alloc (.cells #[.pointer none, .slice none 0 0] 64)).heap.size) := Lib.hid (by simp)
  go_upto_region 3 with fail
  generalize (w.alloc (.cells #[.pointer none, .slice none 0 0] 64)) = w1 at *
  go_wp2_with fail
  with_reducible refine (KW.out w1).mono ?_
  rintro e2 w2 ⟨hb2, A, n, hn, rfl, hA, hO⟩
  have HB2 := Lib.hid (HB1.out.trans (hb2.mono HB1.out.size))
  have HD2 := Lib.hid (HD1.out.below hb2)
  have HO2 := Lib.hid hO
  have HN := Lib.hid hn
  have HNE : Hid ((Value.slice (some ⟨A, 0, none⟩) n n).ownBlock ≠ some w.heap.size) := Lib.hid (by simp [Value.ownBlock]; have := HZ1.out; omega)
  have hnn : n ≤ 2000000 := by omega
  generalize w1.heap.size = B1 at *
  clear hb2 hO hn HB1 HD1 KW HMM hA HZ1
  go_wp2_with fail
  go_loopg [1, 14] n (fun k s1 s14 wr => ∃ (j col : Nat) (acc : List UInt8), j + k = n ∧ s14 = .int .i64 (j : Int) ∧ s1 = .int .i64 (col : Int) ∧ col ≤ 79 + acc.length ∧ acc.length ≤ F.length ∧ Hid (Below w.heap.size w wr) ∧ Hid (Bld wr w.heap.size w.heap.size acc) ∧ Hid (OwnS wr B1 9 (.slice (some ⟨A, 0, none⟩) n n) (Ws.map mkS)) ∧
    Hid ((j = 0 ∧ acc = [] ∧ col = k0) ∨ (0 < j ∧ acc ++ foldW col (Ws.drop j) = F)))
  case atStart => exact ⟨0, k0, [], by omega, rfl, rfl, by omega, by simp, HB2, HD2, HO2, Lib.hid (.inl ⟨rfl, rfl, rfl⟩)⟩
  case round =>
    obtain ⟨j, col, acc, hj, rfl, rfl, hcol, hacc, HB, HD, HO, H⟩ := hrel
    clear HB2 HD2 HO2
    by_cases hlt : j < n
    · have hj1 : (j : Int) < (n : Int) := by omega
      obtain ⟨x, hx⟩ : ∃ x, Ws[j]? = some x := ⟨_, List.getElem?_eq_getElem (by rw [← HN.out]; exact hlt)⟩
      have hdr : Ws.drop j = x :: Ws.drop (j + 1) := by
        obtain ⟨h9, rfl⟩ := List.getElem?_eq_some_iff.1 hx
        exact List.drop_eq_getElem_cons h9
      obtain ⟨sX, hsX⟩ : ∃ sX, sX = mkS x := ⟨_, rfl⟩
      have hsz : sX.size = x.length := by rw [hsX]; unfold mkS; rw [Lib.size_eq]
      have hsd : sX.data.toList = x := by rw [hsX]; rfl
      have cx : wr.cell? ⟨A, j, none⟩ = some (.string sX) := by
        have hL : (Ws.map mkS).length = n := by rw [List.length_map, HN.out]
        have h1 := HO.out
        unfold OwnS at h1
        rw [hL] at h1
        rw [World.ownsRow.cellAt h1 j (by omega), hsX]
        simp [hx]
      by_cases h0 : j = 0
      · subst h0
        obtain ⟨ha, hc⟩ : acc = [] ∧ col = k0 := by
          rcases H.out with ⟨_, h1, h2⟩ | ⟨h1, _⟩
          · exact ⟨h1, h2⟩
          · omega
        subst ha
        have HE : Hid (([] ++ sX.data.toList) ++ foldW (col + sX.size) (Ws.drop 1) = F) := Lib.hid (by
          rw [← HF.out]
          have : Ws = x :: Ws.drop 1 := by have := hdr; rwa [List.drop_zero] at this
          rw [hsd, hsz, hc]
          conv => rhs; rw [this]
          rw [foldF]; simp)
        have hfl : sX.size ≤ F.length := by have := congrArg List.length HE.out; simp at this; omega
        have KX := Lib.hid (bws_walk wr w.heap.size w.heap.size [] sX HD.out HB.out.size (by simp; omega))
        clear H hdr hx hsX hsd hc
        go_wp2_with fail
        with_reducible refine KX.out.mono ?_
        rintro e9 w9 ⟨rfl, hb9, hd9, ho9⟩
        have HB9 := Lib.hid (HB.out.trans hb9)
        have HD9 := Lib.hid hd9
        have HO9 := Lib.hid (HO.out.others ho9 HNE.out)
        have hcl : col + sX.size ≤ 79 + ([] ++ sX.data.toList).length := by first | (simp; done) | (simp; omega)
        have hal : ([] ++ sX.data.toList).length ≤ F.length := by first | (simp; done) | (simp; omega)
        clear hb9 hd9 ho9 KX HB HD HO hsz
        go_wp2
        go_roundg (n - 1)
        case rel => exact ⟨1, col + sX.size, _, by omega, by go_num, by go_num, hcl, hal, HB9, HD9, HO9, Lib.hid (.inr ⟨by omega, HE.out⟩)⟩
        case measure => omega
      · have hj0 : (0 : Int) < (j : Int) := by omega
        have HFW : Hid (acc ++ foldW col (x :: Ws.drop (j + 1)) = F) := Lib.hid (by
          rcases H.out with ⟨h1, _⟩ | ⟨_, h2⟩
          · exact absurd h1 h0
          · rw [← hdr]; exact h2)
        by_cases hw : 78 < col + 1 + sX.size
        · have hwi : (78 : Int) < (col : Int) + 1 + (sX.size : Int) := by omega
          have HE : Hid ((((acc ++ [13, 10]) ++ [32]) ++ sX.data.toList) ++ foldW (1 + sX.size) (Ws.drop (j + 1)) = F) := Lib.hid (by
            rw [← HFW.out, fold_step, if_pos (by rw [← hsz]; exact hw), hsd, hsz]; simp)
          have hfl : acc.length + 3 + sX.size ≤ F.length := by have := congrArg List.length HE.out; simp at this; omega
          have KA := Lib.hid (bws_walk wr w.heap.size w.heap.size acc ⟨#[13, 10]⟩ HD.out HB.out.size (by have : (⟨#[13, 10]⟩ : ByteArray).size = 2 := rfl; omega))
          clear H hdr hx hsX hsd HFW hw
          go_wp2_with fail
          with_reducible refine KA.out.mono ?_
          rintro e6 w6 ⟨rfl, hb6, hd6, ho6⟩
          have HB6 := Lib.hid (HB.out.trans hb6)
          have HD6 : Hid (Bld w6 w.heap.size w.heap.size (acc ++ [13, 10])) := Lib.hid hd6
          have HO6 := Lib.hid (HO.out.others ho6 HNE.out)
          have KB := Lib.hid (bwb_walk w6 w.heap.size w.heap.size (acc ++ [13, 10]) 32 32 rfl HD6.out HB6.out.size (by simp; omega))
          clear hb6 hd6 ho6 KA HB HD HO
          go_wp2_with fail
          with_reducible refine KB.out.mono ?_
          rintro e7 w7 ⟨rfl, hb7, hd7, ho7⟩
          have HB7 := Lib.hid (HB6.out.trans hb7)
          have HD7 := Lib.hid hd7
          have HO7 := Lib.hid (HO6.out.others ho7 HNE.out)
          have KX := Lib.hid (bws_walk w7 w.heap.size w.heap.size (acc ++ [13, 10] ++ [32]) sX HD7.out HB7.out.size (by simp; omega))
          clear hb7 hd7 ho7 KB HB6 HD6 HO6
          go_wp2_with fail
          with_reducible refine KX.out.mono ?_
          rintro e9 w9 ⟨rfl, hb9, hd9, ho9⟩
          have HB9 := Lib.hid (HB7.out.trans hb9)
          have HD9 := Lib.hid hd9
          have HO9 := Lib.hid (HO7.out.others ho9 HNE.out)
          have hal : (acc ++ [13, 10] ++ [32] ++ sX.data.toList).length ≤ F.length := by first | (simp; done) | (simp; omega)
          have hcl : 1 + sX.size ≤ 79 + (acc ++ [13, 10] ++ [32] ++ sX.data.toList).length := by first | (simp; done) | (simp; omega)
          clear hb9 hd9 ho9 KX HB7 HD7 HO7 hsz
          go_wp2
          go_roundg (n - (j + 1))
          case rel => exact ⟨j + 1, 1 + sX.size, _, by omega, by go_num, by go_num, hcl, hal, HB9, HD9, HO9, Lib.hid (.inr ⟨by omega, HE.out⟩)⟩
          case measure => omega
        · have hwi : ¬ (78 : Int) < (col : Int) + 1 + (sX.size : Int) := by omega
          have HE : Hid (((acc ++ [32]) ++ sX.data.toList) ++ foldW (col + 1 + sX.size) (Ws.drop (j + 1)) = F) := Lib.hid (by
            rw [← HFW.out, fold_step, if_neg (by rw [← hsz]; exact hw), hsd, hsz]; simp)
          have hfl : acc.length + 1 + sX.size ≤ F.length := by have := congrArg List.length HE.out; simp at this; omega
          have KB := Lib.hid (bwb_walk wr w.heap.size w.heap.size acc 32 32 rfl HD.out HB.out.size (by omega))
          clear H hdr hx hsX hsd HFW hw
          go_wp2_with fail
          with_reducible refine KB.out.mono ?_
          rintro e7 w7 ⟨rfl, hb7, hd7, ho7⟩
          have HB7 := Lib.hid (HB.out.trans hb7)
          have HD7 := Lib.hid hd7
          have HO7 := Lib.hid (HO.out.others ho7 HNE.out)
          have KX := Lib.hid (bws_walk w7 w.heap.size w.heap.size (acc ++ [32]) sX HD7.out HB7.out.size (by simp; omega))
          clear hb7 hd7 ho7 KB HB HD HO
          go_wp2_with fail
          with_reducible refine KX.out.mono ?_
          rintro e9 w9 ⟨rfl, hb9, hd9, ho9⟩
          have HB9 := Lib.hid (HB7.out.trans hb9)
          have HD9 := Lib.hid hd9
          have HO9 := Lib.hid (HO7.out.others ho9 HNE.out)
          have hal : (acc ++ [32] ++ sX.data.toList).length ≤ F.length := by first | (simp; done) | (simp; omega)
          have hcl : col + 1 + sX.size ≤ 79 + (acc ++ [32] ++ sX.data.toList).length := by first | (simp; done) | (simp; omega)
          clear hb9 hd9 ho9 KX HB7 HD7 HO7 hsz
          go_wp2
          go_roundg (n - (j + 1))
          case rel => exact ⟨j + 1, col + 1 + sX.size, _, by omega, by go_num, by go_num, hcl, hal, HB9, HD9, HO9, Lib.hid (.inr ⟨by omega, HE.out⟩)⟩
          case measure => omega
    · have hj1 : ¬ (j : Int) < (n : Int) := by omega
      have HE : Hid (acc = F) := Lib.hid (by
        rcases H.out with ⟨h1, h2, _⟩ | ⟨_, h2⟩
        · have : Ws = [] := List.eq_nil_of_length_eq_zero (by rw [← HN.out]; omega)
          rw [h2, ← HF.out, this]; rfl
        · rw [List.drop_of_length_le (by rw [← HN.out]; omega)] at h2
          simpa [foldW] using h2)
      have KS := Lib.hid (Tryd.Builder_String_any w.heap.size w.heap.size acc wr HD.out HB.out.size)
      clear H
      go_wp2_with (with_reducible refine KS.out.mono ?_; rintro e5 w5 ⟨rfl, hb5⟩)
      go_ret
      exact ⟨HB.out.trans hb5, by rw [← HE.out]; rfl⟩
end Go.Proofs.YtgbbadbffcjamaaDoor
