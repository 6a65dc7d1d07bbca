/-
  The walk of date's clock. Conditions: a text's length, and what the library's tables hold.
-/
import Derived.Test.YtdkhoiahmjadnaaGreatDoorNamed
import Derived.Lib.SplitLaws
import Derived.Laws.OwnMore
namespace Go.Proofs.YtdkhoiahmjadnaaGreatDoor
open Go.RowKit Go.Sort
set_option linter.unusedVariables false

theorem ueS : UE Tryz.prog 41 9 := by
  obtain ⟨i, h1, h2, h3, h4⟩ := info_parts (show (Tryz.prog.info? 9).map (fun i => (i.zero, i.size, i.bytes)) = some (some (.string ⟨#[]⟩), 1, 16) by kernel_rfl)
  exact ⟨Tryz.underlying41, i, _, h1, h2, rfl, h3, by omega⟩
theorem numP_rng (l : List UInt8) (lo hi b : Int) (hb : -1 ≤ b) : -1 ≤ numP l lo hi b ∧ numP l lo hi b ≤ b := by
  unfold numP
  split
  · omega
  · split
    · split <;> omega
    · omega
/-- the parts between colons -/
def spl (s : ByteArray) : List ByteArray := Lib.splitB ⟨#[58]⟩ 0 (Lib.countB s ⟨#[58]⟩) s
def clkF : List ByteArray → List Int → Int → Int
  | [], _, n => n
  | x :: t, bs, n => if numP x.data.toList 2 2 (bs.headD (-1)) < 0 then -1 else clkF t bs.tail (60 * n + numP x.data.toList 2 2 (bs.headD (-1)))
def clkM (M : List ByteArray) : Int := if M.length = 3 then clkF M [23, 59, 59] 0 else -1
def clockP (s : ByteArray) : Int := clkM (if (spl s).length = 2 then spl s ++ [⟨#[48, 48]⟩] else spl s)
theorem spl_len (s : ByteArray) : (spl s).length = Lib.countB s ⟨#[58]⟩ + 1 := Lib.splitB_all ⟨#[58]⟩ (by decide) 0 _ s rfl
theorem split_walk (s : ByteArray) (w : World) (T : TabsD w) (hs : s.size < 4294967281) :
    Calls Tryz.prog 50 #[.string s, .string ⟨#[58]⟩] w fun e w' => Below w.heap.size w w' ∧ e = .returned (.slice (some ⟨w.heap.size, 0, none⟩) (spl s).length (spl s).length) ∧
      OwnS w' w.heap.size 9 (.slice (some ⟨w.heap.size, 0, none⟩) (spl s).length (spl s).length) (spl s) := by
  obtain ⟨m, hm⟩ := T.ml
  refine (Tryz.strings_Split s ⟨#[58]⟩ m w hs hm (by decide)).mono ?_
  rintro e w2 ⟨rfl, rfl⟩
  have hle : (spl s).length ≤ maxLen := by
    have := Lib.countB_le ⟨#[58]⟩ (by decide) _ s (Nat.le_refl _)
    rw [spl_len]
    simp only [maxLen]
    omega
  refine ⟨(Below.refl _ _).alloc (Nat.le_refl _) _, by rw [spl_len], ?_⟩
  have h := World.ownsRow_lit (base := w.heap.size) (e := 9) (size := 1) w ((spl s).map Value.string).toArray (spl s).length (Nat.le_refl _) hle (by simp)
  exact h
theorem OwnS.get {w : World} {base E n c : Nat} {A : Option Addr} {L : List ByteArray} (h : OwnS w base E (.slice A n c) L) : RS w w.heap.size A L ∧ n = L.length := by
  obtain ⟨A', c', e, _, _, hr⟩ := h.out
  injection e with e1 e2
  subst e1
  exact ⟨hr, e2⟩
theorem extract_le (s : ByteArray) (a b : Nat) : (s.extract a b).size ≤ s.size := by
  rw [ByteArray.size_extract]; omega
theorem splitB_sz (sep : ByteArray) (v : Nat) : ∀ (k : Nat) (s : ByteArray), ∀ x ∈ Lib.splitB sep v k s, x.size ≤ s.size
  | 0, s, x, hx => by
    rw [Lib.splitB_zero] at hx
    rw [List.mem_singleton.1 hx]
    exact Nat.le_refl _
  | k + 1, s, x, hx => by
    unfold Lib.splitB at hx
    split at hx
    · rw [List.mem_singleton.1 hx]
      exact Nat.le_refl _
    · rcases List.mem_cons.1 hx with rfl | hx
      · exact extract_le _ _ _
      · exact Nat.le_trans (splitB_sz sep v k _ x hx) (extract_le _ _ _)
set_option maxRecDepth 100000 in
set_option maxHeartbeats 2000000 in
theorem clock_walk (s : ByteArray) (w : World) (T : TabsD w) (hs : s.size < 4294967281) :
    Calls Tryz.prog 36 #[.string s] w fun e w' => Below w.heap.size w w' ∧ e = .returned (.int .i64 (clockP s)) := by
  have HS := Lib.hid (split_walk s w T hs)
  have hF : clockP s = clkM (if (spl s).length = 2 then spl s ++ [⟨#[48, 48]⟩] else spl s) := rfl
  have hsz : ∀ x ∈ spl s, x.size ≤ 9223372036854775807 := fun x hx => by
    have := splitB_sz _ _ _ _ x hx
    omega
  have hln : 1 ≤ (spl s).length ∧ (spl s).length ≤ 4294967281 := by
    have := Lib.countB_le ⟨#[58]⟩ (by decide) _ s (Nat.le_refl _)
    rw [spl_len]
    omega
  generalize clockP s = F at *
  generalize spl s = L at *
  obtain ⟨M, hM⟩ : ∃ M, (if L.length = 2 then L ++ [⟨#[48, 48]⟩] else L) = M := ⟨_, rfl⟩
  rw [hM] at hF
  have hMl : 1 ≤ M.length ∧ M.length ≤ 4294967282 := by
    rw [← hM]
    split
    · simp; omega
    · omega
  have hMs : ∀ x ∈ M, x.size ≤ 9223372036854775807 := by
    rw [← hM]
    split
    · intro x hx
      rcases List.mem_append.1 hx with hx | hx
      · exact hsz x hx
      · rw [List.mem_singleton.1 hx]; decide
    · exact hsz
  have HMS := Lib.hid hMs
  have HF := Lib.hid hF
  clear hMs hsz hF
  go_enter Tryz.func36, Tryz.ntmps36
  go_wp2_with fail
  refine HS.out.mono ?_
  rintro e w2 ⟨hb2, rfl, own2⟩
  clear HS
  have HN := Lib.hid (fun x (hx : x.size ≤ 9223372036854775807) b (hb0 : -1 ≤ b) (hb1 : b ≤ 100000) w' => number_walk x 2 2 b (by omega) (by omega) hb0 hb1 w' hx)
  have OW := Lib.hid own2
  have HB2 := Lib.hid hb2
  have hs2 := hb2.size
  have HM := Lib.hid hM
  clear own2 hb2 hM
  go_upto_if 12 with (fail)
  go_cut [3] from 13 to 15 (fun x wr => Below w.heap.size w wr ∧ ∃ A c, x = .slice A M.length c ∧ RS wr wr.heap.size A M)
  case first =>
    by_cases h2 : L.length = 2
    · match L, h2 with
      | [p, q], _ =>
        have hMe : M = [p, q] ++ [⟨#[48, 48]⟩] := HM.out.symm
        subst hMe
        clear HM HF HMS hMl hln
        have OA := Lib.hid (OW.out.alloc (.cells #[.string ⟨#[48, 48]⟩] 9))
        have BA := Lib.hid (HB2.out.alloc hs2 (.cells #[.string ⟨#[48, 48]⟩] 9))
        have own2l : ([p, q] : List ByteArray).length = 2 := rfl
        go_wp2_with (at_builtin; go_loud (refine wpList_appOneS _ ueS _ _ rfl rfl w.heap.size (by rfl) OA.out w2.heap.size 1 (by rfl) ⟨#[48, 48]⟩ (cell_new _ _ _ (by simp)) (by simp) (by simp; omega) ?_; intro v3 w3 hown3 hbel3; obtain ⟨A3, c3, rfl, -, -, hr3⟩ := hown3.out; have HR3 := Lib.hid hr3; clear hr3; clear hown3))
        go_meet
        exact ⟨BA.out.trans hbel3, A3, c3, rfl, HR3.out⟩
    · have hMe : M = L := by rw [← HM.out, if_neg h2]
      subst hMe
      have h2' : ((M.length : Int) == 2) = false := beq_eq_false_iff_ne.2 (by omega)
      go_wp2
      go_meet
      exact ⟨HB2.out, _, _, rfl, OW.out.get.1⟩
  case rest =>
    obtain ⟨hbc, A, c, rfl, hr⟩ := hcut
    clear OW HB2 HM hln hs2
    generalize wc = w3 at *
    go_wp2
    go_loopg [4, 18] M.length (fun k n i wr => Below w3.heap.size w3 wr ∧ ∃ (j : Nat) (v : Int), j + k = M.length ∧ n = .int .i64 v ∧ i = .int .i64 j ∧ 0 ≤ v ∧ v < 60 ^ j ∧ (M.length = 3 ∨ j = 0) ∧ Hid (M.length = 3 → F = clkF (M.drop j) (([23, 59, 59] : List Int).drop j) v))
    case atStart => exact ⟨Below.refl _ _, 0, 0, by omega, rfl, rfl, by omega, by decide, .inr rfl, Lib.hid fun h => by rw [HF.out]; exact if_pos h⟩
    case round =>
      obtain ⟨hb, j, v, hj, rfl, rfl, hv0, hv1, hj3, H⟩ := hrel
      by_cases hlt : j < M.length
      · obtain ⟨b, off, rfl, hB, hcell⟩ := (hr.below hb).at_ hlt
        have cj := hcell j hlt
        have hj2 : (j : Int) < (M.length : Int) := by omega
        have hxs := HMS.out _ (st_mem hlt)
        have HD := Lib.hid (drop_st hlt)
        have HB := Lib.hid hb
        have hrH := Lib.hid hr
        clear hcell hb hr
        generalize st M j = x at *
        by_cases h3 : M.length = 3
        · have hj' : j = 0 ∨ j = 1 ∨ j = 2 := by omega
          rcases hj' with rfl | rfl | rfl
          · have hv2 : v < 1 := by simpa using hv1
            have hmn : min (0 : Int) 3 = 0 := by decide
            have cj0 : wr.cell? ⟨b, off, none⟩ = some (.string x) := cj
            have HC := Lib.hid (HN.out x hxs 23 (by omega) (by omega))
            have hrn := numP_rng x.data.toList 2 2 23 (by omega)
            have HE0 : F = if numP x.data.toList 2 2 23 < 0 then -1 else clkF (M.drop 1) [59, 59] (60 * v + numP x.data.toList 2 2 23) := by
              rw [H.out h3, HD.out]; rfl
            generalize numP x.data.toList 2 2 23 = kk at *
            obtain ⟨hk1, hk2⟩ := hrn
            have HE := Lib.hid HE0
            have BA := Lib.hid (HB.out.alloc HB.out.size (.cells #[.int .i64 23, .int .i64 59, .int .i64 59, .int .i64 (-1)] 3))
            have h3b : ((M.length : Int) != 3) = false := by rw [h3]; rfl
            have H3 := Lib.hid h3
            clear HE0 hv1 HN HD H h3
            by_cases hk0 : kk < 0
            · have HR : Hid (F = -1) := Lib.hid (by rw [HE.out, if_pos hk0])
              go_wp2_with fail
              refine (HC.out _).mono ?_
              rintro e w5 ⟨hb5, rfl⟩
              go_wp2
              go_ret
              exact ⟨hbc.trans ((BA.out.trans (hb5.mono BA.out.size)).mono hbc.size), by rw [HR.out]; rfl⟩
            · have HR : Hid (F = clkF (M.drop 1) [59, 59] (60 * v + kk)) := Lib.hid (by rw [HE.out, if_neg hk0])
              have e1 : IntKind.i64.wrap (60 * v) = 60 * v := IntWalk.i64_in _ (by omega)
              have e2 : IntKind.i64.wrap (60 * v + kk) = 60 * v + kk := IntWalk.i64_in _ (by omega)
              go_wp2_with fail
              refine (HC.out _).mono ?_
              rintro e w5 ⟨hb5, rfl⟩
              go_wp2
              go_roundg (gk - 1)
              case rel =>
                have h3 := H3.out
                exact ⟨BA.out.trans (hb5.mono BA.out.size), 1, 60 * v + kk, by omega, rfl, by go_num, by omega, by simp; omega, .inl H3.out, Lib.hid fun _ => HR.out⟩
              case measure => (have h3 := H3.out; omega)
          · have hv2 : v < 60 := by simpa using hv1
            have hmn : min (1 : Int) 3 = 1 := by decide
            have HC := Lib.hid (HN.out x hxs 59 (by omega) (by omega))
            have hrn := numP_rng x.data.toList 2 2 59 (by omega)
            have HE0 : F = if numP x.data.toList 2 2 59 < 0 then -1 else clkF (M.drop 2) [59] (60 * v + numP x.data.toList 2 2 59) := by
              rw [H.out h3, HD.out]; rfl
            generalize numP x.data.toList 2 2 59 = kk at *
            obtain ⟨hk1, hk2⟩ := hrn
            have HE := Lib.hid HE0
            have BA := Lib.hid (HB.out.alloc HB.out.size (.cells #[.int .i64 23, .int .i64 59, .int .i64 59, .int .i64 (-1)] 3))
            have h3b : ((M.length : Int) != 3) = false := by rw [h3]; rfl
            have H3 := Lib.hid h3
            clear HE0 hv1 HN HD H h3
            by_cases hk0 : kk < 0
            · have HR : Hid (F = -1) := Lib.hid (by rw [HE.out, if_pos hk0])
              go_wp2_with fail
              refine (HC.out _).mono ?_
              rintro e w5 ⟨hb5, rfl⟩
              go_wp2
              go_ret
              exact ⟨hbc.trans ((BA.out.trans (hb5.mono BA.out.size)).mono hbc.size), by rw [HR.out]; rfl⟩
            · have HR : Hid (F = clkF (M.drop 2) [59] (60 * v + kk)) := Lib.hid (by rw [HE.out, if_neg hk0])
              have e1 : IntKind.i64.wrap (60 * v) = 60 * v := IntWalk.i64_in _ (by omega)
              have e2 : IntKind.i64.wrap (60 * v + kk) = 60 * v + kk := IntWalk.i64_in _ (by omega)
              go_wp2_with fail
              refine (HC.out _).mono ?_
              rintro e w5 ⟨hb5, rfl⟩
              go_wp2
              go_roundg (gk - 1)
              case rel =>
                have h3 := H3.out
                exact ⟨BA.out.trans (hb5.mono BA.out.size), 2, 60 * v + kk, by omega, rfl, by go_num, by omega, by simp; omega, .inl H3.out, Lib.hid fun _ => HR.out⟩
              case measure => (have h3 := H3.out; omega)
          · have hv2 : v < 3600 := by simpa using hv1
            have hmn : min (2 : Int) 3 = 2 := by decide
            have HC := Lib.hid (HN.out x hxs 59 (by omega) (by omega))
            have hrn := numP_rng x.data.toList 2 2 59 (by omega)
            have HE0 : F = if numP x.data.toList 2 2 59 < 0 then -1 else clkF (M.drop 3) [] (60 * v + numP x.data.toList 2 2 59) := by
              rw [H.out h3, HD.out]; rfl
            generalize numP x.data.toList 2 2 59 = kk at *
            obtain ⟨hk1, hk2⟩ := hrn
            have HE := Lib.hid HE0
            have BA := Lib.hid (HB.out.alloc HB.out.size (.cells #[.int .i64 23, .int .i64 59, .int .i64 59, .int .i64 (-1)] 3))
            have h3b : ((M.length : Int) != 3) = false := by rw [h3]; rfl
            have H3 := Lib.hid h3
            clear HE0 hv1 HN HD H h3
            by_cases hk0 : kk < 0
            · have HR : Hid (F = -1) := Lib.hid (by rw [HE.out, if_pos hk0])
              go_wp2_with fail
              refine (HC.out _).mono ?_
              rintro e w5 ⟨hb5, rfl⟩
              go_wp2
              go_ret
              exact ⟨hbc.trans ((BA.out.trans (hb5.mono BA.out.size)).mono hbc.size), by rw [HR.out]; rfl⟩
            · have HR : Hid (F = clkF (M.drop 3) [] (60 * v + kk)) := Lib.hid (by rw [HE.out, if_neg hk0])
              have e1 : IntKind.i64.wrap (60 * v) = 60 * v := IntWalk.i64_in _ (by omega)
              have e2 : IntKind.i64.wrap (60 * v + kk) = 60 * v + kk := IntWalk.i64_in _ (by omega)
              go_wp2_with fail
              refine (HC.out _).mono ?_
              rintro e w5 ⟨hb5, rfl⟩
              go_wp2
              go_roundg (gk - 1)
              case rel =>
                have h3 := H3.out
                exact ⟨BA.out.trans (hb5.mono BA.out.size), 3, 60 * v + kk, by omega, rfl, by go_num, by omega, by simp; omega, .inl H3.out, Lib.hid fun _ => HR.out⟩
              case measure => (have h3 := H3.out; omega)
        · have hj0 : j = 0 := by omega
          subst hj0
          have h3' : ((M.length : Int) != 3) = true := bne_iff_ne.2 (by omega)
          have h3'' : ¬ ((M.length : Int) = 3) := by omega
          have HR : Hid (F = -1) := Lib.hid (by rw [HF.out]; exact if_neg h3)
          have HC := Lib.hid (HN.out x hxs 23 (by omega) (by omega))
          generalize numP x.data.toList 2 2 23 = kk at *
          have BA := Lib.hid (HB.out.alloc HB.out.size (.cells #[.int .i64 23, .int .i64 59, .int .i64 59, .int .i64 (-1)] 3))
          have hmp : (0 : Int) < (M.length : Int) := by omega
          have hmn : min (0 : Int) 3 = 0 := by decide
          have cj0 : wr.cell? ⟨b, off, none⟩ = some (.string x) := cj
          clear HN HD H h3 hv1
          by_cases hk0 : kk < 0
          all_goals
            go_wp2_with fail
            refine (HC.out _).mono ?_
            rintro e w5 ⟨hb5, rfl⟩
            go_wp2
            go_ret
            exact ⟨hbc.trans ((BA.out.trans (hb5.mono BA.out.size)).mono hbc.size), by rw [HR.out]; rfl⟩
      · have hj2 : ¬ (j : Int) < (M.length : Int) := by omega
        have hm3 : M.length = 3 := by omega
        have HR : Hid (F = v) := Lib.hid (by
          rw [H.out hm3, List.drop_eq_nil_iff.2 (by omega)]; rfl)
        have HB := Lib.hid hb
        have hj4 : j = 3 := by omega
        subst hj4
        clear hb hr hv1 H
        go_wp2
        go_ret
        exact ⟨hbc.trans (HB.out.mono hbc.size), by rw [HR.out]; rfl⟩
end Go.Proofs.YtdkhoiahmjadnaaGreatDoor
