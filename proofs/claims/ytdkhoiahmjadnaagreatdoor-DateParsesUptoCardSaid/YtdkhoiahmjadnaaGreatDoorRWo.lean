/-
  The walks of waybillref13's zone and words. Conditions: a text's length.
-/
import Derived.Test.YtdkhoiahmjadnaaGreatDoorRCl
import Derived.Test.YtdkhoiahmjadnaaGreatDoorParse
namespace Go.Proofs.YtdkhoiahmjadnaaGreatDoor
open Go.RowKit Go.Sort
set_option linter.unusedVariables false

theorem ne_str {y : ByteArray} {t : List UInt8} (h : ¬ y = ⟨t.toArray⟩) (ht : (⟨t.toArray⟩ : ByteArray).toList = t) : (y.toList == t) = false := by
  have := str_ne h
  rwa [ht] at this
set_option maxRecDepth 100000 in
set_option maxHeartbeats 2000000 in
theorem rzone_walk (s : ByteArray) (w : World) (hs : s.size ≤ 140737488355328) :
    Calls Tryz.prog 29 #[.string s] w fun e w' => Below w.heap.size w w' ∧ e = .returned (.tuple #[.int .i64 (zoneP s).1, .bool (zoneP s).2]) := by
  have HN : Hid (∀ (p q : UInt8) w', Calls Tryz.prog 27 #[.string ⟨#[p, q]⟩, .int .i64 2, .int .i64 2] w' fun r w2 => w' = w2 ∧ r = .returned (.int .i64 (rnumP [p, q] 2 2))) :=
    Lib.hid fun p q w' => rnumber_walk ⟨#[p, q]⟩ 2 2 (by omega) (by omega) w' (by show 2 ≤ 9223372036854775807; omega)
  have HL : Hid (∀ w', Calls Tryz.prog 45 #[.string s] w' fun e w2 => Below w'.heap.size w' w2 ∧ e = .returned (.string (lowBy s))) := Lib.hid (fun w' => rlower_walk s w' (by unfold maxLen; omega))
  rw [zone_eq]
  have hF : rzoneP s = if lowBy s = ⟨#[103, 109, 116]⟩ ∨ lowBy s = ⟨#[117, 116]⟩ then (0, true) else rzoneL s.data.toList := rfl
  generalize rzoneP s = Z at *
  obtain ⟨Z1, Z2⟩ := Z
  have HZ := Lib.hid hF
  clear hF
  show Calls _ _ _ _ fun e w' => Below w.heap.size w w' ∧ e = .returned (.tuple #[.int .i64 Z1, .bool Z2])
  generalize lowBy s = y at *
  by_cases hg : y = ⟨#[103, 109, 116]⟩
  · subst hg
    have he : Hid ((Z1, Z2) = ((0, true) : Int × Bool)) := Lib.hid (by rw [HZ.out]; exact if_pos (.inl rfl))
    go_enter Tryz.func29, Tryz.ntmps29
    go_wp2_with fail
    refine (HL.out _).mono ?_
    rintro e w2 ⟨hb2, rfl⟩
    go_wp2
    go_ret2
    refine ⟨hb2, ?_⟩
    injection he.out with e1 e2
    subst e1 e2
    rfl
  have hq := ne_str (t := [103, 109, 116]) hg (by decide +kernel)
  by_cases hu : y = ⟨#[117, 116]⟩
  · subst hu
    have he : Hid ((Z1, Z2) = ((0, true) : Int × Bool)) := Lib.hid (by rw [HZ.out]; exact if_pos (.inr rfl))
    clear hq
    go_enter Tryz.func29, Tryz.ntmps29
    go_wp2_with fail
    refine (HL.out _).mono ?_
    rintro e w2 ⟨hb2, rfl⟩
    go_wp2
    go_ret2
    refine ⟨hb2, ?_⟩
    injection he.out with e1 e2
    subst e1 e2
    rfl
  have hq2 := ne_str (t := [117, 116]) hu (by decide +kernel)
  have HZ2 : Hid ((Z1, Z2) = rzoneL s.data.toList) := Lib.hid (by rw [HZ.out]; exact if_neg (by rintro (h | h) <;> contradiction))
  clear HZ hg hu
  by_cases h5 : s.size = 5
  · obtain ⟨a, b, c, d, f, rfl⟩ := five_bytes h5
    have hx := rnum_hi [b, c] (by simp)
    have hy := rnum_hi [d, f] (by simp)
    have HZ3 : Hid ((Z1, Z2) = if a ≠ 43 ∧ a ≠ 45 then ((0, false) : Int × Bool) else
      if rnumP [b, c] 2 2 < 0 ∨ 23 < rnumP [b, c] 2 2 ∨ rnumP [d, f] 2 2 < 0 ∨ 59 < rnumP [d, f] 2 2 then (0, false) else
      (if a = 45 then -3600 * rnumP [b, c] 2 2 - 60 * rnumP [d, f] 2 2 else 3600 * rnumP [b, c] 2 2 + 60 * rnumP [d, f] 2 2, true)) := HZ2
    clear HZ2 h5
    by_cases ha : a = 43 ∨ a = 45
    · have HZ4 : Hid ((Z1, Z2) = if rnumP [b, c] 2 2 < 0 ∨ 23 < rnumP [b, c] 2 2 ∨ rnumP [d, f] 2 2 < 0 ∨ 59 < rnumP [d, f] 2 2 then ((0, false) : Int × Bool) else
          (if a = 45 then -3600 * rnumP [b, c] 2 2 - 60 * rnumP [d, f] 2 2 else 3600 * rnumP [b, c] 2 2 + 60 * rnumP [d, f] 2 2, true)) := Lib.hid (by rw [HZ3.out]; exact if_neg (by rintro ⟨h1, h2⟩; rcases ha with h | h <;> contradiction))
      clear HZ3
      rcases ha with rfl | rfl
      all_goals
        have g0 : ∀ k : UInt8, (⟨#[k, b, c, d, f]⟩ : ByteArray)[0]'(show 0 < 5 by omega) = k := fun _ => rfl
        go_enter Tryz.func29, Tryz.ntmps29
        go_wp2_with fail
        refine (HL.out _).mono ?_
        rintro e w2 ⟨hb2, rfl⟩
        go_wp2_with fail
        refine (HN.out b c _).mono ?_
        rintro e w3 ⟨rfl, rfl⟩
        go_wp2_with fail
        refine (HN.out d f _).mono ?_
        rintro e w3 ⟨rfl, rfl⟩
        have HB := Lib.hid hb2
        clear HN HL hb2
        generalize rnumP [b, c] 2 2 = x at *
        generalize rnumP [d, f] 2 2 = y at *
        by_cases t0 : x < 0
        · have he : Hid ((Z1, Z2) = ((0, false) : Int × Bool)) := Lib.hid (by rw [HZ4.out]; exact if_pos (by omega))
          clear HZ4
          go_wp2
          go_ret2
          refine ⟨HB.out, ?_⟩
          injection he.out with e1 e2
          subst e1 e2
          rfl
        by_cases t1 : 23 < x
        · have he : Hid ((Z1, Z2) = ((0, false) : Int × Bool)) := Lib.hid (by rw [HZ4.out]; exact if_pos (by omega))
          clear HZ4
          go_wp2
          go_ret2
          refine ⟨HB.out, ?_⟩
          injection he.out with e1 e2
          subst e1 e2
          rfl
        by_cases t2 : y < 0
        · have he : Hid ((Z1, Z2) = ((0, false) : Int × Bool)) := Lib.hid (by rw [HZ4.out]; exact if_pos (by omega))
          clear HZ4
          go_wp2
          go_ret2
          refine ⟨HB.out, ?_⟩
          injection he.out with e1 e2
          subst e1 e2
          rfl
        by_cases t3 : 59 < y
        · have he : Hid ((Z1, Z2) = ((0, false) : Int × Bool)) := Lib.hid (by rw [HZ4.out]; exact if_pos (by omega))
          clear HZ4
          go_wp2
          go_ret2
          refine ⟨HB.out, ?_⟩
          injection he.out with e1 e2
          subst e1 e2
          rfl
        have he := Lib.hid (HZ4.out.trans (if_neg (by omega)))
        have e1 : IntKind.i64.wrap (3600 * x) = 3600 * x := IntWalk.i64_in _ (by omega)
        have e2 : IntKind.i64.wrap (60 * y) = 60 * y := IntWalk.i64_in _ (by omega)
        have e3 : IntKind.i64.wrap (3600 * x + 60 * y) = 3600 * x + 60 * y := IntWalk.i64_in _ (by omega)
        have e4 : IntKind.i64.wrap (-3600 * x) = -3600 * x := IntWalk.i64_in _ (by omega)
        have e5 : IntKind.i64.wrap (-3600 * x - 60 * y) = -3600 * x - 60 * y := IntWalk.i64_in _ (by omega)
        clear HZ4
        go_wp2
        go_ret2
        refine ⟨HB.out, ?_⟩
        injection he.out with e1 e2
        subst e1 e2
        first | rfl | simp
    · have ha1 : a ≠ 43 := fun h => ha (.inl h)
      have ha2 : a ≠ 45 := fun h => ha (.inr h)
      have he : Hid ((Z1, Z2) = ((0, false) : Int × Bool)) := Lib.hid (by rw [HZ3.out]; exact if_pos ⟨ha1, ha2⟩)
      have n3 : ((a.toNat : Int) != 43) = true := bne_iff_ne.2 fun h => ha1 (UInt8.toNat_inj.1 (show a.toNat = 43 by omega))
      have n4 : ((a.toNat : Int) != 45) = true := bne_iff_ne.2 fun h => ha2 (UInt8.toNat_inj.1 (show a.toNat = 45 by omega))
      have g0 : (⟨#[a, b, c, d, f]⟩ : ByteArray)[0]'(show 0 < 5 by omega) = a := rfl
      clear HZ3 ha ha1 ha2
      go_enter Tryz.func29, Tryz.ntmps29
      go_wp2_with fail
      refine (HL.out _).mono ?_
      rintro e w2 ⟨hb2, rfl⟩
      go_wp2
      go_ret2
      refine ⟨hb2, ?_⟩
      injection he.out with e1 e2
      subst e1 e2
      rfl
  · have h5' : ((s.size : Int) != 5) = true := bne_iff_ne.2 (by omega)
    have he : Hid ((Z1, Z2) = ((0, false) : Int × Bool)) := Lib.hid (by rw [HZ2.out]; exact rzoneL_not5 (by rw [← Lib.size_eq]; exact h5))
    clear h5
    go_enter Tryz.func29, Tryz.ntmps29
    go_wp2_with fail
    refine (HL.out _).mono ?_
    rintro e w2 ⟨hb2, rfl⟩
    go_wp2
    go_ret2
    refine ⟨hb2, ?_⟩
    injection he.out with e1 e2
    subst e1 e2
    rfl
/-- what stands between blanks: the pieces of the spans -/
def cutS (s : ByteArray) (acc : List (Nat × Nat)) : List ByteArray := acc.map fun x => s.extract x.1 x.2
theorem cutS_app (s : ByteArray) (acc : List (Nat × Nat)) (a b : Nat) : cutS s (acc ++ [(a, b)]) = cutS s acc ++ [s.extract a b] := by simp [cutS]
def stI : Option Nat → Int
  | none => -1
  | some a => (a : Int)
def isSpB (c : UInt8) : Bool := isSp c.toNat
theorem words_spans (s : ByteArray) : Lib.goFieldsP isSp s = cutS s (Lib.closeSpans s (spB isSpB s.data.toList 0 none [])) := by
  unfold Lib.goFieldsP Lib.spansOfP
  rw [spans_bytes isSp (fun x hx => by unfold isSp at hx; have := beq_iff_eq.1 hx; omega) s s.size 0 none [] (by omega), List.drop_zero]
  rfl
def RWords (s : ByteArray) (w : World) (e : Ending) (w' : World) : Prop := Below w.heap.size w w' ∧ ∃ v, e = .returned v ∧ OwnS w' w.heap.size 9 v (Lib.goFieldsP isSp s)
set_option maxRecDepth 100000 in
set_option maxHeartbeats 2000000 in
theorem rwords_walk (s : ByteArray) (w : World) (hs : s.size < 4294967281) :
    Calls Tryz.prog 25 #[.string s] w (RWords s w) := by
  have hF := words_spans s
  obtain ⟨T, hT⟩ : ∃ T, T = spB isSpB (s.data.toList.drop 0) 0 none [] := ⟨_, rfl⟩
  rw [List.drop_zero] at hT
  rw [← hT] at hF
  unfold RWords
  generalize Lib.goFieldsP isSp s = F at *
  have HF := Lib.hid hF
  have HT : Hid (T = spB isSpB (s.data.toList.drop 0) 0 none []) := Lib.hid (by rw [List.drop_zero]; exact hT)
  have HSZ := Lib.hid (Lib.size_eq s)
  clear hF hT
  go_enter Tryz.func25, Tryz.ntmps25
  go_wp2_with fail
  go_loopg [3, 4, 5] (s.size + 1) (fun k out fr i wr => ∃ (j : Nat) (L : List ByteArray) (fv : Int), j + k = s.size + 1 ∧ i = .int .i64 j ∧ fr = .int .i64 fv ∧ -1 ≤ fv ∧ fv ≤ j ∧ L.length ≤ j ∧ Hid (Below w.heap.size w wr) ∧ Hid (OwnS wr w.heap.size 9 out L) ∧
    Hid (if j ≤ s.size then ∃ acc st, L = cutS s acc ∧ fv = stI st ∧ T = spB isSpB (s.data.toList.drop j) j st acc else L = F))
  case atStart => exact ⟨0, [], -1, by omega, rfl, rfl, by omega, by omega, by simp, Lib.hid (Below.refl _ _), Lib.hid (OwnS.nil _ _ _), Lib.hid (by rw [if_pos (by omega)]; exact ⟨[], none, rfl, rfl, HT.out⟩)⟩
  case round =>
    obtain ⟨j, L, fv, hj, rfl, rfl, hf0, hf1, hL, HB, HO, H⟩ := hrel
    clear HT
    by_cases hle : j ≤ s.size
    · have hle1 : (j : Int) ≤ (s.size : Int) := by omega
      have H' := H.out
      rw [if_pos hle] at H'
      obtain ⟨acc, st, hLa, hst, hTT⟩ := H'
      have HLA := Lib.hid hLa
      have HST := Lib.hid hst
      have HTT := Lib.hid hTT
      have hsz1 := HB.out.size
      clear H hLa hTT hst
      by_cases hlt : j < s.size
      · have hje : ((j : Int) == (s.size : Int)) = false := beq_eq_false_iff_ne.2 (by omega)
        have HD := Lib.hid (drop_at s hlt)
        have HIS : Hid (isSpB s[j] = ((s[j].toNat : Int) == 32)) := Lib.hid (by unfold isSpB isSp; rw [Bool.eq_iff_iff]; simp; omega)
        by_cases hc : ((s[j].toNat : Int) == 32) = true
        · cases st with
          | none =>
            obtain rfl : fv = -1 := HST.out
            have HN : Hid (T = spB isSpB (s.data.toList.drop (j + 1)) (j + 1) none acc) := Lib.hid (by rw [HTT.out, HD.out]; exact spB_sep (by rw [HIS.out]; exact hc) _ _ _)
            clear HTT HD HIS HST
            go_wp2
            go_roundg (gk - 1)
            case rel => exact ⟨j + 1, L, -1, by omega, by go_num, rfl, by omega, by omega, by omega, HB, HO, Lib.hid (by rw [if_pos (by omega)]; exact ⟨acc, none, HLA.out, rfl, HN.out⟩)⟩
            case measure => omega
          | some a =>
            obtain rfl : fv = (a : Int) := HST.out
            have HN : Hid (T = spB isSpB (s.data.toList.drop (j + 1)) (j + 1) none (acc ++ [(a, j)])) := Lib.hid (by rw [HTT.out, HD.out]; exact spB_end (by rw [HIS.out]; exact hc) _ _ _ _)
            have ha1 : a ≤ j := by omega
            have OA := Lib.hid (HO.out.alloc (.cells #[.string (s.extract a j)] 9))
            have BA := Lib.hid (HB.out.alloc hsz1 (.cells #[.string (s.extract a j)] 9))
            clear HTT HD HIS HST
            go_wp2_with (at_builtin; go_loud (refine wpList_appOneS _ ueS _ _ rfl rfl w.heap.size (by rfl) OA.out wr.heap.size 1 (by rfl) (s.extract a j) (cell_new _ _ _ (by simp)) (by omega) (by simp; omega) ?_; intro v3 w3 hown3 hbel3; have HO3 := Lib.hid hown3; have HB3 := Lib.hid (BA.out.trans hbel3); clear hown3 hbel3))
            go_roundg (gk - 1)
            case rel => exact ⟨j + 1, _, -1, by omega, by go_num, rfl, by omega, by omega, by simp; omega, HB3, HO3, Lib.hid (by rw [if_pos (by omega)]; exact ⟨acc ++ [(a, j)], none, by rw [cutS_app, HLA.out], rfl, HN.out⟩)⟩
            case measure => omega
        · have hc' : ((s[j].toNat : Int) == 32) = false := by simpa using hc
          have HN : Hid (T = spB isSpB (s.data.toList.drop (j + 1)) (j + 1) (some (st.getD j)) acc) := Lib.hid (by rw [HTT.out, HD.out]; exact spB_no (by rw [HIS.out]; exact hc') _ _ _ _)
          clear HTT HD HIS hc
          cases st with
          | none =>
            obtain rfl : fv = -1 := HST.out
            clear HST
            go_wp2
            go_roundg (gk - 1)
            case rel => exact ⟨j + 1, L, (j : Int), by omega, by go_num, rfl, by omega, by omega, by omega, HB, HO, Lib.hid (by rw [if_pos (by omega)]; exact ⟨acc, some j, HLA.out, rfl, HN.out⟩)⟩
            case measure => omega
          | some a =>
            obtain rfl : fv = (a : Int) := HST.out
            clear HST
            go_wp2
            go_roundg (gk - 1)
            case rel => exact ⟨j + 1, L, (a : Int), by omega, by go_num, rfl, by omega, by omega, by omega, HB, HO, Lib.hid (by rw [if_pos (by omega)]; exact ⟨acc, some a, HLA.out, rfl, HN.out⟩)⟩
            case measure => omega
      · obtain rfl : j = s.size := by omega
        have HTE : Hid (T = (acc, st)) := Lib.hid (by rw [HTT.out, List.drop_of_length_le (by rw [← HSZ.out]; omega)]; rfl)
        clear HTT hlt hle
        cases st with
        | none =>
          obtain rfl : fv = -1 := HST.out
          have HN : Hid (L = F) := Lib.hid (by rw [HLA.out, HF.out, HTE.out]; rfl)
          clear HST
          go_wp2
          go_roundg (gk - 1)
          case rel => exact ⟨s.size + 1, L, -1, by omega, by go_num, rfl, by omega, by omega, by omega, HB, HO, Lib.hid (by rw [if_neg (by omega)]; exact HN.out)⟩
          case measure => omega
        | some a =>
          obtain rfl : fv = (a : Int) := HST.out
          have HN : Hid (L ++ [s.extract a s.size] = F) := Lib.hid (by rw [HLA.out, HF.out, HTE.out, ← cutS_app]; rfl)
          have ha1 : a ≤ s.size := by omega
          have OA := Lib.hid (HO.out.alloc (.cells #[.string (s.extract a s.size)] 9))
          have BA := Lib.hid (HB.out.alloc hsz1 (.cells #[.string (s.extract a s.size)] 9))
          clear HST
          go_wp2_with (at_builtin; go_loud (refine wpList_appOneS _ ueS _ _ rfl rfl w.heap.size (by rfl) OA.out wr.heap.size 1 (by rfl) (s.extract a s.size) (cell_new _ _ _ (by simp)) (by omega) (by simp; omega) ?_; intro v3 w3 hown3 hbel3; have HO3 := Lib.hid hown3; have HB3 := Lib.hid (BA.out.trans hbel3); clear hown3 hbel3))
          go_roundg (gk - 1)
          case rel => exact ⟨s.size + 1, _, -1, by omega, by go_num, rfl, by omega, by omega, by simp; omega, HB3, HO3, Lib.hid (by rw [if_neg (by omega)]; exact HN.out)⟩
          case measure => omega
    · have hle1 : ¬ (j : Int) ≤ (s.size : Int) := by omega
      have hN : L = F := by have := H.out; rwa [if_neg hle] at this
      rw [hN] at HO
      clear H hN
      go_wp2
      go_ret
      exact ⟨HB.out, _, rfl, HO.out⟩
end Go.Proofs.YtdkhoiahmjadnaaGreatDoor
