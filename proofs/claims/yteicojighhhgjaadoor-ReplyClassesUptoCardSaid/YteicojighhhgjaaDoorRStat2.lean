/-
  The walks of waybillref14.Status and of both Class. No condition but the sizes that the form gives.
-/
import Derived.Test.YteicojighhhgjaaDoorRStat
import Derived.Test.YteicojighhhgjaaDoorMore
namespace Go.Proofs.YteicojighhhgjaaDoor
open Go.RowKit Go.Sort
set_option linter.unusedVariables false

def classP (n : Int) : Int := if codeOk n = true then n / 100 else 0
theorem class_walk (n : Int) (w : World) : Calls Tryd.prog 17 #[.int .i64 n] w fun e w' => w = w' ∧ e = .returned (.int .i64 (classP n)) := by
  have HC := Lib.hid (code_walk n w)
  cases hco : codeOk n
  · have h : classP n = 0 := by unfold classP; rw [hco]; rfl
    rw [hco] at HC
    rw [h]
    clear hco h
    go_enter Tryd.func17, Tryd.ntmps17
    go_wp2_with fail
    refine HC.out.mono ?_
    rintro e w' ⟨rfl, rfl⟩
    go_wp2
    go_ret
    exact ⟨rfl, rfl⟩
  · have h : classP n = n / 100 := by unfold classP; rw [hco]; rfl
    rw [hco] at HC
    rw [h]
    unfold codeOk at hco
    rw [decide_eq_true_eq] at hco
    have h0 : 200 ≤ n := hco.1
    have h1 : n ≤ 599 := hco.2.1
    clear hco h
    go_enter Tryd.func17, Tryd.ntmps17
    go_wp2_with fail
    refine HC.out.mono ?_
    rintro e w' ⟨rfl, rfl⟩
    go_wp2
    go_ret
    exact ⟨rfl, rfl⟩
theorem rclass_walk (n : Int) (w : World) : Calls Tryd.prog 18 #[.int .i64 n] w fun e w' => w = w' ∧ e = .returned (.int .i64 (classP n)) := by
  have HC := Lib.hid (rcode_walk n w)
  cases hco : codeOk n
  · have h : classP n = 0 := by unfold classP; rw [hco]; rfl
    rw [hco] at HC
    rw [h]
    clear hco h
    go_enter Tryd.func18, Tryd.ntmps18
    go_wp2_with fail
    refine HC.out.mono ?_
    rintro e w' ⟨rfl, rfl⟩
    go_wp2
    go_ret
    exact ⟨rfl, rfl⟩
  · have h : classP n = n / 100 := by unfold classP; rw [hco]; rfl
    rw [hco] at HC
    rw [h]
    unfold codeOk at hco
    rw [decide_eq_true_eq] at hco
    have h0 : 200 ≤ n := hco.1
    have h1 : n ≤ 599 := hco.2.1
    clear hco h
    go_enter Tryd.func18, Tryd.ntmps18
    go_wp2_with fail
    refine HC.out.mono ?_
    rintro e w' ⟨rfl, rfl⟩
    go_wp2
    go_ret
    exact ⟨rfl, rfl⟩

set_option maxRecDepth 100000 in
set_option maxHeartbeats 2000000 in
theorem rstat_walk (s : ByteArray) (w : World) (hs : s.size ≤ 140737488355328) :
    Calls Tryd.prog 20 #[.string s] w fun e w' => w = w' ∧ e = .returned (statV (statP s.data.toList)) := by
  obtain ⟨l, hl⟩ : ∃ l, s.data.toList = l := ⟨_, rfl⟩
  have hln : s.size = l.length := by rw [size_len, hl]
  have hbt : ∀ j (h : j < s.size), ((s[j]'h).toNat : Int) = bt l j := fun j h => by rw [get_list, hl]
  have hNum := fun (a : Nat) (ha : a ≤ s.size) w => num_walk s a w hs ha
  rw [hl] at hNum ⊢
  clear hl
  have HBT := Lib.hid hbt
  have HNUM := Lib.hid hNum
  have HL := Lib.hid hln
  clear hbt hNum hln
  have fin : statP l = none → Ending.returned (.tuple #[.int .i64 0, .int .i64 0, .int .i64 0, .bool false]) = .returned (statV (statP l)) := fun h => by rw [h]; rfl
  have FIN := Lib.hid fin
  have HA := Lib.hid (fun h => (show statP l = none by unfold statP; exact if_pos h))
  have HB := Lib.hid (fun h1 h2 => (show statP l = none by unfold statP; exact (if_neg h1).trans (if_pos h2)))
  have HC := Lib.hid (fun h1 h2 h3 => (show statP l = none by unfold statP; exact (if_neg h1).trans ((if_neg h2).trans (if_pos h3))))
  have HD := Lib.hid (fun h1 h2 h3 => (show statP l = some (bt l 0 - 48, nV (l.drop 2), nV (l.drop (3 + run4 (l.drop 2)))) by unfold statP; exact (if_neg h1).trans ((if_neg h2).trans (if_neg h3))))
  clear fin
  by_cases h5 : l.length < 5
  · have HN := Lib.hid (HA.out (.inl h5))
    have h5' : (s.size : Int) < 5 := by have := HL.out; omega
    clear h5 HA HB HC HD
    go_enter Tryd.func20, Tryd.ntmps20
    go_wp2
    refine bodyPost_ret (results_t4 rfl _ _ _) rfl ?_
    exact ⟨rfl, FIN.out HN.out⟩
  · have h5' : (5 : Int) ≤ (s.size : Int) := by have := HL.out; omega
    have h5n : 5 ≤ s.size := by omega
    have g0 := HBT.out 0 (by omega)
    have g1 := HBT.out 1 (by omega)
    have x0 := bt_lo l 0
    have x1 := bt_hi l 0
    have y0 := bt_lo l 1
    have y1 := bt_hi l 1
    generalize bt l 0 = x at *
    generalize bt l 1 = y at *
    have hX : (is245 x = false ∧ ((x == 50) = false ∧ (x != 50) = true) ∧ ((x == 52) = false ∧ (x != 52) = true) ∧ ((x == 53) = false ∧ (x != 53) = true)) ∨ is245 x = true := by
      unfold is245
      by_cases h1 : x = 50
      · exact .inr (by rw [decide_eq_true_eq]; exact .inl h1)
      by_cases h2 : x = 52
      · exact .inr (by rw [decide_eq_true_eq]; exact .inr (.inl h2))
      by_cases h3 : x = 53
      · exact .inr (by rw [decide_eq_true_eq]; exact .inr (.inr h3))
      · exact .inl ⟨by rw [decide_eq_false_iff_not]; omega, by simpa using h1, by simpa using h2, by simpa using h3⟩
    rcases hX with ⟨hx, ⟨q1, q2⟩, ⟨q3, q4⟩, q5, q6⟩ | hx
    · have HN := Lib.hid (HA.out (.inr (.inl hx)))
      clear h5 HA HB HC HD hx
      go_enter Tryd.func20, Tryd.ntmps20
      go_wp2
      refine bodyPost_ret (results_t4 rfl _ _ _) rfl ?_
      exact ⟨rfl, FIN.out HN.out⟩
    · refine on_ne y 46 (fun Y1 Y2 => ?_) (fun Y1 Y2 => ?_) <;> obtain ⟨Y3, Y5⟩ := Y2.out <;> clear Y2
      · have HP : Hid (¬ (l.length < 5 ∨ is245 x = false ∨ y ≠ 46)) := Lib.hid (by rintro (h | h | h); exact h5 h; rw [hx] at h; cases h; exact h Y1.out)
        have HB1 := Lib.hid (HB.out HP.out)
        have HC1 := Lib.hid (HC.out HP.out)
        have HD1 := Lib.hid (HD.out HP.out)
        have hx' : 50 ≤ x ∧ x ≤ 53 := by unfold is245 at hx; rw [decide_eq_true_eq] at hx; omega
        have hx3 : x = 50 ∨ x = 52 ∨ x = 53 := by unfold is245 at hx; rw [decide_eq_true_eq] at hx; exact hx
        have n1 : Calls Tryd.prog 37 #[.string s, .int .i64 2] w fun e w' => w = w' ∧ NumAns (l.drop 2) 2 e := HNUM.out 2 (by omega) w
        have N1 := Lib.hid n1
        have HX3 := Lib.hid hx3
        have hlb := run4_le (l.drop 2)
        rw [List.length_drop] at hlb
        obtain ⟨hm1, hm2⟩ := hlb
        obtain ⟨hx50, hx53⟩ := hx'
        clear HA HB HC HD HP hx n1 hx3
        generalize hr1 : l.drop 2 = r1 at *
        clear hr1
        go_enter Tryd.func20, Tryd.ntmps20
        go_upto_region 1 with fail
        go_cut [34] from 12 to 34 (fun t wr => w = wr ∧ t = .bool false)
        case first =>
          rcases HX3.out with rfl | rfl | rfl
          all_goals
            go_wp2
            go_meet
            exact ⟨rfl, by first | rfl | rw [decide_eq_false (show ¬ (s.size : Int) < 5 by omega)]⟩
        case rest =>
          obtain ⟨rfl, rfl⟩ := hcut
          clear HX3
          go_wp2_with fail
          refine N1.out.mono ?_
          rintro e w' ⟨rfl, n, k, rfl, hn⟩
          have HN1 := Lib.hid hn
          clear hn N1
          generalize nOk r1 = o at *
          generalize nV r1 = v1 at *
          generalize run4 r1 = m at *
          cases o
          · have HN := Lib.hid (HB1.out (.inl rfl))
            clear HB1 HC1 HD1 HN1
            go_wp2
            refine bodyPost_ret (results_t4 rfl _ _ _) rfl ?_
            exact ⟨rfl, FIN.out HN.out⟩
          · obtain ⟨rfl, hk⟩ := HN1.out rfl
            have hk' : k = 2 + (m : Int) := by rw [hk]; omega
            subst hk'
            clear HN1 hk
            by_cases hlen : l.length ≤ 2 + m
            · have HN := Lib.hid (HB1.out (.inr (.inl hlen)))
              have hl2 : (s.size : Int) ≤ 2 + (m : Int) := by have := HL.out; omega
              clear HB1 HC1 HD1 hlen
              go_wp2
              refine bodyPost_ret (results_t4 rfl _ _ _) rfl ?_
              exact ⟨rfl, FIN.out HN.out⟩
            · have hl2 : 2 + (m : Int) < (s.size : Int) := by have := HL.out; omega
              have hl3 : 2 + m < s.size := by have := HL.out; omega
              have g2 := HBT.out (2 + m) hl3
              have ej : ((2 : Int) + (m : Int)).toNat = 2 + m := by omega
              have z0 := bt_lo l (2 + m)
              have z1 := bt_hi l (2 + m)
              generalize bt l (2 + m) = z at *
              refine on_ne z 46 (fun Z1 Z2 => ?_) (fun Z1 Z2 => ?_) <;> obtain ⟨Z3, Z5⟩ := Z2.out <;> clear Z2
              · have HP2 : Hid (¬ (true = false ∨ l.length ≤ 2 + m ∨ z ≠ 46)) := Lib.hid (by rintro (h | h | h); cases h; exact hlen h; exact h Z1.out)
                have HC2 := Lib.hid (HC1.out HP2.out)
                have HD2 := Lib.hid (HD1.out HP2.out)
                have n2 : Calls Tryd.prog 37 #[.string s, .int .i64 (2 + (m : Int) + 1)] w fun e w' => w = w' ∧ NumAns (l.drop (3 + m)) (3 + m) e := by
                  have := HNUM.out (3 + m) (by omega) w
                  rwa [show ((3 + m : Nat) : Int) = 2 + (m : Int) + 1 by omega] at this
                have N2 := Lib.hid n2
                have hlb := run4_le (l.drop (3 + m))
                rw [List.length_drop] at hlb
                obtain ⟨hm3, hm4⟩ := hlb
                clear HB1 HC1 HD1 HP2 n2 hlen
                generalize l.drop (3 + m) = r2 at *
                go_wp2_with fail
                refine N2.out.mono ?_
                rintro e w' ⟨rfl, n2, k2, rfl, hn2⟩
                have HN2 := Lib.hid hn2
                clear hn2 N2
                generalize nOk r2 = o2 at *
                generalize nV r2 = v2 at *
                generalize run4 r2 = m2 at *
                cases o2
                · have HN := Lib.hid (HC2.out (.inl rfl))
                  clear HC2 HD2 HN2
                  go_wp2
                  refine bodyPost_ret (results_t4 rfl _ _ _) rfl ?_
                  exact ⟨rfl, FIN.out HN.out⟩
                · obtain ⟨rfl, hk2⟩ := HN2.out rfl
                  have hk' : k2 = 3 + (m : Int) + (m2 : Int) := by rw [hk2]; omega
                  subst hk'
                  clear HN2 hk2
                  by_cases hend : 3 + m + m2 < l.length
                  · have he2 : 3 + (m : Int) + (m2 : Int) < (s.size : Int) := by have := HL.out; omega
                    have he3 : 3 + m + m2 < s.size := by have := HL.out; omega
                    have g3 := HBT.out (3 + m + m2) he3
                    have ej2 : ((3 : Int) + (m : Int) + (m2 : Int)).toNat = 3 + m + m2 := by omega
                    have u0 := bt_lo l (3 + m + m2)
                    have u1 := bt_hi l (3 + m + m2)
                    generalize bt l (3 + m + m2) = y2 at *
                    refine on_ne y2 32 (fun V1 V2 => ?_) (fun V1 V2 => ?_) <;> obtain ⟨V3, V5⟩ := V2.out <;> clear V2
                    · have HN := Lib.hid (HD2.out (by rintro (h | ⟨_, h⟩); cases h; exact h V1.out))
                      clear HC2 HD2 hend
                      go_wp2
                      refine bodyPost_ret (results_t4 rfl _ _ _) rfl ?_
                      rw [HN.out]
                      exact ⟨rfl, rfl⟩
                    · have HN := Lib.hid (HC2.out (.inr ⟨hend, V1.out⟩))
                      clear HC2 HD2 hend
                      go_wp2
                      refine bodyPost_ret (results_t4 rfl _ _ _) rfl ?_
                      exact ⟨rfl, FIN.out HN.out⟩
                  · have he2 : (s.size : Int) ≤ 3 + (m : Int) + (m2 : Int) := by have := HL.out; omega
                    have HN := Lib.hid (HD2.out (by rintro (h | ⟨h, _⟩); cases h; exact hend h))
                    clear HC2 HD2 hend
                    go_wp2
                    refine bodyPost_ret (results_t4 rfl _ _ _) rfl ?_
                    rw [HN.out]
                    exact ⟨rfl, rfl⟩
              · have HN := Lib.hid (HB1.out (.inr (.inr Z1.out)))
                clear HB1 HC1 HD1 hlen
                go_wp2
                refine bodyPost_ret (results_t4 rfl _ _ _) rfl ?_
                exact ⟨rfl, FIN.out HN.out⟩
      · have HN := Lib.hid (HA.out (.inr (.inr Y1.out)))
        unfold is245 at hx
        rw [decide_eq_true_eq] at hx
        clear h5 HA HB HC HD
        rcases hx with rfl | rfl | rfl
        all_goals
          go_enter Tryd.func20, Tryd.ntmps20
          go_wp2
          refine bodyPost_ret (results_t4 rfl _ _ _) rfl ?_
          exact ⟨rfl, FIN.out HN.out⟩
end Go.Proofs.YteicojighhhgjaaDoor
