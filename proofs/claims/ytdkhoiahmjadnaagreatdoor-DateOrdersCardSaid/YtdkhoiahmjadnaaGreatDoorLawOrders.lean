/-
  The walk of the statement DateOrders. It asks what the library's tables hold.
-/
import Derived.Test.YtdkhoiahmjadnaaGreatDoorShown
namespace Go.Proofs.YtdkhoiahmjadnaaGreatDoor
open Go.RowKit Go.Sort
set_option linter.unusedVariables false

theorem Ok.month {y m m' d d' : Int} (h : Ok y m d) (h' : Ok y m' d') (hl : m < m') : dn y m d < dn y m' d' := by
  obtain ⟨h1, h2, h3, h4⟩ := h
  obtain ⟨g1, g2, g3, g4⟩ := h'
  have := dn_mono_m y (m' - (m + 1)).toNat (m + 1) (by omega) (by omega)
  rw [show m + 1 + ((m' - (m + 1)).toNat : Int) = m' by omega] at this
  have := md_dn y m h1 (by omega)
  rw [dn_d y m d, dn_d y m' d']
  omega
theorem Ok.years {y y' m m' d d' : Int} (h : Ok y m d) (h' : Ok y' m' d') (hl : y < y') : dn y m d < dn y' m' d' := by
  have a := h.year
  have b := h'.year
  have := dn_mono_y (y' - (y + 1)).toNat (y + 1)
  rw [show y + 1 + ((y' - (y + 1)).toNat : Int) = y' by omega] at this
  omega
/-- which of two rows is less, by their first difference: -1, 1; 0: none -/
def cmpL : List Int → List Int → Int
  | x :: a, y :: b => if x < y then -1 else if y < x then 1 else cmpL a b
  | _, _ => 0
theorem cmp_dates {a b : Int} {di d mo y h mi s di' d' mo' y' h' mi' s' : Nat} (P : Parts a di d mo y h mi s) (P' : Parts b di' d' mo' y' h' mi' s') (h0 : 0 ≤ a) (h0' : 0 ≤ b) :
    (a < b ∧ cmpL [(y : Int), mo, d, h, mi, s] [(y' : Int), mo', d', h', mi', s'] = -1) ∨ (b < a ∧ cmpL [(y : Int), mo, d, h, mi, s] [(y' : Int), mo', d', h', mi', s'] = 1) ∨ (a = b ∧ cmpL [(y : Int), mo, d, h, mi, s] [(y' : Int), mo', d', h', mi', s'] = 0) := by
  obtain ⟨ok, e⟩ := civ_ok (show 0 ≤ a / 86400 by omega)
  obtain ⟨ok', e'⟩ := civ_ok (show 0 ≤ b / 86400 by omega)
  rw [P.cy, P.cm, P.cd] at ok e
  rw [P'.cy, P'.cm, P'.cd] at ok' e'
  have t1 := P.et
  have t2 := P'.et
  have q1 := P.hmi
  have q2 := P'.hmi
  have q3 := P.hs
  have q4 := P'.hs
  have q5 := P.hh
  have q6 := P'.hh
  have hC : cmpL [(y : Int), mo, d, h, mi, s] [(y' : Int), mo', d', h', mi', s'] = if (y : Int) < y' then -1 else if (y' : Int) < y then 1 else if (mo : Int) < mo' then -1 else if (mo' : Int) < mo then 1 else if (d : Int) < d' then -1 else if (d' : Int) < d then 1 else
    if (h : Int) < h' then -1 else if (h' : Int) < h then 1 else if (mi : Int) < mi' then -1 else if (mi' : Int) < mi then 1 else if (s : Int) < s' then -1 else if (s' : Int) < s then 1 else 0 := rfl
  rw [hC]
  clear hC
  by_cases c1 : (y : Int) < y'
  · have := ok.years ok' c1
    rw [if_pos c1]
    left; exact ⟨by omega, rfl⟩
  rw [if_neg c1]
  by_cases c2 : (y' : Int) < y
  · have := ok'.years ok c2
    rw [if_pos c2]
    right; left; exact ⟨by omega, rfl⟩
  rw [if_neg c2]
  obtain rfl : y = y' := by omega
  by_cases c3 : (mo : Int) < mo'
  · have := ok.month ok' c3
    rw [if_pos c3]
    left; exact ⟨by omega, rfl⟩
  rw [if_neg c3]
  by_cases c4 : (mo' : Int) < mo
  · have := ok'.month ok c4
    rw [if_pos c4]
    right; left; exact ⟨by omega, rfl⟩
  rw [if_neg c4]
  obtain rfl : mo = mo' := by omega
  rw [dn_d y mo d] at e
  rw [dn_d y mo d'] at e'
  clear ok ok' c1 c2 c3 c4 P P'
  repeat' split
  all_goals omega
theorem week {a : Int} (h0 : 0 ≤ a) (h1 : a ≤ 253402300799) (h2 : a + 604800 ≤ 253402300799) : dayV a = dayV (a + 604800) := by
  have e1 : dayV a = (a / 86400 + 4) % 7 := if_neg (by omega)
  have e2 : dayV (a + 604800) = ((a + 604800) / 86400 + 4) % 7 := if_neg (by omega)
  rw [e1, e2]
  omega
theorem civ_six (t : Int) : ∃ x0 x1 x2 x3 x4 x5 : Int, civA t = #[.int .i64 x0, .int .i64 x1, .int .i64 x2, .int .i64 x3, .int .i64 x4, .int .i64 x5] := by
  unfold civA
  split <;> exact ⟨_, _, _, _, _, _, rfl⟩
theorem dayE_cases (t : Int) : (dayE t = 130 ∧ ¬ (0 ≤ t ∧ t ≤ 253402300799)) ∨ (dayE t = 0 ∧ 0 ≤ t ∧ t ≤ 253402300799) := by
  by_cases h : 0 ≤ t ∧ t ≤ 253402300799
  · exact .inr ⟨dayE_ok h.1 h.2, h⟩
  · exact .inl ⟨dayE_bad h, h⟩
theorem six_at (a b c d e f : Int) {j : Nat} (hj : j < 6) : (#[.int .i64 a, .int .i64 b, .int .i64 c, .int .i64 d, .int .i64 e, .int .i64 f] : Array Value)[j]? = some (.int .i64 (([a, b, c, d, e, f] : List Int).getD j 0)) := by
  have : j = 0 ∨ j = 1 ∨ j = 2 ∨ j = 3 ∨ j = 4 ∨ j = 5 := by omega
  rcases this with rfl | rfl | rfl | rfl | rfl | rfl <;> rfl
theorem drop_getD {l : List Int} {j : Nat} (h : j < l.length) : l.drop j = l.getD j 0 :: l.drop (j + 1) := by
  rw [List.drop_eq_getElem_cons h, List.getD_eq_getElem?_getD, List.getElem?_eq_getElem h]; rfl
set_option maxRecDepth 100000 in
set_option maxHeartbeats 4000000 in
theorem orders_walk (a b : Int) (w : World) (ha : -9223372036854775808 ≤ a ∧ a ≤ 9223372036854775807) (hb : -9223372036854775808 ≤ b ∧ b ≤ 9223372036854775807) (T : TabsD w) :
    Calls Tryz.prog 6 #[.int .i64 a, .int .i64 b] w fun e w' => Below w.heap.size w w' ∧ e = .returned (.bool true) := by
  have HS := Lib.hid (fun w' T' => shown_walk w' T')
  have HA := Lib.hid (fun w' => civ_walk a w' ha.1 ha.2)
  have HB := Lib.hid (fun w' => civ_walk b w' hb.1 hb.2)
  have HDY := Lib.hid (fun t w' h0 h1 => day_walk t w' h0 h1)
  obtain ⟨x0, x1, x2, x3, x4, x5, hX⟩ := civ_six a
  obtain ⟨y0, y1, y2, y3, y4, y5, hY⟩ := civ_six b
  rw [hX] at HA
  rw [hY] at HB
  have hcmp : dayE a = 0 → dayE b = 0 → (0 ≤ a ∧ a ≤ 253402300799) ∧ ((a < b ∧ cmpL [x0, x1, x2, x3, x4, x5] [y0, y1, y2, y3, y4, y5] = -1) ∨ (b < a ∧ cmpL [x0, x1, x2, x3, x4, x5] [y0, y1, y2, y3, y4, y5] = 1) ∨ (a = b ∧ cmpL [x0, x1, x2, x3, x4, x5] [y0, y1, y2, y3, y4, y5] = 0)) := by
    intro e1 e2
    rcases dayE_cases a with h | ⟨_, a0, a1⟩
    · rw [h.1] at e1; exact absurd e1 (by decide)
    rcases dayE_cases b with h | ⟨_, b0, b1⟩
    · rw [h.1] at e2; exact absurd e2 (by decide)
    obtain ⟨di, d, mo, y, h, mi, s, P⟩ := parts_of a0 a1
    obtain ⟨di', d', mo', y', h', mi', s', P'⟩ := parts_of b0 b1
    have c1 := P.civ
    have c2 := P'.civ
    rw [hX] at c1
    rw [hY] at c2
    simp only [Array.mk.injEq, List.cons.injEq, Value.int.injEq, true_and, and_true] at c1 c2
    obtain ⟨rfl, rfl, rfl, rfl, rfl, rfl⟩ := c1
    obtain ⟨rfl, rfl, rfl, rfl, rfl, rfl⟩ := c2
    exact ⟨⟨a0, a1⟩, cmp_dates P P' a0 b0⟩
  have hea := dayE_cases a
  have heb := dayE_cases b
  have HCM := Lib.hid hcmp
  clear hcmp hX hY
  have TT : Hid (∀ w', Below w.heap.size w w' → TabsD w') := Lib.hid fun w' hb => T.keep hb
  clear T
  have HEA : Hid ((dayE a = 130 ∧ ¬ (0 ≤ a ∧ a ≤ 253402300799)) ∨ (dayE a = 0 ∧ 0 ≤ a ∧ a ≤ 253402300799)) := Lib.hid hea
  have HEB : Hid ((dayE b = 130 ∧ ¬ (0 ≤ b ∧ b ≤ 253402300799)) ∨ (dayE b = 0 ∧ 0 ≤ b ∧ b ≤ 253402300799)) := Lib.hid heb
  clear hea heb
  generalize hEA : dayE a = ea at *
  generalize dayE b = eb at *
  have HEQ := Lib.hid hEA
  clear hEA
  go_enter Tryz.func6, Tryz.ntmps6
  go_wp2_with fail
  refine (HS.out _ (TT.out _ (Below.refl _ _))).mono ?_
  rintro e w1 ⟨hb1, rfl⟩
  go_wp2_with fail
  refine (HA.out w1).mono ?_
  rintro e w2 ⟨hb2, rfl⟩
  have bkA := Blk.new w2 23 #[.int .i64 x0, .int .i64 x1, .int .i64 x2, .int .i64 x3, .int .i64 x4, .int .i64 x5]
  have hb3 := (hb1.trans (hb2.mono hb1.size)).alloc (Nat.le_trans hb1.size hb2.size) (.cells #[.int .i64 x0, .int .i64 x1, .int .i64 x2, .int .i64 x3, .int .i64 x4, .int .i64 x5] 23)
  clear hb1 hb2 HA
  go_upto_region 3 with fail
  generalize hw3 : w2.alloc (.cells #[.int .i64 x0, .int .i64 x1, .int .i64 x2, .int .i64 x3, .int .i64 x4, .int .i64 x5] 23) = w3 at *
  clear hw3
  go_wp2_with fail
  refine (HB.out w3).mono ?_
  rintro e w4 ⟨hb4, rfl⟩
  have bkA4 := bkA.keep hb4
  have bkB := Blk.new w4 23 #[.int .i64 y0, .int .i64 y1, .int .i64 y2, .int .i64 y3, .int .i64 y4, .int .i64 y5]
  have bkA5 := bkA4.alloc (.cells #[.int .i64 y0, .int .i64 y1, .int .i64 y2, .int .i64 y3, .int .i64 y4, .int .i64 y5] 23)
  have hb5 := (hb3.trans (hb4.mono hb3.size)).alloc (Nat.le_trans hb3.size hb4.size) (.cells #[.int .i64 y0, .int .i64 y1, .int .i64 y2, .int .i64 y3, .int .i64 y4, .int .i64 y5] 23)
  clear hb3 hb4 HB bkA bkA4
  go_upto_region 4 with fail
  generalize hw5 : w4.alloc (.cells #[.int .i64 y0, .int .i64 y1, .int .i64 y2, .int .i64 y3, .int .i64 y4, .int .i64 y5] 23) = w5 at *
  clear hw5
  have B5 := Lib.hid hb5
  obtain ⟨X, hX⟩ : ∃ X : List Int, X = [x0, x1, x2, x3, x4, x5] := ⟨_, rfl⟩
  obtain ⟨Y, hY⟩ : ∃ Y : List Int, Y = [y0, y1, y2, y3, y4, y5] := ⟨_, rfl⟩
  have KA : Hid (∀ w', Below w5.heap.size w5 w' → ∀ j, j < 6 → w'.cell? ⟨w2.heap.size, j, none⟩ = some (.int .i64 (X.getD j 0))) := Lib.hid fun w' hb j hj => by
    rw [(bkA5.keep hb).cell j, hX]
    exact six_at _ _ _ _ _ _ hj
  have KB : Hid (∀ w', Below w5.heap.size w5 w' → ∀ j, j < 6 → w'.cell? ⟨w4.heap.size, j, none⟩ = some (.int .i64 (Y.getD j 0))) := Lib.hid fun w' hb j hj => by
    rw [(bkB.keep hb).cell j, hY]
    exact six_at _ _ _ _ _ _ hj
  have HLX : Hid (X.length = 6 ∧ Y.length = 6) := Lib.hid (by rw [hX, hY]; exact ⟨rfl, rfl⟩)
  clear bkA5 bkB hb5
  rcases HEA.out with ⟨rfl, -⟩ | ⟨rfl, a0, a1⟩
  · go_wp2
    go_ret
    exact ⟨B5.out, rfl⟩
  rcases HEB.out with ⟨rfl, -⟩ | ⟨rfl, -⟩
  · go_wp2
    go_ret
    exact ⟨B5.out, rfl⟩
  have hC := (HCM.out rfl rfl).2
  rw [← hX, ← hY] at hC
  clear HCM HEA HEB hX hY
  generalize hCg : cmpL X Y = C at *
  have HC := Lib.hid hC
  have HCG := Lib.hid hCg
  clear hC hCg
  go_wp2
  go_loopg [10, 11] 6 (fun k c i wr => Below w5.heap.size w5 wr ∧ ∃ (j : Nat) (cv : Int), j + k = 6 ∧ c = .int .i64 cv ∧ i = .int .i64 j ∧ Hid (C = if cv = 0 then cmpL (X.drop j) (Y.drop j) else cv) ∧ (cv = 0 ∨ cv = 1 ∨ cv = -1))
  case atStart => exact ⟨Below.refl _ _, 0, 0, rfl, rfl, rfl, Lib.hid (by rw [if_pos rfl]; exact HCG.out.symm), .inl rfl⟩
  case round =>
    obtain ⟨hb, j, cv, hj, rfl, rfl, H, hcv⟩ := hrel
    by_cases hgo : j < 6 ∧ cv = 0
    · obtain ⟨hj6, rfl⟩ := hgo
      have ca := KA.out wr hb j hj6
      have cb := KB.out wr hb j hj6
      have H2 : Hid (C = if X.getD j 0 < Y.getD j 0 then -1 else if Y.getD j 0 < X.getD j 0 then 1 else cmpL (X.drop (j + 1)) (Y.drop (j + 1))) := Lib.hid (by
        rw [H.out, if_pos rfl, drop_getD (by rw [HLX.out.1]; exact hj6), drop_getD (l := Y) (by rw [HLX.out.2]; exact hj6)]
        rfl)
      have HB := Lib.hid hb
      clear H hb
      generalize X.getD j 0 = p at *
      generalize Y.getD j 0 = q at *
      rcases Int.lt_trichotomy p q with l1 | rfl | l1
      · have l2 : ¬ q < p := by omega
        have hC : Hid (C = -1) := Lib.hid (by rw [H2.out, if_pos l1])
        clear H2
        have l2d : decide (q < p) = false := by simpa using l2
        go_wp2
        go_quiet (fail)
        go_wp2
        go_quiet (fail)
        go_wp2
        go_roundg (gk - 1)
        case rel => exact ⟨bdrewN HB.out _, j + 1, -1, by omega, rfl, by go_num, Lib.hid (by rw [hC.out, if_neg (by decide)]), by omega⟩
        case measure => omega
      · have l2 : ¬ p < p := by omega
        have hC : Hid (C = cmpL (X.drop (j + 1)) (Y.drop (j + 1))) := Lib.hid (by rw [H2.out, if_neg l2, if_neg l2])
        clear H2
        go_wp2
        go_quiet (fail)
        go_wp2
        go_quiet (fail)
        go_wp2
        go_roundg (gk - 1)
        case rel => exact ⟨bdrewN HB.out _, j + 1, 0, by omega, rfl, by go_num, Lib.hid (by rw [hC.out, if_pos rfl]), by omega⟩
        case measure => omega
      · have l2 : ¬ p < q := by omega
        have hC : Hid (C = 1) := Lib.hid (by rw [H2.out, if_neg l2, if_pos l1])
        clear H2
        have l2d : decide (p < q) = false := by simpa using l2
        go_wp2
        go_quiet (fail)
        go_wp2
        go_quiet (fail)
        go_wp2
        go_roundg (gk - 1)
        case rel => exact ⟨bdrewN HB.out _, j + 1, 1, by omega, rfl, by go_num, Lib.hid (by rw [hC.out, if_neg (by decide)]), by omega⟩
        case measure => omega
    · have hCv : C = cv := by
        rw [H.out]
        by_cases h0 : cv = 0
        · have hj6 : j = 6 := by omega
          rw [if_pos h0, List.drop_of_length_le (by rw [HLX.out.1]; omega), h0]
          rfl
        · rw [if_neg h0]
      have HB := Lib.hid hb
      have hcmp := HC.out
      rw [hCv] at hcmp
      clear H hb HC HCG KA KB HLX hCv
      have hD1 := fun w' => HDY.out a w' (by omega) (by omega)
      have hD2 := fun w' => HDY.out (a + 604800) w' (by omega) (by omega)
      have hE := dayE_cases (a + 604800)
      have hE0 := dayE_ok a0 a1
      rw [hE0] at hD1
      have hwk : dayE (a + 604800) = 0 → dayV a = dayV (a + 604800) := fun e => by
        rcases hE with h | h
        · rw [h.1] at e; exact absurd e (by decide)
        · exact week a0 a1 h.2.2
      have HWK : Hid (dayE (a + 604800) = 130 ∨ (dayE (a + 604800) = 0 ∧ dayV a = dayV (a + 604800))) := Lib.hid (by
        rcases hE with h | h
        · exact .inl h.1
        · exact .inr ⟨h.1, hwk h.1⟩)
      clear hE hE0 hwk
      generalize dayE (a + 604800) = e7 at *
      generalize dayV (a + 604800) = v7 at *
      generalize dayV a = v0 at *
      have HD1 := Lib.hid hD1
      have HD2 := Lib.hid hD2
      clear hD1 hD2
      have hgo' : ¬ j < 6 ∨ (j < 6 ∧ ¬ cv = 0) := by omega
      have hab : (a < b ∧ ¬ b < a ∧ cv = -1) ∨ (¬ a < b ∧ b < a ∧ cv = 1) ∨ (¬ a < b ∧ ¬ b < a ∧ cv = 0) := by omega
      clear hcmp hgo hcv
      rcases hgo' with g1 | ⟨g1, g2⟩
      all_goals
        rcases hab with ⟨l1, l2, rfl⟩ | ⟨l1, l2, rfl⟩ | ⟨l1, l2, rfl⟩
        all_goals first
          | (exact absurd rfl g2)
          | (go_wp2_with fail
             refine (HD1.out _).mono ?_
             rintro e w6 ⟨rfl, rfl⟩
             go_wp2_with fail
             refine (HD2.out _).mono ?_
             rintro e w7 ⟨rfl, rfl⟩
             rcases HWK.out with rfl | ⟨rfl, rfl⟩
             · go_wp2
               go_ret
               exact ⟨B5.out.trans (HB.out.mono B5.out.size), rfl⟩
             · go_wp2
               go_ret
               exact ⟨B5.out.trans (HB.out.mono B5.out.size), by simp⟩)
end Go.Proofs.YtdkhoiahmjadnaaGreatDoor
