/-
  The walks of waybillref13's number, place, clock and zone. Conditions: a text's length.
-/
import Derived.Test.YtdkhoiahmjadnaaGreatDoorRPl
import Derived.Test.YtdkhoiahmjadnaaGreatDoorRLow
namespace Go.Proofs.YtdkhoiahmjadnaaGreatDoor
open Go.RowKit Go.Sort
set_option linter.unusedVariables false

theorem p10 {n : Int} {j : Nat} (h : n < 10 ^ j) (hj : j ≤ 4) : n < 10000 := by
  have : j = 0 ∨ j = 1 ∨ j = 2 ∨ j = 3 ∨ j = 4 := by omega
  rcases this with rfl | rfl | rfl | rfl | rfl <;> (simp at h; omega)
set_option maxHeartbeats 1000000 in
theorem rnumber_walk (s : ByteArray) (lo hi : Int) (h0 : 1 ≤ lo) (h1 : hi ≤ 4) (w : World) (hs : s.size ≤ 9223372036854775807) :
    Calls Tryz.prog 27 #[.string s, .int .i64 lo, .int .i64 hi] w fun e w' => w = w' ∧ e = .returned (.int .i64 (rnumP s.data.toList lo hi)) := by
  have HSZ := Lib.hid (Lib.size_eq s)
  by_cases hlo : (s.size : Int) < lo
  · have he : Hid (rnumP s.data.toList lo hi = -1) := Lib.hid (if_pos (by rw [← HSZ.out]; exact .inl hlo))
    go_enter Tryz.func27, Tryz.ntmps27
    go_wp2
    go_ret
    exact ⟨rfl, by rw [he.out]; rfl⟩
  by_cases hhi : hi < (s.size : Int)
  · have he : Hid (rnumP s.data.toList lo hi = -1) := Lib.hid (if_pos (by rw [← HSZ.out]; exact .inr hhi))
    go_enter Tryz.func27, Tryz.ntmps27
    go_wp2
    go_ret
    exact ⟨rfl, by rw [he.out]; rfl⟩
  have hF : rnumP s.data.toList lo hi = rnF s.data.toList 0 := if_neg (by rw [← HSZ.out]; omega)
  generalize rnumP s.data.toList lo hi = F at *
  have HF : Hid (F = rnF (s.data.toList.drop 0) 0) := Lib.hid hF
  clear hF
  go_enter Tryz.func27, Tryz.ntmps27
  go_wp2_with fail
  go_loopg [7, 8] s.size (fun k n i wr => w = wr ∧ ∃ (j : Nat) (nv : Int), j + k = s.size ∧ n = .int .i64 nv ∧ i = .int .i64 j ∧ 0 ≤ nv ∧ Hid (nv < 10 ^ j) ∧ Hid (F = rnF (s.data.toList.drop j) nv))
  case atStart => exact ⟨rfl, 0, 0, by omega, rfl, rfl, by omega, Lib.hid (by simp), HF⟩
  case round =>
    obtain ⟨rfl, j, nv, hj, rfl, rfl, hn0, HN, H⟩ := hrel
    by_cases hlt : j < s.size
    · have hj1 : (j : Int) < (s.size : Int) := by omega
      have hn1 := p10 HN.out (by omega)
      have HD := Lib.hid (drop_at s hlt)
      have h256 := s[j].toNat_lt
      have H2 : Hid (F = if s[j].toNat < 48 ∨ 57 < s[j].toNat then -1 else rnF (s.data.toList.drop (j + 1)) (10 * nv + s[j].toNat - 48)) := Lib.hid (by rw [H.out, HD.out]; rfl)
      have HP : Hid (57 < s[j].toNat ∨ 10 * nv + (s[j].toNat : Int) - 48 < 10 ^ (j + 1)) := Lib.hid (by have := HN.out; rw [Int.pow_succ]; omega)
      clear H HD
      by_cases hc : (s[j].toNat : Int) < 48
      · have he : Hid (F = -1) := Lib.hid (by rw [H2.out, if_pos (by omega)])
        clear H2 HP
        go_wp2
        go_ret
        exact ⟨rfl, by rw [he.out]; rfl⟩
      by_cases hc2 : 57 < (s[j].toNat : Int)
      · have he : Hid (F = -1) := Lib.hid (by rw [H2.out, if_pos (by omega)])
        clear H2 HP
        go_wp2
        go_ret
        exact ⟨rfl, by rw [he.out]; rfl⟩
      · have he : Hid (F = rnF (s.data.toList.drop (j + 1)) (10 * nv + s[j].toNat - 48)) := Lib.hid (by rw [H2.out, if_neg (by omega)])
        have HP2 : Hid (10 * nv + (s[j].toNat : Int) - 48 < 10 ^ (j + 1)) := Lib.hid (by have := HP.out; omega)
        clear H2 HP
        go_wp2
        go_roundg (gk - 1)
        case rel => exact ⟨rfl, j + 1, _, by omega, rfl, by go_num, by omega, HP2, he⟩
        case measure => omega
    · have hj1 : ¬ (j : Int) < (s.size : Int) := by omega
      have he : Hid (F = nv) := Lib.hid (by rw [H.out, List.drop_of_length_le (by rw [← HSZ.out]; omega)]; rfl)
      clear H
      go_wp2
      go_ret
      exact ⟨rfl, by rw [he.out]; rfl⟩
/-- the names' own letters -/
def NamesAre (N : ByteArray) (L : List ByteArray) : Prop := N.size = 3 * L.length ∧ ∀ i, i < L.length → lowBy (N.extract (3 * i) (3 * i + 3)) = st L i
theorem dayN : NamesAre ⟨#[83, 117, 110, 77, 111, 110, 84, 117, 101, 87, 101, 100, 84, 104, 117, 70, 114, 105, 83, 97, 116]⟩ dayB := by
  refine ⟨rfl, fun i hi => ?_⟩
  have hi : i < 7 := hi
  have : i = 0 ∨ i = 1 ∨ i = 2 ∨ i = 3 ∨ i = 4 ∨ i = 5 ∨ i = 6 := by omega
  rcases this with rfl | rfl | rfl | rfl | rfl | rfl | rfl <;> decide +kernel
theorem monN : NamesAre ⟨#[74, 97, 110, 70, 101, 98, 77, 97, 114, 65, 112, 114, 77, 97, 121, 74, 117, 110, 74, 117, 108, 65, 117, 103, 83, 101, 112, 79, 99, 116, 78, 111, 118, 68, 101, 99]⟩ monB := by
  refine ⟨rfl, fun i hi => ?_⟩
  have hi : i < 12 := hi
  have : i = 0 ∨ i = 1 ∨ i = 2 ∨ i = 3 ∨ i = 4 ∨ i = 5 ∨ i = 6 ∨ i = 7 ∨ i = 8 ∨ i = 9 ∨ i = 10 ∨ i = 11 := by omega
  rcases this with rfl | rfl | rfl | rfl | rfl | rfl | rfl | rfl | rfl | rfl | rfl | rfl <;> decide +kernel
set_option maxHeartbeats 1000000 in
theorem rplace_walk (N : ByteArray) (L : List ByteArray) (s : ByteArray) (w : World) (hN : NamesAre N L) (hL : L.length ≤ 100) (hs : s.size ≤ 9223372036854775807) :
    Calls Tryz.prog 26 #[.string N, .string s] w fun e w' => Below w.heap.size w w' ∧ e = .returned (.int .i64 (placeP L s)) := by
  by_cases h3 : s.size = 3
  · have hF : placeP L s = namF (lowBy s) L 0 := if_pos h3
    generalize placeP L s = F at *
    have HF : Hid (F = namF (lowBy s) (L.drop 0) ((0 : Nat) : Int)) := Lib.hid hF
    have HLW := Lib.hid (fun (x : ByteArray) (hx : x.size ≤ 100) w' => rlower_walk x w' (by unfold maxLen; omega))
    have HLS : Hid (∀ w', Calls Tryz.prog 45 #[.string s] w' fun e w2 => Below w'.heap.size w' w2 ∧ e = .returned (.string (lowBy s))) := Lib.hid (fun w' => rlower_walk s w' (by unfold maxLen; omega))
    have HNM := Lib.hid hN.2
    have hq : ((N.size : Nat) : Int) / 3 = (L.length : Int) := by rw [hN.1]; omega
    have hz : (N.size : Int) = 3 * (L.length : Int) := by rw [hN.1]; omega
    have HZ := Lib.hid hz
    generalize lowBy s = y at *
    have h3i : ((s.size : Int) != 3) = false := by rw [h3]; rfl
    have H3 := Lib.hid h3
    clear hF hN hz h3
    go_enter Tryz.func26, Tryz.ntmps26
    go_wp2_with fail
    go_loopg [5] L.length (fun k i wr => ∃ (j : Nat), j + k = L.length ∧ i = .int .i64 j ∧ Hid (Below w.heap.size w wr) ∧ Hid (F = namF y (L.drop j) j))
    case atStart => exact ⟨0, by omega, rfl, Lib.hid (Below.refl _ _), HF⟩
    case round =>
      obtain ⟨j, hj, rfl, HB, H⟩ := hrel
      clear HF
      by_cases hlt : j < L.length
      · have hj1 : (j : Int) < (L.length : Int) := by omega
        have m1 : IntKind.i64.wrap (3 * (j : Int)) = 3 * (j : Int) := IntWalk.i64_in _ (by omega)
        have m2 : IntKind.i64.wrap (3 * (j : Int) + 3) = 3 * (j : Int) + 3 := IntWalk.i64_in _ (by omega)
        have n1 : (3 * (j : Int)).toNat = 3 * j := by omega
        have n2 : (3 * (j : Int) + 3).toNat = 3 * j + 3 := by omega
        have q1 : (0 : Int) ≤ 3 * (j : Int) := by omega
        have q2 : 3 * (j : Int) ≤ 3 * (j : Int) + 3 := by omega
        have q3 : 3 * (j : Int) + 3 ≤ (N.size : Int) := by rw [HZ.out]; omega
        have HX : Hid (∀ w', Calls Tryz.prog 45 #[.string (N.extract (3 * j) (3 * j + 3))] w' fun e w2 => Below w'.heap.size w' w2 ∧ e = .returned (.string (st L j))) := Lib.hid fun w' => by
          have := HLW.out (N.extract (3 * j) (3 * j + 3)) (by rw [ByteArray.size_extract]; omega) w'
          rw [← HNM.out j hlt]
          exact this
        have H2 : Hid (F = if st L j = y then (j : Int) else namF y (L.drop (j + 1)) ((j : Int) + 1)) := Lib.hid (by rw [H.out, drop_st hlt]; rfl)
        clear H
        generalize st L j = x at *
        by_cases hxy : x = y
        · subst hxy
          have he : Hid (F = (j : Int)) := Lib.hid (by rw [H2.out, if_pos rfl])
          clear H2
          go_wp2_with fail
          refine (HX.out _).mono ?_
          rintro e w2 ⟨hb2, rfl⟩
          have B2 := Lib.hid (HB.out.trans (hb2.mono HB.out.size))
          clear hb2
          go_wp2_with fail
          refine (HLS.out _).mono ?_
          rintro e w3 ⟨hb3, rfl⟩
          have B3 := Lib.hid (B2.out.trans (hb3.mono B2.out.size))
          clear hb3
          go_wp2
          go_ret
          exact ⟨B3.out, by rw [he.out]; rfl⟩
        · have hq2 := str_ne hxy
          have he : Hid (F = namF y (L.drop (j + 1)) ((j : Int) + 1)) := Lib.hid (by rw [H2.out, if_neg hxy])
          clear H2 hxy
          go_wp2_with fail
          refine (HX.out _).mono ?_
          rintro e w2 ⟨hb2, rfl⟩
          have B2 := Lib.hid (HB.out.trans (hb2.mono HB.out.size))
          clear hb2
          go_wp2_with fail
          refine (HLS.out _).mono ?_
          rintro e w3 ⟨hb3, rfl⟩
          have B3 := Lib.hid (B2.out.trans (hb3.mono B2.out.size))
          clear hb3
          go_wp2
          go_roundg (gk - 1)
          case rel => exact ⟨j + 1, by omega, by go_num, B3, Lib.hid (by rw [he.out]; rfl)⟩
          case measure => omega
      · have hj1 : ¬ (j : Int) < (L.length : Int) := by omega
        have he : Hid (F = -1) := Lib.hid (by rw [H.out, List.drop_of_length_le (by omega)]; rfl)
        clear H
        go_wp2
        go_ret
        exact ⟨HB.out, by rw [he.out]; rfl⟩
  · have hF : placeP L s = -1 := if_neg h3
    rw [hF]
    have h3i : ((s.size : Int) != 3) = true := bne_iff_ne.2 (by omega)
    clear h3 hF
    go_enter Tryz.func26, Tryz.ntmps26
    go_wp2
    go_ret
    exact ⟨Below.refl _ _, rfl⟩
end Go.Proofs.YtdkhoiahmjadnaaGreatDoor
