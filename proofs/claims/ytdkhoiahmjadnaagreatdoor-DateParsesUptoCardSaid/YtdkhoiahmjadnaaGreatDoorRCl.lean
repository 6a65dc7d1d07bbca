/-
  The walks of waybillref13's clock and zone. Conditions: a text's length.
-/
import Derived.Test.YtdkhoiahmjadnaaGreatDoorRSm
namespace Go.Proofs.YtdkhoiahmjadnaaGreatDoor
open Go.RowKit Go.Sort
set_option linter.unusedVariables false

theorem eight_bytes {s : ByteArray} (h : s.size = 8) : ∃ a b c d e f g i, s = ⟨#[a, b, c, d, e, f, g, i]⟩ := by
  have hl : s.data.toList.length = 8 := by rw [← Lib.size_eq]; exact h
  match e : s.data.toList, hl with
  | [a, b, c, d, x, f, g, i], _ => exact ⟨a, b, c, d, x, f, g, i, str_eq e⟩
theorem rclkL_else {l : List UInt8} (h5 : l.length ≠ 5) (h8 : l.length ≠ 8) : rclkL l = -1 := by
  match l, h5, h8 with
  | [], _, _ => rfl
  | [_], _, _ => rfl
  | [_, _], _, _ => rfl
  | [_, _, _], _, _ => rfl
  | [_, _, _, _], _, _ => rfl
  | [_, _, _, _, _], h, _ => exact absurd rfl h
  | [_, _, _, _, _, _], _, _ => rfl
  | [_, _, _, _, _, _, _], _, _ => rfl
  | [_, _, _, _, _, _, _, _], _, h => exact absurd rfl h
  | _ :: _ :: _ :: _ :: _ :: _ :: _ :: _ :: _ :: _, _, _ => rfl
theorem rnum_hi (l : List UInt8) (h : (l.length : Int) ≤ 2) : rnumP l 2 2 ≤ 99 :=
  match l, h with
  | [], _ => by decide
  | [a], _ => by unfold rnumP; rw [if_pos (by simp)]; omega
  | [a, b], _ => by
    unfold rnumP
    rw [if_neg (by simp)]
    have ha := a.toNat_lt
    have hb := b.toNat_lt
    unfold rnF rnF rnF
    repeat' split
    all_goals omega
theorem ne_58 {c : UInt8} (h : ¬ c = 58) : ((c.toNat : Int) != 58) = true := bne_iff_ne.2 fun e => h (UInt8.toNat_inj.1 (show c.toNat = 58 by omega))
set_option maxRecDepth 100000 in
set_option maxHeartbeats 2000000 in
theorem rclock_walk (s : ByteArray) (w : World) (hs : s.size ≤ 9223372036854775807) :
    Calls Tryz.prog 28 #[.string s] w fun e w' => w = w' ∧ e = .returned (.int .i64 (rclkL s.data.toList)) := by
  have HN : Hid (∀ (p q : UInt8) w', Calls Tryz.prog 27 #[.string ⟨#[p, q]⟩, .int .i64 2, .int .i64 2] w' fun r w2 => w' = w2 ∧ r = .returned (.int .i64 (rnumP [p, q] 2 2))) :=
    Lib.hid fun p q w' => rnumber_walk ⟨#[p, q]⟩ 2 2 (by omega) (by omega) w' (by show 2 ≤ 9223372036854775807; omega)
  by_cases h5 : s.size = 5
  · obtain ⟨a, b, c, d, e, rfl⟩ := five_bytes h5
    have g2 : (⟨#[a, b, c, d, e]⟩ : ByteArray)[2]'(show 2 < 5 by omega) = c := rfl
    have hF : rclkL [a, b, c, d, e] = if c = 58 then rclkG (rnumP [a, b] 2 2) (rnumP [d, e] 2 2) 0 else -1 := rfl
    have hE : rclkL (⟨#[a, b, c, d, e]⟩ : ByteArray).data.toList = rclkL [a, b, c, d, e] := rfl
    rw [hE]
    generalize rclkL [a, b, c, d, e] = F at *
    have HF := Lib.hid hF
    clear hF hE h5
    by_cases hc : c = 58
    · subst hc
      have HG : Hid (F = rclkG (rnumP [a, b] 2 2) (rnumP [d, e] 2 2) 0) := Lib.hid (by rw [HF.out, if_pos rfl])
      clear HF
      go_enter Tryz.func28, Tryz.ntmps28
      have hx := rnum_hi [a, b] (by simp)
      have hy := rnum_hi [d, e] (by simp)
      go_wp2_with fail
      refine (HN.out a b _).mono ?_
      rintro e w2 ⟨rfl, rfl⟩
      go_wp2_with fail
      refine (HN.out d e _).mono ?_
      rintro e w2 ⟨rfl, rfl⟩
      generalize rnumP [a, b] 2 2 = x at *
      generalize rnumP [d, e] 2 2 = y at *
      have HG2 : Hid (F = if x < 0 ∨ 23 < x ∨ y < 0 ∨ 59 < y ∨ (0 : Int) < 0 ∨ 59 < (0 : Int) then -1 else 3600 * x + 60 * y + 0) := HG
      clear HG HN
      by_cases t0 : x < 0
      · have he : Hid (F = -1) := Lib.hid (by rw [HG2.out]; exact if_pos (by omega))
        clear HG2
        go_wp2
        go_ret
        exact ⟨rfl, by rw [he.out]; rfl⟩
      by_cases t1 : 23 < x
      · have he : Hid (F = -1) := Lib.hid (by rw [HG2.out]; exact if_pos (by omega))
        clear HG2
        go_wp2
        go_ret
        exact ⟨rfl, by rw [he.out]; rfl⟩
      by_cases t2 : y < 0
      · have he : Hid (F = -1) := Lib.hid (by rw [HG2.out]; exact if_pos (by omega))
        clear HG2
        go_wp2
        go_ret
        exact ⟨rfl, by rw [he.out]; rfl⟩
      by_cases t3 : 59 < y
      · have he : Hid (F = -1) := Lib.hid (by rw [HG2.out]; exact if_pos (by omega))
        clear HG2
        go_wp2
        go_ret
        exact ⟨rfl, by rw [he.out]; rfl⟩
      have he : Hid (F = 3600 * x + 60 * y + 0) := Lib.hid (by rw [HG2.out]; exact if_neg (by omega))
      clear HG2
      have e1 : IntKind.i64.wrap (3600 * x) = 3600 * x := IntWalk.i64_in _ (by omega)
      have e2 : IntKind.i64.wrap (60 * y) = 60 * y := IntWalk.i64_in _ (by omega)
      have e3 : IntKind.i64.wrap (3600 * x + 60 * y) = 3600 * x + 60 * y := IntWalk.i64_in _ (by omega)
      go_wp2
      go_ret
      exact ⟨rfl, by rw [he.out]; first | rfl | simp⟩
    · have hc2 := ne_58 hc
      have he : Hid (F = -1) := Lib.hid (by rw [HF.out, if_neg (fun h => hc h)])
      clear HF hc
      go_enter Tryz.func28, Tryz.ntmps28
      go_wp2
      go_ret
      exact ⟨rfl, by rw [he.out]; rfl⟩
  by_cases h8 : s.size = 8
  · obtain ⟨a, b, c, d, e, f, g, i, rfl⟩ := eight_bytes h8
    have g2 : (⟨#[a, b, c, d, e, f, g, i]⟩ : ByteArray)[2]'(show 2 < 8 by omega) = c := rfl
    have g5 : (⟨#[a, b, c, d, e, f, g, i]⟩ : ByteArray)[5]'(show 5 < 8 by omega) = f := rfl
    have hF : rclkL [a, b, c, d, e, f, g, i] = if c = 58 ∧ f = 58 then rclkG (rnumP [a, b] 2 2) (rnumP [d, e] 2 2) (rnumP [g, i] 2 2) else -1 := rfl
    have hE : rclkL (⟨#[a, b, c, d, e, f, g, i]⟩ : ByteArray).data.toList = rclkL [a, b, c, d, e, f, g, i] := rfl
    rw [hE]
    generalize rclkL [a, b, c, d, e, f, g, i] = F at *
    have HF := Lib.hid hF
    clear hF hE h5 h8
    by_cases hc : c = 58
    · subst hc
      by_cases hf : f = 58
      · subst hf
        have HG : Hid (F = rclkG (rnumP [a, b] 2 2) (rnumP [d, e] 2 2) (rnumP [g, i] 2 2)) := Lib.hid (by rw [HF.out, if_pos ⟨rfl, rfl⟩])
        clear HF
        go_enter Tryz.func28, Tryz.ntmps28
        have hx := rnum_hi [a, b] (by simp)
        have hy := rnum_hi [d, e] (by simp)
        have hz := rnum_hi [g, i] (by simp)
        go_wp2_with fail
        refine (HN.out a b _).mono ?_
        rintro e w2 ⟨rfl, rfl⟩
        go_wp2_with fail
        refine (HN.out d e _).mono ?_
        rintro e w2 ⟨rfl, rfl⟩
        go_wp2_with fail
        refine (HN.out g i _).mono ?_
        rintro e w2 ⟨rfl, rfl⟩
        generalize rnumP [a, b] 2 2 = x at *
        generalize rnumP [d, e] 2 2 = y at *
        generalize rnumP [g, i] 2 2 = z at *
        have HG2 : Hid (F = if x < 0 ∨ 23 < x ∨ y < 0 ∨ 59 < y ∨ z < 0 ∨ 59 < z then -1 else 3600 * x + 60 * y + z) := HG
        clear HG HN
        by_cases t0 : x < 0
        · have he : Hid (F = -1) := Lib.hid (by rw [HG2.out]; exact if_pos (by omega))
          clear HG2
          go_wp2
          go_ret
          exact ⟨rfl, by rw [he.out]; rfl⟩
        by_cases t1 : 23 < x
        · have he : Hid (F = -1) := Lib.hid (by rw [HG2.out]; exact if_pos (by omega))
          clear HG2
          go_wp2
          go_ret
          exact ⟨rfl, by rw [he.out]; rfl⟩
        by_cases t2 : y < 0
        · have he : Hid (F = -1) := Lib.hid (by rw [HG2.out]; exact if_pos (by omega))
          clear HG2
          go_wp2
          go_ret
          exact ⟨rfl, by rw [he.out]; rfl⟩
        by_cases t3 : 59 < y
        · have he : Hid (F = -1) := Lib.hid (by rw [HG2.out]; exact if_pos (by omega))
          clear HG2
          go_wp2
          go_ret
          exact ⟨rfl, by rw [he.out]; rfl⟩
        by_cases t4 : z < 0
        · have he : Hid (F = -1) := Lib.hid (by rw [HG2.out]; exact if_pos (by omega))
          clear HG2
          go_wp2
          go_ret
          exact ⟨rfl, by rw [he.out]; rfl⟩
        by_cases t5 : 59 < z
        · have he : Hid (F = -1) := Lib.hid (by rw [HG2.out]; exact if_pos (by omega))
          clear HG2
          go_wp2
          go_ret
          exact ⟨rfl, by rw [he.out]; rfl⟩
        have he : Hid (F = 3600 * x + 60 * y + z) := Lib.hid (by rw [HG2.out]; exact if_neg (by omega))
        clear HG2
        have e1 : IntKind.i64.wrap (3600 * x) = 3600 * x := IntWalk.i64_in _ (by omega)
        have e2 : IntKind.i64.wrap (60 * y) = 60 * y := IntWalk.i64_in _ (by omega)
        have e3 : IntKind.i64.wrap (3600 * x + 60 * y) = 3600 * x + 60 * y := IntWalk.i64_in _ (by omega)
        have e4 : IntKind.i64.wrap (3600 * x + 60 * y + z) = 3600 * x + 60 * y + z := IntWalk.i64_in _ (by omega)
        go_wp2
        go_ret
        exact ⟨rfl, by rw [he.out]; first | rfl | simp⟩
      · have hf2 := ne_58 hf
        have he : Hid (F = -1) := Lib.hid (by rw [HF.out, if_neg (fun h => hf h.2)])
        clear HF hf
        go_enter Tryz.func28, Tryz.ntmps28
        go_wp2
        go_ret
        exact ⟨rfl, by rw [he.out]; rfl⟩
    · have hc2 := ne_58 hc
      have he : Hid (F = -1) := Lib.hid (by rw [HF.out, if_neg (fun h => hc h.1)])
      clear HF hc
      go_enter Tryz.func28, Tryz.ntmps28
      go_wp2
      go_ret
      exact ⟨rfl, by rw [he.out]; rfl⟩
  · have i5 : ((s.size : Int) != 5) = true := bne_iff_ne.2 (by omega)
    have i8 : ((s.size : Int) != 8) = true := bne_iff_ne.2 (by omega)
    have he : Hid (rclkL s.data.toList = -1) := Lib.hid (rclkL_else (by rw [← Lib.size_eq]; exact h5) (by rw [← Lib.size_eq]; exact h8))
    clear h5 h8
    go_enter Tryz.func28, Tryz.ntmps28
    go_wp2
    go_ret
    exact ⟨rfl, by rw [he.out]; rfl⟩
end Go.Proofs.YtdkhoiahmjadnaaGreatDoor
