/-
  The walk of date's zone. Conditions: a text's length, and what the library's tables hold.
-/
import Derived.Test.YtdkhoiahmjadnaaGreatDoorClock
namespace Go.Proofs.YtdkhoiahmjadnaaGreatDoor
open Go.RowKit Go.Sort
set_option linter.unusedVariables false

def zoneL : List UInt8 → Int × Bool
  | [a, b, c, d, e] =>
    if numP [b, c] 2 2 23 < 0 ∨ numP [d, e] 2 2 59 < 0 ∨ (a ≠ 43 ∧ a ≠ 45) then (0, false) else
      (if a = 45 then -(3600 * numP [b, c] 2 2 23 + 60 * numP [d, e] 2 2 59) else 3600 * numP [b, c] 2 2 23 + 60 * numP [d, e] 2 2 59, true)
  | _ => (0, false)
def zoneP (s : ByteArray) : Int × Bool := if s = ⟨#[]⟩ then (0, false) else if lowerP s = ⟨#[103, 109, 116]⟩ ∨ lowerP s = ⟨#[117, 116]⟩ then (0, true) else zoneL s.data.toList
theorem zoneL_not5 {l : List UInt8} (h : l.length ≠ 5) : zoneL l = (0, false) := by
  match l, h with
  | [], _ => rfl
  | [a], _ => rfl
  | [a, b], _ => rfl
  | [a, b, c], _ => rfl
  | [a, b, c, d], _ => rfl
  | [a, b, c, d, e], h => exact absurd rfl h
  | a :: b :: c :: d :: e :: f :: r, _ => rfl
theorem bdrewZ {B : Nat} {a w : World} (h : Below B a w) : Below B a w.drew := ⟨h.os, h.tape, h.output, h.size, h.block⟩
theorem five_bytes {s : ByteArray} (h : s.size = 5) : ∃ a b c d e, s = ⟨#[a, b, c, d, e]⟩ := by
  have hl : s.data.toList.length = 5 := by rw [← Lib.size_eq]; exact h
  match e : s.data.toList, hl with
  | [a, b, c, d, x], _ => exact ⟨a, b, c, d, x, str_eq e⟩
theorem isEmpty_ne {s : ByteArray} (h : ¬ s = ⟨#[]⟩) : s.toList.isEmpty = false := by
  cases h2 : s.toList.isEmpty
  · rfl
  · rw [List.isEmpty_iff] at h2
    have := str_ne h
    rw [h2] at this
    exact absurd this (by decide +kernel)
set_option maxRecDepth 100000 in
set_option maxHeartbeats 2000000 in
theorem zone_walk (s : ByteArray) (w : World) (T : TabsD w) (hs : s.size < 35184372088832) :
    Calls Tryz.prog 37 #[.string s] w fun e w' => Below w.heap.size w w' ∧ e = .returned (.tuple #[.int .i64 (zoneP s).1, .bool (zoneP s).2]) := by
  have hF : zoneP s = _ := rfl
  generalize hZ : zoneP s = Z at *
  obtain ⟨Z1, Z2⟩ := Z
  have HZ := Lib.hid hZ
  clear hZ hF
  show Calls _ _ _ _ fun e w' => Below w.heap.size w w' ∧ e = .returned (.tuple #[.int .i64 Z1, .bool Z2])
  by_cases h0 : s = ⟨#[]⟩
  · subst h0
    have he : Hid ((Z1, Z2) = ((0, false) : Int × Bool)) := Lib.hid (by rw [← HZ.out]; exact if_pos rfl)
    go_enter Tryz.func37, Tryz.ntmps37
    go_wp2
    go_ret2
    refine ⟨Below.refl _ _, ?_⟩
    injection he.out with e1 e2
    subst e1 e2
    rfl
  have hne := isEmpty_ne h0
  have TT : Hid (∀ w', Below w.heap.size w w' → TabsD w') := Lib.hid fun w' hb => T.keep hb
  have HL := Lib.hid (fun w' T' => lower_walk s hs w' T')
  have HZ1 : Hid ((Z1, Z2) = if lowerP s = ⟨#[103, 109, 116]⟩ ∨ lowerP s = ⟨#[117, 116]⟩ then ((0, true) : Int × Bool) else zoneL s.data.toList) := Lib.hid (by rw [← HZ.out]; exact if_neg h0)
  clear HZ
  generalize lowerP s = y at *
  have HB := Lib.hid (Below.refl w.heap.size w)
  clear T
  by_cases hg : y = ⟨#[103, 109, 116]⟩
  · subst hg
    have he : Hid ((Z1, Z2) = ((0, true) : Int × Bool)) := Lib.hid (by rw [HZ1.out]; exact if_pos (.inl rfl))
    go_enter Tryz.func37, Tryz.ntmps37
    go_wp2_with fail
    refine (HL.out _ (TT.out _ HB.out)).mono ?_
    rintro e w2 ⟨hb2, rfl⟩
    go_wp2
    go_ret2
    refine ⟨hb2, ?_⟩
    injection he.out with e1 e2
    subst e1 e2
    rfl
  have hq : (y.toList == [103, 109, 116]) = false := by
    have := str_ne hg
    rwa [show (⟨#[103, 109, 116]⟩ : ByteArray).toList = [103, 109, 116] from by decide +kernel] at this
  by_cases hu : y = ⟨#[117, 116]⟩
  · subst hu
    have he : Hid ((Z1, Z2) = ((0, true) : Int × Bool)) := Lib.hid (by rw [HZ1.out]; exact if_pos (.inr rfl))
    clear hq
    go_enter Tryz.func37, Tryz.ntmps37
    go_wp2_with fail
    refine (HL.out _ (TT.out _ HB.out)).mono ?_
    rintro e w2 ⟨hb2, rfl⟩
    go_wp2_with fail
    refine (HL.out _ (TT.out _ hb2)).mono ?_
    rintro e w3 ⟨hb3, rfl⟩
    have HB3 := Lib.hid (hb2.trans (hb3.mono hb2.size))
    clear hb3
    go_wp2
    go_ret2
    refine ⟨HB3.out, ?_⟩
    injection he.out with e1 e2
    subst e1 e2
    rfl
  have hq2 : (y.toList == [117, 116]) = false := by
    have := str_ne hu
    rwa [show (⟨#[117, 116]⟩ : ByteArray).toList = [117, 116] from by decide +kernel] at this
  have HZ2 : Hid ((Z1, Z2) = zoneL s.data.toList) := Lib.hid (by rw [HZ1.out]; exact if_neg (by rintro (h | h) <;> contradiction))
  clear HZ1 hg hu
  by_cases h5 : s.size = 5
  · obtain ⟨a, b, c, d, e, rfl⟩ := five_bytes h5
    have hh := numP_rng [b, c] 2 2 23 (by omega)
    have hm := numP_rng [d, e] 2 2 59 (by omega)
    have HN : Hid (∀ (p q : UInt8) (bd : Int), -1 ≤ bd ∧ bd ≤ 100000 → ∀ w', Calls Tryz.prog 35 #[.string ⟨#[p, q]⟩, .int .i64 2, .int .i64 2, .int .i64 bd] w' fun r w2 => Below w'.heap.size w' w2 ∧ r = .returned (.int .i64 (numP [p, q] 2 2 bd))) :=
      Lib.hid fun p q bd hbd w' => number_walk ⟨#[p, q]⟩ 2 2 bd (by omega) (by omega) hbd.1 hbd.2 w' (by show 2 ≤ 9223372036854775807; omega)
    have HZ3 : Hid ((Z1, Z2) = if numP [b, c] 2 2 23 < 0 ∨ numP [d, e] 2 2 59 < 0 ∨ (a ≠ 43 ∧ a ≠ 45) then ((0, false) : Int × Bool) else
      (if a = 45 then -(3600 * numP [b, c] 2 2 23 + 60 * numP [d, e] 2 2 59) else 3600 * numP [b, c] 2 2 23 + 60 * numP [d, e] 2 2 59, true)) := HZ2
    obtain ⟨hh0, hh1⟩ := hh
    obtain ⟨hm0, hm1⟩ := hm
    clear HZ2 hne h5 h0
    go_enter Tryz.func37, Tryz.ntmps37
    go_wp2_with fail
    refine (HL.out _ (TT.out _ HB.out)).mono ?_
    rintro e w2 ⟨hb2, rfl⟩
    go_wp2_with fail
    refine (HL.out _ (TT.out _ hb2)).mono ?_
    rintro e w3 ⟨hb3, rfl⟩
    have HB3 := Lib.hid (hb2.trans (hb3.mono hb2.size))
    clear hb3 hb2
    go_upto_region 5 with fail
    have R : Hid (Below w.heap.size w w3) := HB3
    go_cut [4, 5] from 24 to 29 (fun x y wr => Below w.heap.size w wr ∧ x = .int .i64 (numP [b, c] 2 2 23) ∧ y = .int .i64 (numP [d, e] 2 2 59))
    case first =>
      go_region_held3 (fun _ => True) (exact True.intro) (first
        | (go_at_call 35; refine (HN.out _ _ _ (by omega) _).mono ?_; rintro r wn ⟨hbn, rfl⟩; have R : Hid (Below w.heap.size w wn) := Lib.hid (by first | exact R.out.trans (hbn.mono R.out.size) | exact (bdrewZ R.out).trans (hbn.mono (bdrewZ R.out).size)); clear hbn))
      all_goals
        go_wp2
        go_meet
        exact ⟨R.out, rfl, rfl⟩
    case rest =>
      obtain ⟨hbc, rfl, rfl⟩ := hcut
      clear HN
      generalize numP [b, c] 2 2 23 = vh at *
      generalize numP [d, e] 2 2 59 = vm at *
      have e1 : IntKind.i64.wrap (3600 * vh) = 3600 * vh := IntWalk.i64_in _ (by omega)
      have e2 : IntKind.i64.wrap (60 * vm) = 60 * vm := IntWalk.i64_in _ (by omega)
      have e3 : IntKind.i64.wrap (3600 * vh + 60 * vm) = 3600 * vh + 60 * vm := IntWalk.i64_in _ (by omega)
      have e4 : IntKind.i64.wrap (-(3600 * vh + 60 * vm)) = -(3600 * vh + 60 * vm) := IntWalk.i64_in _ (by omega)
      have HBC := Lib.hid hbc
      clear hbc HB3 R HL TT HB
      by_cases hh : vh < 0
      · have he : Hid ((Z1, Z2) = ((0, false) : Int × Bool)) := Lib.hid (by rw [HZ3.out]; exact if_pos (.inl hh))
        clear HZ3
        go_wp2
        go_ret2
        refine ⟨HBC.out, ?_⟩
        injection he.out with e1 e2
        subst e1 e2
        rfl
      by_cases hm : vm < 0
      · have he : Hid ((Z1, Z2) = ((0, false) : Int × Bool)) := Lib.hid (by rw [HZ3.out]; exact if_pos (.inr (.inl hm)))
        clear HZ3
        go_wp2
        go_ret2
        refine ⟨HBC.out, ?_⟩
        injection he.out with e1 e2
        subst e1 e2
        rfl
      by_cases ha : a = 43
      · subst ha
        have he : Hid ((Z1, Z2) = (3600 * vh + 60 * vm, true)) := Lib.hid (by rw [HZ3.out, if_neg (fun h => h.elim hh fun h => h.elim hm fun h => h.1 rfl)]; rfl)
        have g0 : (⟨#[43, b, c, d, e]⟩ : ByteArray)[0]'(show 0 < 5 by omega) = 43 := rfl
        clear HZ3
        go_wp2
        go_ret2
        refine ⟨HBC.out, ?_⟩
        injection he.out with e1 e2
        subst e1 e2
        rfl
      by_cases hb : a = 45
      · subst hb
        have he : Hid ((Z1, Z2) = (-(3600 * vh + 60 * vm), true)) := Lib.hid (by rw [HZ3.out, if_neg (fun h => h.elim hh fun h => h.elim hm fun h => h.2 rfl)]; rfl)
        have g0 : (⟨#[45, b, c, d, e]⟩ : ByteArray)[0]'(show 0 < 5 by omega) = 45 := rfl
        clear HZ3
        go_wp2
        go_ret2
        refine ⟨HBC.out, ?_⟩
        injection he.out with e1 e2
        subst e1 e2
        rfl
      · have he : Hid ((Z1, Z2) = ((0, false) : Int × Bool)) := Lib.hid (by rw [HZ3.out]; exact if_pos (.inr (.inr ⟨ha, hb⟩)))
        have n1 : ((a.toNat : Int) == 43) = false := beq_eq_false_iff_ne.2 fun h => ha (UInt8.toNat_inj.1 (show a.toNat = 43 by omega))
        have n2 : ((a.toNat : Int) == 45) = false := beq_eq_false_iff_ne.2 fun h => hb (UInt8.toNat_inj.1 (show a.toNat = 45 by omega))
        have n3 : ((a.toNat : Int) != 43) = true := bne_iff_ne.2 fun h => ha (UInt8.toNat_inj.1 (show a.toNat = 43 by omega))
        have n4 : ((a.toNat : Int) != 45) = true := bne_iff_ne.2 fun h => hb (UInt8.toNat_inj.1 (show a.toNat = 45 by omega))
        have g0 : (⟨#[a, b, c, d, e]⟩ : ByteArray)[0]'(show 0 < 5 by omega) = a := rfl
        clear HZ3 ha hb
        go_wp2
        go_ret2
        refine ⟨HBC.out, ?_⟩
        injection he.out with e1 e2
        subst e1 e2
        rfl
  · have h5' : ((s.size : Int) == 5) = false := beq_eq_false_iff_ne.2 (by omega)
    have he : Hid ((Z1, Z2) = ((0, false) : Int × Bool)) := Lib.hid (by rw [HZ2.out]; exact zoneL_not5 (by rw [← Lib.size_eq]; exact h5))
    go_enter Tryz.func37, Tryz.ntmps37
    go_wp2_with fail
    refine (HL.out _ (TT.out _ HB.out)).mono ?_
    rintro e w2 ⟨hb2, rfl⟩
    go_wp2_with fail
    refine (HL.out _ (TT.out _ hb2)).mono ?_
    rintro e w3 ⟨hb3, rfl⟩
    have HB3 := Lib.hid (hb2.trans (hb3.mono hb2.size))
    clear hb3
    go_wp2
    go_ret2
    refine ⟨HB3.out, ?_⟩
    injection he.out with e1 e2
    subst e1 e2
    rfl
end Go.Proofs.YtdkhoiahmjadnaaGreatDoor
