/-
  The walk of LinesPieces. It asks what the library's tables hold, and the size.
-/
import Derived.Test.YtkemmgfmmfcdlaaDoorTwoR
namespace Go.Proofs.YtkemmgfmmfcdlaaDoor
open Go.RowKit
set_option linter.unusedVariables false
set_option maxRecDepth 1000000 in
set_option maxHeartbeats 2000000 in
theorem pieces_walk (w : World) (hT : TabsL w.heap.size w) (A A1 : Option Addr) (l : List UInt8) (zs : List Int) (n c nz c1 : Nat) (most : Int) (hn : n = l.length) (hnz : nz = zs.length) (hr : RB w w.heap.size A l) (hz : RI w w.heap.size A1 zs) (hc : n ≤ c) (hm : c ≤ 140737488355328) (hm1 : nz ≤ 9223372036854775806) :
    Calls Tryd.prog 4 #[.slice A n c, .slice A1 nz c1, .int .i64 most] w fun e w' => Below w.heap.size w w' ∧ e = .returned (.bool true) := by
  have HR := Lib.hid hr
  have HZ := Lib.hid hz
  have HN := Lib.hid hn
  have HNZ := Lib.hid hnz
  have KS := Lib.hid (shown_walk w hT)
  clear hr hn hT hz hnz
  by_cases hbad : most < 1 ∨ 65536 < most
  · go_enter Tryd.func4, Tryd.ntmps4
    go_wp2_with fail
    refine KS.out.mono ?_
    rintro e1 w1 ⟨hb1, rfl⟩
    have HB1 := Lib.hid hb1
    have KB := Lib.hid (new_bad most w1 hbad)
    clear hb1 KS hbad
    go_wp2_with (refine KB.out.mono ?_; rintro e3 w3 ⟨rfl, rfl⟩)
    go_ret
    exact ⟨HB1.out, rfl⟩
  obtain ⟨m, rfl⟩ : ∃ m : Nat, most = m := ⟨most.toNat, by omega⟩
  have hm2 : 1 ≤ m := by omega
  have hm3 : m ≤ 65536 := by omega
  clear hbad
  go_enter Tryd.func4, Tryd.ntmps4
  go_wp2_with fail
  refine KS.out.mono ?_
  rintro e1 w1 ⟨hb1, rfl⟩
  have HB1 := Lib.hid hb1
  clear hb1 KS
  go_wp2_with fail
  refine (new_ok m w1 w.heap.size HB1.out.size hm2 hm3).mono ?_
  rintro e2 w2 ⟨rfl, hb2, hR2, hs2⟩
  have HB2 := Lib.hid (HB1.out.trans (hb2.mono HB1.out.size))
  have HR2 := Lib.hid hR2
  clear hb2 hR2
  go_wp2_with fail
  refine (new_ok m w2 w.heap.size HB2.out.size hm2 hm3).mono ?_
  rintro e3 w3 ⟨rfl, hb3, hR3, hs3⟩
  have HB3 := Lib.hid (HB2.out.trans (hb3.mono HB2.out.size))
  have H3 : Hid (TwoR w3 48 48 w.heap.size w1.heap.size w2.heap.size none none m [] []) := Lib.hid ⟨HR2.out.below hb3, hR3, by omega, by simp, by simp, .inl rfl⟩
  clear hb3 hR3 HR2 HB1 HB2 hs2 hs3
  generalize w1.heap.size = p1 at *
  generalize w2.heap.size = p2 at *
  go_wp2_with fail
  have H4 := H3.out
  refine (feed_at w3 w.heap.size p1 none m [] A l n c HN.out H4.1 ((HR.out.below HB3.out).mono HB3.out.size) HB3.out.size (by have := HN.out; simp; omega)).mono ?_
  rw [List.nil_append]
  rintro e4 w4 ⟨rfl, o4, hR4, hC4, ho4⟩
  have H5 := Lib.hid (H4.fed hR4 hC4 ho4)
  have HB4 := Lib.hid (HB3.out.trans (H4.chgB HB3.out.size hC4))
  clear hR4 hC4 ho4 H4 H3 HB3
  go_wp2_with fail
  go_loopg [12, 13] nz (fun k s12 s13 wr => ∃ (a i : Nat) (R S : List UInt8) (o1 o2 : Option Nat), i + k = nz ∧ s13 = .int .i64 i ∧ s12 = .int .i64 a ∧ a ≤ n ∧ Hid (R = S ++ l.drop a) ∧ Hid (TwoR wr 48 48 w.heap.size p1 p2 o1 o2 m R S) ∧ Hid (Below w.heap.size w wr) ∧ Hid (R.length ≤ n))
  case atStart => exact ⟨0, 0, l, [], o4, none, by omega, rfl, rfl, Nat.zero_le _, Lib.hid (by simp), H5, HB4, Lib.hid (by rw [HN.out]; exact Nat.le_refl _)⟩
  case round =>
    obtain ⟨a, i, R, S, o1, o2, hi, rfl, rfl, han, HRS, H, HB, HRL⟩ := hrel
    clear H5 HB4
    by_cases hlt : i < nz
    · have hi1 : (i : Int) < (nz : Int) := by omega
      have e1 : IntKind.i64.wrap ((i : Int) + 1) = (i : Int) + 1 := IntWalk.i64_in _ (by omega)
      obtain ⟨z, hz⟩ : ∃ z, zs[i]? = some z := ⟨_, List.getElem?_eq_getElem (by rw [← HNZ.out]; exact hlt)⟩
      have hA1 : ∃ b1 f1, A1 = some ⟨b1, f1, none⟩ ∧ Hid (∀ w', Below w.heap.size w w' → w'.cell? ⟨b1, f1 + i, none⟩ = some (.int .i64 z)) := by
        rcases HZ.out with h | ⟨b1, f1, e, hb1, hcl⟩
        · rw [h] at hz; simp at hz
        · exact ⟨b1, f1, e, Lib.hid fun w' hb => by rw [hb.cell (show b1 < w.heap.size from hb1)]; exact hcl i z hz⟩
      obtain ⟨b1, f1, rfl, HC⟩ := hA1
      have k1 := HC.out wr HB.out
      clear hz
      by_cases ha : (a : Int) ≤ z
      · by_cases hb : z ≤ (n : Int)
        · obtain ⟨cn, rfl⟩ : ∃ cn : Nat, z = cn := ⟨z.toNat, by omega⟩
          have hac : a ≤ cn := by omega
          have hcn : cn ≤ n := by omega
          have hsl := slice_sub A n c a cn hac (by omega)
          obtain ⟨K, hK⟩ : ∃ K, (l.drop a).take (cn - a) = K := ⟨_, rfl⟩
          have hKl : cn - a = K.length := by rw [← hK, List.length_take, List.length_drop, ← HN.out]; omega
          have hrK : RB wr wr.heap.size (subA A c a) K := hK ▸ ((((HR.out.subA c a (by rw [← HN.out]; exact hc)).take (cn - a)).below HB.out).mono HB.out.size)
          have HRS2 : Hid (R = (S ++ K) ++ l.drop cn) := Lib.hid (by have h := cut_more HRS.out hac; rwa [hK] at h)
          have KF := Lib.hid (feed_at wr w.heap.size p2 o2 m S (subA A c a) K (cn - a) (c - a) hKl H.out.swap.1 hrK HB.out.size (by have h9 := congrArg List.length HRS2.out; rw [List.length_append, List.length_append] at h9; have h10 := HRL.out; omega))
          clear hrK hKl hK
          go_wp2_with fail
          refine KF.out.mono ?_
          rintro e5 w5 ⟨rfl, o5, hR5, hC5, ho5⟩
          have H5 := Lib.hid (H.out.swap.fed hR5 hC5 ho5).swap
          have HB5 := Lib.hid (HB.out.trans (H.out.swap.chgB HB.out.size hC5))
          have k5 := HC.out w5 HB5.out
          clear hR5 hC5 ho5 KF hsl H HB HRS
          have KN1 := Lib.hid (next_walk w5 w.heap.size p1 o1 m R H5.out.1 HB5.out.size (by have := HRL.out; omega) hm3)
          go_wp2_with fail
          refine KN1.out.mono ?_
          rintro e6 w6 hP6
          cases hx : nextP m R with
          | none =>
            obtain ⟨rfl, hb6, hR6⟩ := hP6.none_ hx
            have H6 := Lib.hid (H5.out.below hb6)
            have HB6 := Lib.hid (HB5.out.trans (hb6.mono HB5.out.size))
            clear hP6 hb6 hR6 hx H5 HB5 KN1
            have hslT := slice_tail A n c cn (by omega)
            have hrT : RB w6 w6.heap.size (subA A c cn) (l.drop cn) := ((HR.out.subA c cn (by rw [← HN.out]; exact hc)).below HB6.out).mono HB6.out.size
            have hdT : n - cn = (l.drop cn).length := by rw [List.length_drop, HN.out]
            have KT := Lib.hid (feed_at w6 w.heap.size p2 o5 m (S ++ K) (subA A c cn) (l.drop cn) (n - cn) (c - cn) hdT H6.out.swap.1 hrT HB6.out.size (by have h9 := congrArg List.length HRS2.out; rw [List.length_append] at h9; have h10 := HRL.out; omega))
            clear hrT hdT
            go_wp2_with fail
            refine KT.out.mono ?_
            rintro eT wT ⟨rfl, oT, hRT, hCT, hoT⟩
            have HT1 := Lib.hid (H6.out.swap.fed hRT hCT hoT).swap
            have HBT := Lib.hid (HB6.out.trans (H6.out.swap.chgB HB6.out.size hCT))
            have KL1 := Lib.hid (left_walk wT w.heap.size p1 _ m _ HT1.out.1)
            have KL2 := Lib.hid (left_walk wT w.heap.size p2 _ m _ HT1.out.swap.1)
            rw [← HRS2.out] at KL2
            clear hslT KT hRT hCT hoT
            go_wp2_with fail
            refine KL1.out.mono ?_
            rintro e30 w30 ⟨rfl, rfl⟩
            go_wp2_with fail
            refine KL2.out.mono ?_
            rintro e30 w30 ⟨rfl, rfl⟩
            go_wp2
            go_ret
            exact ⟨HBT.out, rfl⟩
          | some xy =>
            obtain ⟨rr, R2⟩ := xy
            obtain ⟨A6, c6, o6, rfl, hV6, hC6, hR6, ho6⟩ := hP6.some2_ hx
            have H6 := Lib.hid (H5.out.asked hR6 hC6 ho6)
            have HB6 := Lib.hid (HB5.out.trans (H5.out.chgN HB5.out.size hC6))
            have HV6 := Lib.hid hV6
            have HP2 : Hid (p2 < w5.heap.size) := Lib.hid H5.out.2.1.lt.2.1
            have HO5 : Hid (∀ g, o5 = some g → g < w5.heap.size) := Lib.hid fun g hg => (H5.out.2.1.lt.2.2 g hg).2
            have HX := Lib.hid hx
            have HRL2 : Hid (R2.length ≤ n) := Lib.hid (by have := next_len hx; have := HRL.out; omega)
            have KN2 := Lib.hid (next_walk w6 w.heap.size p2 o5 m (S ++ K) H6.out.swap.1 HB6.out.size (by have h9 := congrArg List.length HRS2.out; rw [List.length_append] at h9; have h10 := HRL.out; omega) hm3)
            clear hP6 hV6 hC6 hR6 ho6 hx H5 HB5 KN1
            go_wp2_with fail
            refine KN2.out.mono ?_
            rintro e7 w7 hP7
            cases hy : nextP m (S ++ K) with
            | some xy2 =>
              obtain ⟨rr2, S2⟩ := xy2
              obtain ⟨A7, c7, o7, rfl, hV7, hC7, hR7, ho7⟩ := hP7.some2_ hy
              have hz2 := next_more (l.drop cn) hy
              rw [← HRS2.out, HX.out] at hz2
              injection hz2 with hz2
              injection hz2 with hz3 hz4
              subst hz3
              have H7 := Lib.hid (H6.out.swap.asked hR7 hC7 ho7).swap
              have HB7 := Lib.hid (HB6.out.trans (H6.out.swap.chgN HB6.out.size hC7))
              have q6 := (HV6.out.chg hC7 HP2.out (fun g hg => by cases hg)).conv
              have q7 := hV7.conv
              have HRS7 := Lib.hid hz4
              clear hP7 hV7 hC7 hR7 ho7 hy hz4 HV6 H6 HB6 KN2
              go_wp2
              go_roundg (gk - 1)
              case rel => exact ⟨cn, i + 1, R2, S2, o6, o7, by omega, by go_num, rfl, hcn, HRS7, H7, HB7, HRL2⟩
              case measure => omega
            | none =>
              obtain ⟨rfl, hb7, hR7⟩ := hP7.none_ hy
              have H7 := Lib.hid (H6.out.below hb7)
              have HB7 := Lib.hid (HB6.out.trans (hb7.mono HB6.out.size))
              have HV7 := Lib.hid (HV6.out.below hb7)
              have hslU := slice_tail A n c cn hcn
              have hrU : RB w7 w7.heap.size (subA A c cn) (l.drop cn) := ((HR.out.subA c cn (by rw [← HN.out]; exact hc)).below HB7.out).mono HB7.out.size
              have KU := Lib.hid (feed_at w7 w.heap.size p2 o5 m (S ++ K) (subA A c cn) (l.drop cn) (n - cn) (c - cn) (by rw [List.length_drop, HN.out]) H7.out.swap.1 hrU HB7.out.size (by have h9 := congrArg List.length HRS2.out; rw [List.length_append] at h9; have h10 := HRL.out; omega))
              rw [← HRS2.out] at KU
              clear hP7 hb7 hR7 hy HV6 H6 HB6 hrU KN2
              go_wp2_with fail
              refine KU.out.mono ?_
              rintro e8 w8 ⟨rfl, o8, hR8, hC8, ho8⟩
              have H8 := Lib.hid (H7.out.swap.fed hR8 hC8 ho8).swap
              have HB8 := Lib.hid (HB7.out.trans (H7.out.swap.chgB HB7.out.size hC8))
              have HV8 := Lib.hid (HV7.out.chg hC8 HP2.out HO5.out)
              have KN3 := Lib.hid (next_walk w8 w.heap.size p2 o8 m R H8.out.swap.1 HB8.out.size (by have := HRL.out; omega) hm3)
              clear hR8 hC8 ho8 HV7 H7 HB7 KU hslU
              go_wp2_with fail
              refine KN3.out.mono ?_
              rintro e9 w9 hP9
              obtain ⟨A9, c9, o9, rfl, hV9, hC9, hR9, ho9⟩ := hP9.some2_ HX.out
              have H9 := Lib.hid (H8.out.swap.asked hR9 hC9 ho9).swap
              have HB9 := Lib.hid (HB8.out.trans (H8.out.swap.chgN HB8.out.size hC9))
              have q6 := (HV8.out.chg hC9 HP2.out (fun g hg => by cases hg)).conv
              have q7 := hV9.conv
              clear hP9 hV9 hC9 hR9 ho9 HV8 H8 HB8 KN3
              go_wp2
              go_roundg (gk - 1)
              case rel => exact ⟨n, i + 1, R2, R2, o6, o9, by omega, by go_num, rfl, Nat.le_refl _, Lib.hid (by rw [List.drop_eq_nil_of_le (by rw [← HN.out]; exact Nat.le_refl _), List.append_nil]), H9, HB9, HRL2⟩
              case measure => omega
        · go_wp2
          go_roundg (gk - 1)
          case rel => exact ⟨a, i + 1, R, S, o1, o2, by omega, by go_num, rfl, han, HRS, H, HB, HRL⟩
          case measure => omega
      · go_wp2
        go_roundg (gk - 1)
        case rel => exact ⟨a, i + 1, R, S, o1, o2, by omega, by go_num, rfl, han, HRS, H, HB, HRL⟩
        case measure => omega
    · have hi1 : ¬ (i : Int) < (nz : Int) := by omega
      have hslT := slice_tail A n c a (by omega)
      have hrT : RB wr wr.heap.size (subA A c a) (l.drop a) := ((HR.out.subA c a (by rw [← HN.out]; exact hc)).below HB.out).mono HB.out.size
      have hdT : n - a = (l.drop a).length := by rw [List.length_drop, HN.out]
      have KT := Lib.hid (feed_at wr w.heap.size p2 o2 m S (subA A c a) (l.drop a) (n - a) (c - a) hdT H.out.swap.1 hrT HB.out.size (by have h9 := congrArg List.length HRS.out; rw [List.length_append] at h9; have h10 := HRL.out; omega))
      clear hrT hdT
      go_wp2_with fail
      refine KT.out.mono ?_
      rintro eT wT ⟨rfl, oT, hRT, hCT, hoT⟩
      have HT1 := Lib.hid (H.out.swap.fed hRT hCT hoT).swap
      have HBT := Lib.hid (HB.out.trans (H.out.swap.chgB HB.out.size hCT))
      have KL1 := Lib.hid (left_walk wT w.heap.size p1 _ m _ HT1.out.1)
      have KL2 := Lib.hid (left_walk wT w.heap.size p2 _ m _ HT1.out.swap.1)
      rw [← HRS.out] at KL2
      clear hslT KT hRT hCT hoT
      go_wp2_with fail
      refine KL1.out.mono ?_
      rintro e30 w30 ⟨rfl, rfl⟩
      go_wp2_with fail
      refine KL2.out.mono ?_
      rintro e30 w30 ⟨rfl, rfl⟩
      go_wp2
      go_ret
      exact ⟨HBT.out, rfl⟩
end Go.Proofs.YtkemmgfmmfcdlaaDoor
