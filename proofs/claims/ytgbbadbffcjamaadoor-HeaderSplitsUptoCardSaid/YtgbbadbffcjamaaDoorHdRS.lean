/-
  The walks of waybillref11's checked and Split. Conditions: the size.
-/
import Derived.Test.YtgbbadbffcjamaaDoorHdR
import Derived.BigRegion
import Derived.Deep.RegionLaw
namespace Go.Proofs.YtgbbadbffcjamaaDoor
open Go.RowKit
set_option linter.unusedVariables false
theorem rest_of {D X nm rs : List UInt8} (hx : D.take X.length = X) (hc : cutAt 58 X = some (nm, rs)) : D.take nm.length = nm ∧ (D.drop (nm.length + 1)).take (X.length - (nm.length + 1)) = rs ∧ X.length = nm.length + 1 + rs.length := by
  have hX := (cutAt_some hc).1
  have hl : X.length = nm.length + 1 + rs.length := by rw [hX]; simp; omega
  have h1 : D.take nm.length = (D.take X.length).take nm.length := by rw [List.take_take, Nat.min_eq_left (by omega)]
  have h2 : (D.drop (nm.length + 1)).take (X.length - (nm.length + 1)) = (D.take X.length).drop (nm.length + 1) := by rw [List.drop_take]
  refine ⟨?_, ?_, hl⟩
  · rw [h1, hx, hX]; simp
  · rw [h2, hx, hX, show nm.length + 1 = (nm ++ [58]).length by simp, show nm ++ 58 :: rs = (nm ++ [58]) ++ rs by simp, List.drop_left]
theorem three_ways2 {l : List UInt8} {no xn at_ : Nat} {out : List Fd} {X : List UInt8} (hno : no = out.length) (hA : ¬ (out ≠ [] ∧ blH X = true)) (hb : xn ≥ 1 → ∃ ch X', X = ch :: X' ∧ bt l at_ = (ch.toNat : Int)) :
    xn < 1 ∨ (1 ≤ xn ∧ ∃ ch, bt l at_ = (UInt8.toNat ch : Int) ∧ blC ch = false) ∨ (1 ≤ xn ∧ no < 1 ∧ ∃ ch, bt l at_ = (UInt8.toNat ch : Int) ∧ blC ch = true) := by
  by_cases h1 : xn < 1
  · exact .inl h1
  · obtain ⟨ch, X', rfl, h2⟩ := hb (by omega)
    cases h3 : blC ch with
    | false => exact .inr (.inl ⟨by omega, ch, h2, h3⟩)
    | true =>
      refine .inr (.inr ⟨by omega, ?_, ch, h2, h3⟩)
      rcases Nat.lt_or_ge no 1 with h | h
      · exact h
      · exact absurd ⟨fun e => by rw [e] at hno; simp at hno; omega, h3⟩ hA
set_option maxHeartbeats 1000000 in
theorem rchecked_walk (w : World) (base : Nat) (A5 : Option Addr) (no c5 B : Nat) (l : List UInt8) (out : List Fd) (hO : OwnF w base (.slice A5 no c5) out) (hno : no = out.length) (hsp : splP l = (out, B)) (hoN : no ≤ 2000000) :
    Calls Tryd.prog 28 #[.slice A5 no c5, .int .i64 (B : Int)] w fun e w' => w = w' ∧ SplitPost w l e w := by
  have HO := Lib.hid hO
  have HNO := Lib.hid hno
  have HSP := Lib.hid hsp
  have HC5 := Lib.hid hO.rf.2.2
  clear hO hno hsp
  by_cases h0 : no < 1
  · have z1 : ¬ (0 : Int) < (no : Int) := by omega
    have z2 : ¬ (1000 : Int) < (no : Int) := by omega
    have HE : Hid (split11 l = (out, B, 0)) := Lib.hid (by
      have : out = [] := List.eq_nil_of_length_eq_zero (by rw [← HNO.out]; omega)
      rw [split11_of HSP.out, this]; rfl)
    go_enter Tryd.func28, Tryd.ntmps28
    go_wp2
    go_ret3
    exact ⟨rfl, SplitPost.mk HE.out (Below.refl _ _) A5 c5 (by rw [← HNO.out]; rfl) HO.out.rf.1 (by rw [← HNO.out]; exact HC5.out.1) HC5.out.2⟩
  · have z1 : (0 : Int) < (no : Int) := by omega
    obtain ⟨L0, g, hL⟩ := getLast_some (L := out) (fun e => by have := HNO.out; rw [e] at this; simp at this; omega)
    obtain ⟨k0, hk0⟩ : ∃ k0, k0 = L0.length := ⟨_, rfl⟩
    have hno1 : no = k0 + 1 := by rw [HNO.out, hL, hk0]; simp
    obtain ⟨bo, co, hu5, hbo, hbl5, hco, hcm5⟩ := HO.out.form (by rw [← HNO.out]; omega)
    injection hu5 with hu1 hu2 hu3
    subst hu1 hu3
    have k3c : w.cell? ⟨bo, k0 * 4 + 3, none⟩ = some (.int .i64 (g.tt : Int)) := HO.out.cell HNO.out (g := g) (i := k0) (j := 3) (by rw [hL, hk0]; simp) (by omega)
    have hw1 : IntKind.i64.wrap ((no : Int) - 1) = (k0 : Int) := by rw [IntWalk.i64_in _ (by omega)]; omega
    have hk1 : (0 : Int) ≤ (k0 : Int) := by omega
    have hk2 : (k0 : Int) < (no : Int) := by omega
    have HSP2 : Hid (split11 l = if 65536 < g.tt then ([], 0, 111) else if 1000 < out.length then ([], 0, 112) else (out, B, 0)) := Lib.hid (by rw [split11_of HSP.out, hL]; simp)
    clear hL hk0 hno1 hu2
    by_cases h1 : 65536 < g.tt
    · have z2 : (65536 : Int) < (g.tt : Int) := by omega
      have HE : Hid (split11 l = ([], 0, 111)) := Lib.hid (by rw [HSP2.out, if_pos h1])
      go_enter Tryd.func28, Tryd.ntmps28
      go_wp2
      go_ret3
      exact ⟨rfl, SplitPost.mk HE.out (Below.refl _ _) none 0 rfl (.inl rfl) (Nat.le_refl _) (by simp [maxLen])⟩
    · have z2 : ¬ (65536 : Int) < (g.tt : Int) := by omega
      by_cases h2 : 1000 < no
      · have z3 : (1000 : Int) < (no : Int) := by omega
        have HE : Hid (split11 l = ([], 0, 112)) := Lib.hid (by rw [HSP2.out, if_neg h1, if_pos (by rw [← HNO.out]; exact h2)])
        go_enter Tryd.func28, Tryd.ntmps28
        go_wp2
        go_ret3
        exact ⟨rfl, SplitPost.mk HE.out (Below.refl _ _) none 0 rfl (.inl rfl) (Nat.le_refl _) (by simp [maxLen])⟩
      · have z3 : ¬ (1000 : Int) < (no : Int) := by omega
        have HE : Hid (split11 l = (out, B, 0)) := Lib.hid (by rw [HSP2.out, if_neg h1, if_neg (by rw [← HNO.out]; exact h2)])
        go_enter Tryd.func28, Tryd.ntmps28
        go_wp2
        go_ret3
        exact ⟨rfl, SplitPost.mk HE.out (Below.refl _ _) (some ⟨bo, 0, none⟩) c5 (by rw [← HNO.out]; rfl) HO.out.rf.1 (by rw [← HNO.out]; exact HC5.out.1) HC5.out.2⟩
theorem colP_some {X nm rs : List UInt8} (h : colP X = some (nm, rs)) : cutAt 58 X = some (nm, rs) ∧ nameB nm = true := by
  unfold colP at h
  cases e : cutAt 58 X with
  | none => rw [e] at h; cases h
  | some nr =>
    obtain ⟨a, b⟩ := nr
    rw [e] at h
    simp only [] at h
    by_cases hn : nameB a = true
    · rw [if_pos hn] at h
      injection h with h
      injection h with h1 h2
      subst h1 h2
      exact ⟨rfl, hn⟩
    · rw [if_neg hn] at h; cases h
theorem splH_stopR {D X : List UInt8} {at_ nx qq : Nat} {out : List Fd} (he : ∃ f, D.length ≤ at_ + f ∧ splP D = splH D f at_ out) (hl : lnP (D.drop at_) = (X, qq)) (hX : ¬ (out ≠ [] ∧ blH X = true)) (hc : colP X = none) (hat : at_ < D.length) (hnx : nx = at_ + qq) :
    splP D = (out, if X = [] then nx else at_) := by
  obtain ⟨f, h1, h2⟩ := he
  obtain ⟨f, rfl⟩ : ∃ f', f = f' + 1 := ⟨f - 1, by omega⟩
  subst hnx
  rw [h2, splH_stop hat (by rw [hl]; exact hX) (by rw [hl]; exact hc), hl]
set_option maxRecDepth 1000000 in
set_option maxHeartbeats 4000000 in
theorem rsplit_walk (w : World) (A : Option Addr) (l : List UInt8) (n c : Nat) (hn : n = l.length) (hr : RB w w.heap.size A l) (hc : n ≤ c) (hm : c ≤ 9223372036854775807) (hl : n ≤ 2000000) :
    Calls Tryd.prog 9 #[.slice A n c] w (SplitPost w l) := by
  have HR := Lib.hid hr
  have HN := Lib.hid hn
  clear hr hn
  go_enter Tryd.func9, Tryd.ntmps9
  go_wp2_with fail
  go_loopg [5, 6] n (fun k s5 s6 wr => ∃ (at_ : Nat) (out : List Fd), s6 = .int .i64 (at_ : Int) ∧ Hid (OwnF wr w.heap.size s5 out) ∧ Hid (Below w.heap.size w wr) ∧ out.length ≤ at_ ∧ at_ ≤ n ∧ Hid (∀ g ∈ out.getLast?, g.fr + g.nm.length + 1 ≤ at_ ∧ g.tt ≤ n) ∧
    k = n - at_ ∧ Hid (∃ f, l.length ≤ at_ + f ∧ splP l = splH l f at_ out))
  case atStart => exact ⟨0, [], rfl, Lib.hid (OwnF.nil _ _), Lib.hid (Below.refl _ _), Nat.zero_le _, Nat.zero_le _, Lib.hid (by simp), by omega, Lib.hid ⟨l.length, by omega, rfl⟩⟩
  case round =>
    obtain ⟨at_, out, rfl, HO, HB, hol, han, HI, hk, HS⟩ := hrel
    obtain ⟨A5, c5, hu5, hc5, hm5⟩ := HO.out.sl
    obtain ⟨no, hno⟩ : ∃ no, no = out.length := ⟨_, rfl⟩
    rw [← hno] at hu5 hc5
    subst hu5
    have HNO := Lib.hid hno
    have hoN : no ≤ 2000000 := by omega
    clear hno
    by_cases hlt : at_ < n
    · have hlt1 : (at_ : Int) < (n : Int) := by omega
      obtain ⟨b, off, rfl, hbw, hcl⟩ := HR.out.at_ (j := at_) (by rw [← HN.out]; exact hlt)
      have cd := hcl at_ (by rw [← HN.out]; exact hlt)
      obtain ⟨X, qq, hX⟩ : ∃ X qq, lnP (l.drop at_) = (X, qq) := ⟨_, _, rfl⟩
      obtain ⟨x1, x2, x3⟩ := lnP_le (l.drop at_)
      have hqp : 1 ≤ qq := by
        have h := lnP_pos (d := l.drop at_) (by intro e; have := congrArg List.length e; rw [List.length_drop, ← HN.out] at this; simp at this; omega)
        rw [hX] at h
        exact h
      rw [hX] at x1 x2 x3
      rw [List.length_drop, ← HN.out] at x2
      simp only [] at x1 x2 x3
      obtain ⟨xn, hxn⟩ : ∃ xn, xn = X.length := ⟨_, rfl⟩
      obtain ⟨en, hen⟩ : ∃ en, en = at_ + xn := ⟨_, rfl⟩
      obtain ⟨nx, hnx⟩ : ∃ nx, nx = at_ + qq := ⟨_, rfl⟩
      have KL := rline_walk wr (some ⟨b, off, none⟩) l n c at_ HN.out (HR.out.below HB.out) (by omega) han
      rw [show lnI l at_ = (en, nx) by unfold lnI; rw [hX, hen, hnx, hxn]] at KL
      have HKL := Lib.hid KL
      have hsl := slice_sub (some ⟨b, off, none⟩) n c at_ en (by omega) (by omega)
      have hrX : RB wr w.heap.size (subA (some ⟨b, off, none⟩) c at_) X := by
        have := ((HR.out.subA c at_ (by rw [← HN.out]; exact hc)).take X.length).below HB.out
        rwa [x3] at this
      have HRX := Lib.hid hrX
      have KC := Lib.hid (colon_walk wr (subA (some ⟨b, off, none⟩) c at_) X (en - at_) (c - at_) (by omega) hrX (by omega) (by omega))
      have HXN := Lib.hid hxn
      have HLN2 := Lib.hid hX
      have hen1 : en ≤ at_ + xn := by omega
      have hen2 : at_ + xn ≤ en := by omega
      have hn1 : nx ≤ at_ + qq := by omega
      have hn2 : at_ + qq ≤ nx := by omega
      have hqx : xn ≤ qq := by omega
      have hqn : at_ + qq ≤ n := by omega
      have HCD : Hid (∀ w', Below w.heap.size w w' → w'.cell? ⟨b, off + at_, none⟩ = some (.int .u8 (bt l at_))) := Lib.hid fun w' hb => by rw [hb.cell (show b < w.heap.size from hbw)]; exact cd
      obtain ⟨cI, hcI⟩ : ∃ cI, cI = colI X := ⟨_, rfl⟩
      rw [← hcI] at KC
      have HCI := Lib.hid hcI
      have hbt : xn ≥ 1 → ∃ ch X', X = ch :: X' ∧ bt l at_ = (ch.toNat : Int) := fun h => by
        cases X with
        | nil => simp at hxn; omega
        | cons ch X' =>
          refine ⟨ch, X', rfl, ?_⟩
          have h9 := List.drop_eq_getElem_cons (l := l) (i := at_) (by rw [← HN.out]; exact hlt)
          rw [h9, List.length_cons, List.take_succ_cons] at x3
          injection x3 with x4
          rw [bt_getElem (by rw [← HN.out]; exact hlt), x4]
      have HBT := Lib.hid hbt
      clear hX x1 x2 x3 hxn hen hnx KL hrX cd hcl hcI hbt
      go_wp2_with fail
      with_reducible refine HKL.out.mono ?_
      rintro e6 w6 ⟨rfl, rfl⟩
      clear HKL
      go_wp2_with fail
      with_reducible refine KC.out.mono ?_
      rintro e7 w7 ⟨rfl, rfl⟩
      clear KC hsl
      by_cases hA : out ≠ [] ∧ blH X = true
      · obtain ⟨L0, g, rfl⟩ := getLast_some hA.1
        have hxn1 : 1 ≤ xn := by
          have := HXN.out
          cases X with
          | nil => exact absurd hA.2 (by decide)
          | cons ch X' => simp at this; omega
        obtain ⟨ch, X', hXe, hbe⟩ := HBT.out hxn1
        have hbl : blC ch = true := by have := hA.2; rw [hXe] at this; exact this
        have cch := HCD.out wr HB.out
        rw [hbe] at cch
        have KB := Lib.hid (rblank_walk ch (ch.toNat : Int) rfl wr)
        rw [hbl] at KB
        obtain ⟨k0, hk0⟩ : ∃ k0, k0 = L0.length := ⟨_, rfl⟩
        have hno1 : no = k0 + 1 := by rw [HNO.out, hk0]; simp
        obtain ⟨bo, co, hu5, hbo, hbl5, hco, hcm5⟩ := HO.out.form (by simp)
        injection hu5 with hu1 hu2 hu3
        subst hu1 hu3
        have hgi := HI.out g (by simp)
        have hw1 : IntKind.i64.wrap ((no : Int) - 1) = (k0 : Int) := by rw [IntWalk.i64_in _ (by omega)]; omega
        have hk1 : (0 : Int) ≤ (k0 : Int) := by omega
        have hk2 : (k0 : Int) < (no : Int) := by omega
        have hk3 : k0 < no := by omega
        have hx0 : (at_ : Int) < (en : Int) := by omega
        have hlast : (L0 ++ [g])[k0]? = some g := by rw [hk0]; simp
        have k3d : wr.cell? ⟨bo, k0 * 4 + 3, none⟩ = some (.int .i64 (g.tt : Int)) := HO.out.cell HNO.out hlast (j := 3) (by omega)
        have k3f := HO.out.free HNO.out (k0 * 4 + 3)
        have HOt : Hid (OwnF (wr.setCell ⟨bo, k0 * 4 + 3, none⟩ (.int .i64 (nx : Int))) w.heap.size (.slice (some ⟨bo, 0, none⟩) no c5) (L0 ++ [⟨g.nm, g.bd, g.fr, nx⟩])) := Lib.hid (by rw [hk0]; exact HO.out.set_ HNO.out ⟨g.nm, g.bd, g.fr, nx⟩ 3 _ (by omega) (fdc_tt g nx))
        have HBt : Hid (Below w.heap.size w (wr.setCell ⟨bo, k0 * 4 + 3, none⟩ (.int .i64 (nx : Int)))) := Lib.hid (HB.out.setCell (p := ⟨bo, k0 * 4 + 3, none⟩) hbo _)
        have hlast2 : (L0 ++ [(⟨g.nm, g.bd, g.fr, nx⟩ : Fd)])[k0]? = some ⟨g.nm, g.bd, g.fr, nx⟩ := by rw [hk0]; simp
        have HNO2 : Hid (no = (L0 ++ [(⟨g.nm, g.bd, g.fr, nx⟩ : Fd)]).length) := Lib.hid (by rw [HNO.out]; simp)
        have HK0 := Lib.hid hk0
        have HGI := Lib.hid hgi
        have HBH : Hid (blH X = true) := Lib.hid hA.2
        clear hA hlast hk0 hno1 hgi hbl hu2 hXe hbe
        go_upto_region 14 with (with_reducible refine KB.out.mono ?_; rintro e30 w30 ⟨rfl, rfl⟩)
        clear cch KB hx0 hk1 hk2 hw1 k3d k3f
        generalize (wr.setCell ⟨bo, k0 * 4 + 3, none⟩ (.int .i64 (nx : Int))) = w9 at *
        have k0c : w9.cell? ⟨bo, k0 * 4, none⟩ = some (.string ⟨g.nm.toArray⟩) := HOt.out.cell (g := ⟨g.nm, g.bd, g.fr, nx⟩) HNO2.out hlast2 (j := 0) (by omega)
        have k1c : w9.cell? ⟨bo, k0 * 4 + 1, none⟩ = some (.string ⟨g.bd.toArray⟩) := HOt.out.cell (g := ⟨g.nm, g.bd, g.fr, nx⟩) HNO2.out hlast2 (j := 1) (by omega)
        have k2c : w9.cell? ⟨bo, k0 * 4 + 2, none⟩ = some (.int .i64 (g.fr : Int)) := HOt.out.cell (g := ⟨g.nm, g.bd, g.fr, nx⟩) HNO2.out hlast2 (j := 2) (by omega)
        have k1f := HOt.out.free HNO2.out (k0 * 4 + 1)
        obtain ⟨sN, hsN⟩ : ∃ sN : ByteArray, sN = ⟨g.nm.toArray⟩ := ⟨_, rfl⟩
        have hsz : sN.size = g.nm.length := by rw [hsN]; exact sv_size _
        rw [← hsN] at k0c
        have hgi := HGI.out
        obtain ⟨fr, hfr⟩ : ∃ fr, fr = g.fr := ⟨_, rfl⟩
        rw [← hfr] at k2c hgi
        rw [← hsz] at hgi
        obtain ⟨hg1, hg2⟩ := hgi
        have hlo : fr + sN.size + 1 ≤ en := by omega
        have hsl := slice_sub (some ⟨b, off, none⟩) n c (fr + sN.size + 1) en hlo (by omega)
        obtain ⟨Bd, hBd⟩ : ∃ Bd, (l.drop (fr + sN.size + 1)).take (en - (fr + sN.size + 1)) = Bd := ⟨_, rfl⟩
        have hBl : en - (fr + sN.size + 1) = Bd.length := by rw [← hBd, List.length_take, List.length_drop, ← HN.out]; omega
        have hrB : RB w9 w9.heap.size (subA (some ⟨b, off, none⟩) c (fr + sN.size + 1)) Bd := hBd ▸ ((((HR.out.below HBt.out).mono HBt.out.size).subA c (fr + sN.size + 1) (by rw [← HN.out]; exact hc)).take _)
        have hcv0 := conv_rb hrB (en - (fr + sN.size + 1)) (c - (fr + sN.size + 1)) hBl
        have hcv1 := conv_rb (hrB.drewN 1) (en - (fr + sN.size + 1)) (c - (fr + sN.size + 1)) hBl
        have hcv2 : (convert 22 9 (.slice (subA (some ⟨b, off, none⟩) c (fr + sN.size + 1)) (en - (fr + sN.size + 1)) (c - (fr + sN.size + 1)))).run Tryd.prog w9.drew = .ok (.string ⟨Bd.toArray⟩) w9.drew := hcv1
        have HGM : Hid (g.more l (at_ + xn) (at_ + qq) = ⟨g.nm, Bd, g.fr, at_ + qq⟩) := Lib.hid (by
          have e : at_ + xn = en := by omega
          rw [e]
          unfold Fd.more; rw [← hfr, ← hsz, hBd])
        generalize en - (fr + sN.size + 1) = kB at *
        generalize subA (some ⟨b, off, none⟩) c (fr + sN.size + 1) = AB at *
        generalize c - (fr + sN.size + 1) = cB at *
        have t1 : IntKind.i64.wrap ((fr : Int) + (sN.size : Int)) = (fr : Int) + (sN.size : Int) := IntWalk.i64_in _ (by omega)
        have t2 : IntKind.i64.wrap ((fr : Int) + (sN.size : Int) + 1) = (fr : Int) + (sN.size : Int) + 1 := IntWalk.i64_in _ (by omega)
        have hk1 : (0 : Int) ≤ (k0 : Int) := by omega
        have hk2 : (k0 : Int) < (no : Int) := by omega
        have hsl2 : ∀ W, (Instr.slice 22 (.slice (some ⟨b, off, none⟩) n c) (some (.int .i64 ((fr : Int) + (sN.size : Int) + 1))) (some (.int .i64 (en : Int))) none).run Tryd.prog W = .ok (.slice AB kB cB) W := fun W => by have := hsl W; simpa using this
        clear hsl hcv1 hrB hBl hBd hsN hsz hfr hg1 hg2 hlo hlast2
        go_region
        all_goals
          have HOx := Lib.hid (HOt.out.set_ HNO2.out ⟨g.nm, Bd, g.fr, nx⟩ 1 (sv Bd) (by omega) (fdc_bd _ Bd))
          rw [← HK0.out] at HOx
          have HBx : Hid (Below w.heap.size w ((w9.setCell ⟨bo, k0 * 4 + 1, none⟩ (.string ⟨Bd.toArray⟩)).drew)) := Lib.hid (bdrewN (HBt.out.setCell (p := ⟨bo, k0 * 4 + 1, none⟩) hbo _) 1)
          have HOy : Hid (OwnF ((w9.setCell ⟨bo, k0 * 4 + 1, none⟩ (.string ⟨Bd.toArray⟩)).drew) w.heap.size (.slice (some ⟨bo, 0, none⟩) no c5) (L0 ++ [⟨g.nm, Bd, g.fr, nx⟩])) := Lib.hid HOx.out
          have HSx := Lib.hid (spl_more (nx := nx) HS.out HLN2.out HBH.out (by rw [← HN.out]; exact hlt) hqp HXN.out (by omega) HGM.out)
          have hgx := HGI.out
          have hol2 : (L0 ++ [(⟨g.nm, Bd, g.fr, nx⟩ : Fd)]).length ≤ nx := by simp; simp at hol; omega
          generalize ((w9.setCell ⟨bo, k0 * 4 + 1, none⟩ (.string ⟨Bd.toArray⟩)).drew) = wx at *
          clear t1 t2 hsl2 hcv0 hcv2 k0c k1c k2c k1f HOx
          go_wp2
          go_roundg (n - nx)
          case rel => exact ⟨nx, L0 ++ [⟨g.nm, Bd, g.fr, nx⟩], rfl, HOy, HBx, hol2, by omega, Lib.hid (by intro x hx; simp at hx; subst hx; exact ⟨by simp; omega, by simp; omega⟩), rfl, HSx⟩
          case measure => omega
      · have HA := Lib.hid hA
        clear hA
        cases hcp : colP X with
        | none =>
          have hcv : cI = -1 := by rw [HCI.out]; unfold colI; rw [hcp]
          subst hcv
          have HSx := Lib.hid (splH_stopR (nx := nx) HS.out HLN2.out HA.out hcp (by rw [← HN.out]; exact hlt) (by omega))
          clear hcp HCI HRX
          rcases three_ways2 HNO.out HA.out HBT.out with h3 | ⟨h3, ch, hbe, hbf⟩ | ⟨h3, h4, ch, hbe, hbf⟩
          case' inl =>
            have z1 : ¬ (at_ : Int) < (en : Int) := by omega
          case' inr.inl =>
            have z1 : (at_ : Int) < (en : Int) := by omega
            have cch := HCD.out wr HB.out
            rw [hbe] at cch
            have KB := Lib.hid (rblank_walk ch (ch.toNat : Int) rfl wr)
            rw [hbf] at KB
          case' inr.inr =>
            have z1 : (at_ : Int) < (en : Int) := by omega
            have z2 : ¬ (1 : Int) ≤ (no : Int) := by omega
            have z3 : ¬ (0 : Int) ≤ (no : Int) - 1 := by omega
            have cch := HCD.out wr HB.out
            rw [hbe] at cch
            have KB := Lib.hid (rblank_walk ch (ch.toNat : Int) rfl wr)
            rw [hbf] at KB
          all_goals
            go_upto_region 9 with (with_reducible refine KB.out.mono ?_; rintro e30 w30 ⟨rfl, rfl⟩)
          all_goals
            by_cases hz : xn = 0
            · have hz1 : ((en : Int) == (at_ : Int)) = true := by rw [beq_iff_eq]; omega
              have hz2 : en = at_ := by omega
              have HXE : Hid (X = []) := Lib.hid (List.eq_nil_of_length_eq_zero (by rw [← HXN.out]; exact hz))
              have KC := Lib.hid (rchecked_walk wr w.heap.size A5 no c5 nx l out HO.out HNO.out (by rw [HSx.out, if_pos HXE.out]) hoN)
              clear hz hz2
              go_wp2_with fail
              with_reducible refine KC.out.mono ?_
              rintro e36 w36 ⟨rfl, hp⟩
              obtain ⟨hb6, A2, c2, rfl, r1, r2, r3⟩ := SplitPost.trans HB.out hp
              go_wp2
              go_ret3
              exact ⟨hb6, A2, c2, rfl, r1, r2, r3⟩
            · have hz1 : ((en : Int) == (at_ : Int)) = false := by rw [beq_eq_false_iff_ne]; omega
              have HXE : Hid (¬ X = []) := Lib.hid (fun e => by have := HXN.out; rw [e] at this; exact hz this)
              have KC := Lib.hid (rchecked_walk wr w.heap.size A5 no c5 at_ l out HO.out HNO.out (by rw [HSx.out, if_neg HXE.out]) hoN)
              clear hz
              go_wp2_with fail
              with_reducible refine KC.out.mono ?_
              rintro e36 w36 ⟨rfl, hp⟩
              obtain ⟨hb6, A2, c2, rfl, r1, r2, r3⟩ := SplitPost.trans HB.out hp
              go_wp2
              go_ret3
              exact ⟨hb6, A2, c2, rfl, r1, r2, r3⟩
        | some nr =>
          obtain ⟨nm, rs⟩ := nr
          obtain ⟨hcs, hnb⟩ := colP_some hcp
          obtain ⟨nl, hnl⟩ : ∃ nl, nl = nm.length := ⟨_, rfl⟩
          have hcv : cI = (nl : Int) := by rw [HCI.out, hnl]; unfold colI; rw [hcp]
          subst hcv
          have hnl1 : 1 ≤ nl := by
            rw [hnl]
            cases nm with
            | nil => exact absurd hnb (by decide)
            | cons a t => simp
          obtain ⟨e1, e2, e3⟩ := rest_of (D := l.drop at_) (by have := (lnP_le (l.drop at_)).2.2; rw [HLN2.out] at this; exact this) hcs
          have HSx := Lib.hid (spl_new (nx := nx) HS.out HLN2.out HA.out hcs hnb (by rw [← HN.out]; exact hlt) hqp (by omega))
          have hHX := HXN.out
          have hne : at_ + nl + 1 ≤ en := by omega
          have hrN : RB wr w.heap.size (subA (some ⟨b, off, none⟩) c at_) nm := by
            have := ((HR.out.subA c at_ (by rw [← HN.out]; exact hc)).take nm.length).below HB.out
            rwa [e1] at this
          have hrR : RB wr w.heap.size (subA (some ⟨b, off, none⟩) c (at_ + nl + 1)) rs := by
            have := ((HR.out.subA c (at_ + nl + 1) (by rw [← HN.out]; exact hc)).take (X.length - (nm.length + 1))).below HB.out
            rwa [show l.drop (at_ + nl + 1) = (l.drop at_).drop (nm.length + 1) by rw [List.drop_drop, hnl, Nat.add_assoc], e2] at this
          have hslN := slice_sub (some ⟨b, off, none⟩) n c at_ (at_ + nl) (by omega) (by omega)
          have hslR := slice_sub (some ⟨b, off, none⟩) n c (at_ + nl + 1) en hne (by omega)
          have hlN : at_ + nl - at_ = nm.length := by omega
          have hlR : en - (at_ + nl + 1) = rs.length := by omega
          have hcN := conv_rb hrN (at_ + nl - at_) (c - at_) hlN
          have hcR := conv_rb hrR (en - (at_ + nl + 1)) (c - (at_ + nl + 1)) hlR
          have hcN1 := conv_rb (hrN.drewN 1) (at_ + nl - at_) (c - at_) hlN
          have hcR1 := conv_rb (hrR.drewN 1) (en - (at_ + nl + 1)) (c - (at_ + nl + 1)) hlR
          generalize subA (some ⟨b, off, none⟩) c at_ = AN at *
          generalize subA (some ⟨b, off, none⟩) c (at_ + nl + 1) = AR at *
          generalize at_ + nl - at_ = kN at *
          generalize en - (at_ + nl + 1) = kR at *
          generalize c - at_ = cN at *
          generalize c - (at_ + nl + 1) = cR at *
          have hcN2 : (convert 22 9 (.slice AN kN cN)).run Tryd.prog wr.drew = .ok (.string ⟨nm.toArray⟩) wr.drew := hcN1
          have hcR2 : (convert 22 9 (.slice AR kR cR)).run Tryd.prog wr.drew = .ok (.string ⟨rs.toArray⟩) wr.drew := hcR1
          have t1 : IntKind.i64.wrap ((at_ : Int) + (nl : Int)) = (at_ : Int) + (nl : Int) := IntWalk.i64_in _ (by omega)
          have t2 : IntKind.i64.wrap ((at_ : Int) + (nl : Int) + 1) = (at_ : Int) + (nl : Int) + 1 := IntWalk.i64_in _ (by omega)
          have hslN2 : ∀ W, (Instr.slice 22 (.slice (some ⟨b, off, none⟩) n c) (some (.int .i64 (at_ : Int))) (some (.int .i64 ((at_ : Int) + (nl : Int)))) none).run Tryd.prog W = .ok (.slice AN kN cN) W := fun W => by have := hslN W; simpa using this
          have hslR2 : ∀ W, (Instr.slice 22 (.slice (some ⟨b, off, none⟩) n c) (some (.int .i64 ((at_ : Int) + (nl : Int) + 1))) (some (.int .i64 (en : Int))) none).run Tryd.prog W = .ok (.slice AR kR cR) W := fun W => by have := hslR W; simpa using this
          have HNL : Hid (at_ + nm.length + 1 ≤ nx) := Lib.hid (by omega)
          have hnp : (0 : Int) < (nl : Int) := by omega
          have HNLE := Lib.hid hnl
          clear hcp hcs hnb e1 e2 e3 hHX hrN hrR hslN hslR hlN hlR hcN1 hcR1 hnl HCI HRX
          rcases three_ways2 HNO.out HA.out HBT.out with h3 | ⟨h3, ch, hbe, hbf⟩ | ⟨h3, h4, ch, hbe, hbf⟩
          case' inl =>
            have z1 : ¬ (at_ : Int) < (en : Int) := by omega
          case' inr.inl =>
            have z1 : (at_ : Int) < (en : Int) := by omega
            have cch := HCD.out wr HB.out
            rw [hbe] at cch
            have KB := Lib.hid (rblank_walk ch (ch.toNat : Int) rfl wr)
            rw [hbf] at KB
          case' inr.inr =>
            have z1 : (at_ : Int) < (en : Int) := by omega
            have z2 : ¬ (1 : Int) ≤ (no : Int) := by omega
            have z3 : ¬ (0 : Int) ≤ (no : Int) - 1 := by omega
            have cch := HCD.out wr HB.out
            rw [hbe] at cch
            have KB := Lib.hid (rblank_walk ch (ch.toNat : Int) rfl wr)
            rw [hbf] at KB
          all_goals
            go_upto_region 16 with (with_reducible refine KB.out.mono ?_; rintro e30 w30 ⟨rfl, rfl⟩)
          all_goals
            have HOa : Hid (OwnF ((wr.alloc (.cells #[.string ⟨nm.toArray⟩, .string ⟨rs.toArray⟩, .int .i64 (at_ : Int), .int .i64 (nx : Int)] 29)).drew) w.heap.size (.slice A5 no c5) out) := Lib.hid (HO.out.alloc _)
            have hba := (Below.refl wr.heap.size wr).alloc (Nat.le_refl _) (.cells #[.string ⟨nm.toArray⟩, .string ⟨rs.toArray⟩, .int .i64 (at_ : Int), .int .i64 (nx : Int)] 29)
            have HBa : Hid (Below w.heap.size w ((wr.alloc (.cells #[.string ⟨nm.toArray⟩, .string ⟨rs.toArray⟩, .int .i64 (at_ : Int), .int .i64 (nx : Int)] 29)).drew)) := Lib.hid (bdrewN (HB.out.trans (hba.mono HB.out.size)) 1)
            have HCa : Hid (∀ j, j < 4 → ((wr.alloc (.cells #[.string ⟨nm.toArray⟩, .string ⟨rs.toArray⟩, .int .i64 (at_ : Int), .int .i64 (nx : Int)] 29)).drew).cell? ⟨wr.heap.size, j, none⟩ = (fdc ⟨nm, rs, at_, nx⟩)[j]?) := Lib.hid fun j hj => by
              show (wr.alloc _).cell? _ = _
              rw [(Blk.new wr _ _).cell j, ← Array.getElem?_toList]; rfl
            have hol1 : out.length ≤ 1000000000000 := by have := HNO.out; omega
            clear hba
            go_region_law (refine step_appF _ (.tmp 85) (.tmp 104) rfl rfl w.heap.size rfl HOa.out wr.heap.size 1 rfl HCa.out hol1 HBa.out.size ?_; intro v2 w2 hO2 hg2; have HO2 := Lib.hid hO2; have HB2 := Lib.hid (HBa.out.trans (below_of_grownF HOa.out hg2 HBa.out.size)); clear hO2 hg2)
            all_goals
              go_wp2
              go_roundg (n - nx)
              case rel => exact ⟨nx, out ++ [⟨nm, rs, at_, nx⟩], rfl, HO2, HB2, by simp; omega, by omega, Lib.hid (by intro x hx; simp at hx; subst hx; exact ⟨HNL.out, by simp; omega⟩), rfl, HSx⟩
              case measure => omega
    · have z0 : ¬ (at_ : Int) < (n : Int) := by omega
      have KC := Lib.hid (rchecked_walk wr w.heap.size A5 no c5 at_ l out HO.out HNO.out (by obtain ⟨f, _, h⟩ := HS.out; rw [h, splH_end (by rw [← HN.out]; omega)]) hoN)
      clear HS HI
      go_wp2_with fail
      with_reducible refine KC.out.mono ?_
      rintro e6 w6 ⟨rfl, hp⟩
      obtain ⟨hb6, A2, c2, rfl, r1, r2, r3⟩ := SplitPost.trans HB.out hp
      go_wp2
      go_ret3
      exact ⟨hb6, A2, c2, rfl, r1, r2, r3⟩
end Go.Proofs.YtgbbadbffcjamaaDoor
