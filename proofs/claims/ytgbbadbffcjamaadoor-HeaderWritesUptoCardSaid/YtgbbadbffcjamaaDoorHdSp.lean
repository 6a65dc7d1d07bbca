/-
  The walk of the program's Split. Conditions: the size.
-/
import Derived.Test.YtgbbadbffcjamaaDoorHdS0
import Derived.BigRegion
namespace Go.Proofs.YtgbbadbffcjamaaDoor
open Go.RowKit
set_option linter.unusedVariables false
theorem clipF_walk (w : World) (A : Option Addr) (n c : Nat) (hc : n ≤ c) (hm : c ≤ 9223372036854775807) :
    Calls Tryd.prog 24 #[.slice A n c] w fun e w' => w = w' ∧ e = .returned (.slice A n n) := by
  go_enter Tryd.func24, Tryd.ntmps24
  go_wp2
  go_ret
  exact ⟨rfl, rfl⟩
set_option maxRecDepth 1000000 in
set_option maxHeartbeats 9000000 in
theorem split_walk (w : World) (hM : Mx w) (A : Option Addr) (l : List UInt8) (n c : Nat) (hn : n = l.length) (hr : RB w w.heap.size A l) (hc : n ≤ c) (hm : c ≤ 9223372036854775807) (hl : n ≤ 7000000) :
    Calls Tryd.prog 8 #[.slice A n c] w (SplitPost w l) := by
  have HM := Lib.hid hM
  have HR := Lib.hid hr
  have HN := Lib.hid hn
  clear hM hr hn
  go_enter Tryd.func8, Tryd.ntmps8
  go_wp2_with fail
  go_loopg [5, 6, 7] (n + 1) (fun k s5 s6 s7 wr => ∃ (at_ : Nat) (out : List Fd), s6 = .int .i64 (at_ : Int) ∧ Hid (OwnF wr w.heap.size s5 out) ∧ Hid (Below w.heap.size w wr) ∧ out.length ≤ at_ ∧ at_ ≤ n ∧ Hid (∀ g ∈ out.getLast?, g.fr + g.nm.length + 1 ≤ at_ ∧ g.tt ≤ n) ∧
    ((s7 = .int .i64 (-1) ∧ k = n - at_ + 1 ∧ Hid (∃ f, l.length ≤ at_ + f ∧ splP l = splH l f at_ out)) ∨ ∃ b : Nat, s7 = .int .i64 (b : Int) ∧ k = 0 ∧ Hid (splP l = (out, b))))
  case atStart => exact ⟨0, [], rfl, Lib.hid (OwnF.nil _ _), Lib.hid (Below.refl _ _), Nat.zero_le _, Nat.zero_le _, Lib.hid (by simp), .inl ⟨rfl, by omega, Lib.hid ⟨l.length, by omega, rfl⟩⟩⟩
  case round =>
    obtain ⟨at_, out, rfl, HO, HB, hol, han, HI, hcase⟩ := hrel
    rcases hcase with ⟨rfl, hk, HS⟩ | ⟨bd, rfl, hk, HS⟩
    · by_cases hlt : at_ < n
      · have hlt1 : (at_ : Int) < (n : Int) := by omega
        obtain ⟨b, off, rfl, -, -⟩ := HR.out.at_ (j := at_) (by rw [← HN.out]; exact hlt)
        obtain ⟨d, hd⟩ : ∃ d, l.drop at_ = d := ⟨_, rfl⟩
        have hdl : n - at_ = d.length := by rw [← hd, List.length_drop, HN.out]
        obtain ⟨nd, hnd⟩ : ∃ nd, nd = n - at_ := ⟨_, rfl⟩
        have HND : Hid (nd = d.length) := Lib.hid (by rw [hnd, hdl])
        have hnd1 : at_ + nd ≤ n := by omega
        have hnd2 : n ≤ at_ + nd := by omega
        have RD : Hid (RB w w.heap.size (some ⟨b, off + at_, none⟩) d) := Lib.hid (by rw [← hd]; exact HR.out.drop at_)
        have hsl := slice_at b off n c at_ hlt hc
        rw [← hnd] at hsl
        clear hnd hdl
        have hcv := Lib.run_convert_bytes_const (P := Tryd.prog) wr 22 5 #[.int .u8 13, .int .u8 10] 2 2 Tryd.underlying22 Tryd.underlying5
        have hba := HB.out.trans ((Below.refl wr.heap.size wr).alloc (Nat.le_refl _) (.cells #[.int .u8 13, .int .u8 10] 5 (2, 3)) |>.mono HB.out.size)
        obtain ⟨m, hmx⟩ := HM.out.below hba
        have KC := Lib.hid (cutcr_walk (wr.alloc (.cells #[.int .u8 13, .int .u8 10] 5 (2, 3))) (RD.out.below hba) (RB.mark wr 5 #[.int .u8 13, .int .u8 10] (2, 3) [13, 10] rfl) nd (c - at_) 2 HND.out (by omega) (by omega) m hmx)
        have HBA := Lib.hid hba
        have HOA := Lib.hid (HO.out.kept (World.grownBy_alloc wr (.cells #[.int .u8 13, .int .u8 10] 5 (2, 3)) none) (by cases u5.ownBlock <;> simp))
        clear hba hmx
        have HLN : Hid (lnP (l.drop at_) = lnP d) := Lib.hid (by rw [hd])
        clear hd
        go_wp2_with fail
        with_reducible refine KC.out.mono ?_
        rintro e6 w6 ⟨⟨q, rfl⟩, hcase⟩
        have HB6 := Lib.hid (bdrewN HBA.out q)
        have HO6 : Hid (OwnF ((wr.alloc (.cells #[.int .u8 13, .int .u8 10] 5 (2, 3))).drewN q) w.heap.size u5 out) := Lib.hid HOA.out
        clear KC HBA HOA hcv hsl HB HO
        generalize (wr.alloc (.cells #[.int .u8 13, .int .u8 10] 5 (2, 3))).drewN q = w6 at *
        have RD6 : Hid (RB w6 w6.heap.size (some ⟨b, off + at_, none⟩) d) := Lib.hid ((RD.out.below HB6.out).mono HB6.out.size)
        have hwr : at_ ≤ 7000000 ∧ nd ≤ 7000000 := by omega
        obtain ⟨a1, a2⟩ := hwr
        rcases hcase with ⟨hcn, rfl⟩ | ⟨x, y, A3, c3, hcs, rfl, -, -, -⟩
        case' inl =>
          obtain ⟨xn, rfl⟩ : ∃ xn, xn = nd := ⟨_, rfl⟩
          obtain ⟨X, rfl⟩ : ∃ X, X = d := ⟨_, rfl⟩
          obtain ⟨qq, hqq⟩ : ∃ qq, qq = xn := ⟨_, rfl⟩
          have HL : Hid (lnP X = (X, qq)) := Lib.hid (by unfold lnP; rw [hcn, hqq, HND.out])
          have RX : Hid (RB w6 w6.heap.size (some ⟨b, off + at_, none⟩) X) := RD6
          have HXN : Hid (xn = X.length) := HND
          have HLN2 : Hid (lnP (l.drop at_) = (X, qq)) := Lib.hid (HLN.out.trans HL.out)
          have hqx : xn ≤ qq := by omega
          have hqn : at_ + qq ≤ n := by omega
          obtain ⟨nx, hnx⟩ : ∃ nx, nx = at_ + qq := ⟨_, rfl⟩
          have hE : (at_ : Int) + (xn : Int) = (nx : Int) := by omega
          have hn1 : nx ≤ at_ + qq := by omega
          have hn2 : at_ + qq ≤ nx := by omega
          clear hcn hqq hnx HL HLN
          go_upto_region 8 with fail
        case' inr =>
          obtain ⟨c1, c2, c4⟩ := cutCR_at hcs
          obtain ⟨X, rfl⟩ : ∃ X, X = x := ⟨_, rfl⟩
          obtain ⟨xn, hxn⟩ : ∃ xn, xn = X.length := ⟨_, rfl⟩
          have HXN := Lib.hid hxn
          obtain ⟨qq, hqq⟩ : ∃ qq, qq = xn + 2 := ⟨_, rfl⟩
          have HLN2 : Hid (lnP (l.drop at_) = (X, qq)) := Lib.hid (HLN.out.trans (by unfold lnP; rw [hcs]; show (X, X.length + 2) = _; rw [hqq, hxn]))
          have RX : Hid (RB w6 w6.heap.size (some ⟨b, off + at_, none⟩) X) := Lib.hid (by have := RD6.out.take X.length; rwa [c1] at this)
          have hqx : xn ≤ qq := by omega
          have hqn : at_ + qq ≤ n := by have := HND.out; omega
          obtain ⟨nx, hnx⟩ : ∃ nx, nx = at_ + qq := ⟨_, rfl⟩
          have hE : (at_ : Int) + (xn : Int) + 2 = (nx : Int) := by omega
          have hn1 : nx ≤ at_ + qq := by omega
          have hn2 : at_ + qq ≤ nx := by omega
          have hxb : xn ≤ 7000000 := by omega
          rw [← hxn]
          clear hcs hqq hnx HLN c1 c2 c4 hxn HND
          go_upto_region 8 with fail
        all_goals
          clear RD6 RD
          have hcv8 := Lib.run_convert_bytes_const (P := Tryd.prog) w6 22 5 #[.int .u8 58] 1 1 Tryd.underlying22 Tryd.underlying5
          have hba8 := HB6.out.trans ((Below.refl w6.heap.size w6).alloc (Nat.le_refl _) (.cells #[.int .u8 58] 5 (1, 2)) |>.mono HB6.out.size)
          have hbx8 := (Below.refl w6.heap.size w6).alloc (Nat.le_refl _) (.cells #[.int .u8 58] 5 (1, 2))
          have RX8 : Hid (RB (w6.alloc (.cells #[.int .u8 58] 5 (1, 2))) (w6.alloc (.cells #[.int .u8 58] 5 (1, 2))).heap.size (some ⟨b, off + at_, none⟩) X) := Lib.hid ((RX.out.below hbx8).mono hbx8.size)
          have KC8 := Lib.hid (cutb_walk (w6.alloc (.cells #[.int .u8 58] 5 (1, 2))) RX8.out xn (c - at_) w6.heap.size 0 1 HXN.out (by omega) (by omega) 58 58 rfl (World.cell?_alloc_mark w6 #[.int .u8 58] 5 (1, 2) 0))
          have HB8 := Lib.hid hba8
          have HO8 := Lib.hid (HO6.out.kept (World.grownBy_alloc w6 (.cells #[.int .u8 58] 5 (1, 2)) none) (by cases u5.ownBlock <;> simp))
          clear hba8 hbx8 RX
          go_wp2_with fail
          with_reducible refine KC8.out.mono ?_
          rintro e9 w9 ⟨⟨q9, rfl⟩, hcase⟩
          have HB9 := Lib.hid (bdrewN HB8.out q9)
          have HO9 : Hid (OwnF ((w6.alloc (.cells #[.int .u8 58] 5 (1, 2))).drewN q9) w.heap.size u5 out) := Lib.hid HO8.out
          have RX9 : Hid (RB ((w6.alloc (.cells #[.int .u8 58] 5 (1, 2))).drewN q9) ((w6.alloc (.cells #[.int .u8 58] 5 (1, 2))).drewN q9).heap.size (some ⟨b, off + at_, none⟩) X) := Lib.hid RX8.out
          have HCS : Hid ((cutAt 58 X = none ∧ e9 = .returned (.tuple #[.slice (some ⟨b, off + at_, none⟩) xn (c - at_), .slice none 0 0, .bool false])) ∨ ∃ x y A3 c3, cutAt 58 X = some (x, y) ∧ e9 = .returned (.tuple #[.slice (some ⟨b, off + at_, none⟩) x.length (c - at_), .slice A3 y.length c3, .bool true]) ∧ RB ((w6.alloc (.cells #[.int .u8 58] 5 (1, 2))).drewN q9) ((w6.alloc (.cells #[.int .u8 58] 5 (1, 2))).drewN q9).heap.size A3 y ∧ y.length ≤ c3 ∧ c3 ≤ c - at_) := Lib.hid hcase
          clear KC8 HB8 HO8 hcv8 HB6 HO6 RX8 hcase
          generalize (w6.alloc (.cells #[.int .u8 58] 5 (1, 2))).drewN q9 = w9 at *
          have hoN : out.length ≤ 7000000 := by omega
          by_cases hA : out ≠ [] ∧ blH X = true
          · obtain ⟨L0, g, rfl⟩ := getLast_some hA.1
            obtain ⟨ch, X', rfl⟩ : ∃ ch X', X = ch :: X' := by
              cases X with
              | nil => exact absurd hA.2 (by decide)
              | cons ch X' => exact ⟨ch, X', rfl⟩
            have hbl : blC ch = true := hA.2
            obtain ⟨k0, hk0⟩ : ∃ k0, k0 = L0.length := ⟨_, rfl⟩
            obtain ⟨no, hno⟩ : ∃ no, no = (L0 ++ [g]).length := ⟨_, rfl⟩
            have hno1 : no = k0 + 1 := by rw [hno, hk0]; simp
            obtain ⟨bo, co, hu5, hbo, hbl5, hco, hcm5⟩ := HO9.out.form (by simp)
            rw [← hno] at hu5 hco hoN
            subst hu5
            have hgi := HI.out g (by simp)
            have hw1 : IntKind.i64.wrap ((no : Int) - 1) = (k0 : Int) := by rw [IntWalk.i64_in _ (by omega)]; omega
            have hk1 : (0 : Int) ≤ (k0 : Int) := by omega
            have hk2 : (k0 : Int) < (no : Int) := by omega
            have hk3 : k0 < no := by omega
            have hx0 : (0 : Int) < (xn : Int) := by have := HXN.out; simp at this; omega
            have hx1 : 0 < xn := by omega
            have HX1 := Lib.hid hx1
            obtain ⟨b', off', e', hb', hcl'⟩ := RX9.out.at_ (j := 0) (by simp)
            injection e' with e'
            injection e' with e1' e2'
            subst e1' e2'
            have cch : w9.cell? ⟨b, off + at_, none⟩ = some (.int .u8 (ch.toNat : Int)) := by
              have := hcl' 0 (by simp)
              rw [Nat.add_zero] at this
              rw [this]; rfl
            have KB := Lib.hid (blank_walk ch (ch.toNat : Int) rfl w9)
            rw [hbl] at KB
            have hlast : (L0 ++ [g])[k0]? = some g := by rw [hk0]; simp
            have k0c : w9.cell? ⟨bo, k0 * 4, none⟩ = some (.string ⟨g.nm.toArray⟩) := HO9.out.cell hno hlast (j := 0) (by omega)
            have k1c : w9.cell? ⟨bo, k0 * 4 + 1, none⟩ = some (.string ⟨g.bd.toArray⟩) := HO9.out.cell hno hlast (j := 1) (by omega)
            have k2c : w9.cell? ⟨bo, k0 * 4 + 2, none⟩ = some (.int .i64 (g.fr : Int)) := HO9.out.cell hno hlast (j := 2) (by omega)
            have k3c : w9.cell? ⟨bo, k0 * 4 + 3, none⟩ = some (.int .i64 (g.tt : Int)) := HO9.out.cell hno hlast (j := 3) (by omega)
            have k1f := HO9.out.free hno (k0 * 4 + 1)
            have k3f := HO9.out.free hno (k0 * 4 + 3)
            have HNO := Lib.hid hno
            have HK0 := Lib.hid hk0
            have HGI := Lib.hid hgi
            have HBH : Hid (blH (ch :: X') = true) := Lib.hid hA.2
            clear hA hcl' hlast hno hk0 hno1 hgi hbl
            rcases HCS.out with ⟨-, rfl⟩ | ⟨nm, rs, A3, c3, -, rfl, -, -, -⟩
            all_goals
              clear HCS
              go_upto_region 13 with (refine KB.out.mono ?_; rintro e30 w30 ⟨rfl, rfl⟩)
              clear cch KB hx0 hx1 hk1 hk2 hw1 hE
              obtain ⟨sN, hsN⟩ : ∃ sN : ByteArray, sN = ⟨g.nm.toArray⟩ := ⟨_, rfl⟩
              have hsz : sN.size = g.nm.length := by rw [hsN]; exact sv_size _
              rw [← hsN] at k0c
              have hgi := HGI.out
              obtain ⟨fr, hfr⟩ : ∃ fr, fr = g.fr := ⟨_, rfl⟩
              rw [← hfr] at k2c hgi
              rw [← hsz] at hgi
              obtain ⟨hg1, hg2⟩ := hgi
              have hlo : fr + sN.size + 1 ≤ at_ + xn := by omega
              have hsl := slice_sub (some ⟨b, off, none⟩) n c (fr + sN.size + 1) (at_ + xn) hlo (by omega)
              obtain ⟨Bd, hBd⟩ : ∃ Bd, (l.drop (fr + sN.size + 1)).take (at_ + xn - (fr + sN.size + 1)) = Bd := ⟨_, rfl⟩
              have hBl : at_ + xn - (fr + sN.size + 1) = Bd.length := by rw [← hBd, List.length_take, List.length_drop, ← HN.out]; omega
              have hrB : RB w9 w9.heap.size (subA (some ⟨b, off, none⟩) c (fr + sN.size + 1)) Bd := hBd ▸ ((((HR.out.below HB9.out).mono HB9.out.size).subA c (fr + sN.size + 1) (by rw [← HN.out]; exact hc)).take _)
              have hcv0 := conv_rb hrB (at_ + xn - (fr + sN.size + 1)) (c - (fr + sN.size + 1)) hBl
              have hcv1 := conv_rb (hrB.drewN 1) (at_ + xn - (fr + sN.size + 1)) (c - (fr + sN.size + 1)) hBl
              have hcv2 : (convert 22 9 (.slice (subA (some ⟨b, off, none⟩) c (fr + sN.size + 1)) (at_ + xn - (fr + sN.size + 1)) (c - (fr + sN.size + 1)))).run Tryd.prog w9.drew = .ok (.string ⟨Bd.toArray⟩) w9.drew := hcv1
              have HGM : Hid (g.more l (at_ + xn) (at_ + qq) = ⟨g.nm, Bd, g.fr, at_ + qq⟩) := Lib.hid (by unfold Fd.more; rw [← hfr, ← hsz, hBd])
              generalize at_ + xn - (fr + sN.size + 1) = kB at *
              generalize subA (some ⟨b, off, none⟩) c (fr + sN.size + 1) = AB at *
              generalize c - (fr + sN.size + 1) = cB at *
              have t1 : IntKind.i64.wrap ((fr : Int) + (sN.size : Int)) = (fr : Int) + (sN.size : Int) := IntWalk.i64_in _ (by omega)
              have t2 : IntKind.i64.wrap ((fr : Int) + (sN.size : Int) + 1) = (fr : Int) + (sN.size : Int) + 1 := IntWalk.i64_in _ (by omega)
              have t3 : IntKind.i64.wrap ((at_ : Int) + (xn : Int)) = (at_ : Int) + (xn : Int) := IntWalk.i64_in _ (by omega)
              have hsl2 : ∀ W, (Instr.slice 22 (.slice (some ⟨b, off, none⟩) n c) (some (.int .i64 ((fr : Int) + (sN.size : Int) + 1))) (some (.int .i64 ((at_ : Int) + (xn : Int)))) none).run Tryd.prog W = .ok (.slice AB kB cB) W := fun W => by have := hsl W; simpa using this
              clear hsl hcv1 hrB hBl hBd hsN hsz hfr hg1 hg2 hlo
              go_region
              have HOx := Lib.hid (HO9.out.conts HNO.out HK0.out Bd nx)
              have HBx : Hid (Below w.heap.size w (((w9.setCell ⟨bo, k0 * 4 + 1, none⟩ (.string ⟨Bd.toArray⟩)).setCell ⟨bo, k0 * 4 + 3, none⟩ (.int .i64 (nx : Int))).drew)) := Lib.hid (bdrewN ((HB9.out.setCell (p := ⟨bo, k0 * 4 + 1, none⟩) hbo _).setCell (p := ⟨bo, k0 * 4 + 3, none⟩) hbo _) 1)
              have HSx := Lib.hid (spl_more (nx := nx) HS.out HLN2.out HBH.out (by rw [← HN.out]; exact hlt) (by have := HX1.out; omega) HXN.out (by omega) HGM.out)
              have hgx := HGI.out
              have hol2 : (L0 ++ [(⟨g.nm, Bd, g.fr, nx⟩ : Fd)]).length ≤ nx := by simp; simp at hol; omega
              generalize (((w9.setCell ⟨bo, k0 * 4 + 1, none⟩ (.string ⟨Bd.toArray⟩)).setCell ⟨bo, k0 * 4 + 3, none⟩ (.int .i64 (nx : Int))).drew) = wx at *
              clear t1 t2 t3 hsl2 hcv0 hcv2 k0c k1c k2c k3c k1f k3f
              go_wp2
              go_roundg (n - nx + 1)
              case rel => exact ⟨nx, L0 ++ [⟨g.nm, Bd, g.fr, nx⟩], rfl, HOx, HBx, hol2, by omega, Lib.hid (by intro x hx; simp at hx; subst hx; exact ⟨by simp; omega, by simp; omega⟩), .inl ⟨rfl, rfl, HSx⟩⟩
              case measure => have := HX1.out; omega
          · have HA := Lib.hid hA
            have hX2 : X ≠ [] → 1 ≤ xn := fun h => by have := HXN.out; have := List.length_pos_iff.2 h; omega
            have hqp : 1 ≤ qq := by
              have h := lnP_pos (d := l.drop at_) (by intro e; have := congrArg List.length e; rw [List.length_drop, ← HN.out] at this; simp at this; omega)
              rw [HLN2.out] at h
              exact h
            have HX2 := Lib.hid hX2
            obtain ⟨A5, c5, hu5, hc5, hm5⟩ := HO9.out.sl
            obtain ⟨no, hno⟩ : ∃ no, no = out.length := ⟨_, rfl⟩
            rw [← hno] at hu5 hc5 hoN
            subst hu5
            have HNO := Lib.hid hno
            have KB := Lib.hid (fun ch => blank_walk ch (ch.toNat : Int) rfl w9)
            have hcs2 := HCS.out
            clear hE hX2
            rcases hcs2 with ⟨hcn, rfl⟩ | ⟨nm, rs, A3, c3, hcsm, rfl, hRR, hc3, hcc3⟩
            · have HC : Hid (cutAt 58 X = none ∨ ∃ nm rs, cutAt 58 X = some (nm, rs) ∧ nameB nm = false) := Lib.hid (.inl hcn)
              clear hcn HCS hno hA
              have h3 : no < 1 ∨ (1 ≤ no ∧ xn < 1) ∨ (1 ≤ no ∧ 1 ≤ xn ∧ ∃ ch, w9.cell? ⟨b, off + at_, none⟩ = some (.int .u8 (ch.toNat : Int)) ∧ blC ch = false) := three_ways (HNO.out) HXN.out HA.out RX9.out
              rcases h3 with h3 | ⟨h3, h4⟩ | ⟨h3, h4, ch, cch, hbf⟩
              case' inl =>
                have z1 : ¬ (1 : Int) ≤ (no : Int) := by omega
                have z2 : ¬ (0 : Int) ≤ (no : Int) - 1 := by omega
              case' inr.inl =>
                have z1 : (1 : Int) ≤ (no : Int) := by omega
                have z2 : (0 : Int) ≤ (no : Int) - 1 := by omega
                have z3 : ¬ (0 : Int) < (xn : Int) := by omega
              case' inr.inr =>
                have z1 : (1 : Int) ≤ (no : Int) := by omega
                have z2 : (0 : Int) ≤ (no : Int) - 1 := by omega
                have z3 : (0 : Int) < (xn : Int) := by omega
                have KB2 := Lib.hid (KB.out ch)
                rw [hbf] at KB2
              all_goals
                go_upto_region 16 with (first | (with_reducible refine KB2.out.mono ?_; rintro e30 w30 ⟨rfl, rfl⟩) | (with_reducible refine KN.out.mono ?_; rintro e31 w31 ⟨rfl, rfl⟩))
              all_goals
                have HSx := Lib.hid (spl_stop (nx := nx) HS.out HLN2.out HA.out HC.out (by rw [← HN.out]; exact hlt) (by omega))
                have hol2 : out.length ≤ nx := by omega
                by_cases hz : xn = 0
                · have HXE : Hid (X = []) := Lib.hid (List.eq_nil_of_length_eq_zero (by rw [← HXN.out]; exact hz))
                  have hz1 : ((xn : Int) == 0) = true := by rw [beq_iff_eq]; omega
                  clear hz
                  go_wp2
                  go_roundg 0
                  case rel => exact ⟨nx, out, rfl, HO9, HB9, hol2, by omega, Lib.hid (fun x hx => by have := HI.out x hx; omega), .inr ⟨nx, rfl, rfl, Lib.hid (by rw [HSx.out, if_pos HXE.out])⟩⟩
                  case measure => omega
                · have HXE : Hid (¬ X = []) := Lib.hid (fun e => by have := HXN.out; rw [e] at this; exact hz this)
                  have hz1 : ((xn : Int) == 0) = false := by rw [beq_eq_false_iff_ne]; omega
                  clear hz
                  go_wp2
                  go_roundg 0
                  case rel => exact ⟨nx, out, rfl, HO9, HB9, hol2, by omega, Lib.hid (fun x hx => by have := HI.out x hx; omega), .inr ⟨at_, rfl, rfl, Lib.hid (by rw [HSx.out, if_neg HXE.out])⟩⟩
                  case measure => omega
            · have hpre := (cutAt_some hcsm).1
              have hrn : RB w9 w9.heap.size (some ⟨b, off + at_, none⟩) nm := by
                have := RX9.out.take nm.length
                rwa [show X.take nm.length = nm by rw [hpre]; simp] at this
              have hnl : nm.length + 1 + rs.length = xn := by rw [HXN.out, hpre]; simp; omega
              have hcN := conv_rb hrn nm.length (c - at_) rfl
              have hcR := conv_rb hRR rs.length c3 rfl
              have KN := Lib.hid (name_walk ⟨nm.toArray⟩ w9 (by rw [sv_size]; omega))
              obtain ⟨nb, hnb⟩ : ∃ nb, nameB nm = nb := ⟨_, rfl⟩
              rw [show nameB (⟨nm.toArray⟩ : ByteArray).data.toList = nb by rw [← hnb]] at KN
              clear hpre hrn HCS hno hA
              cases nb with
              | false =>
                have HC : Hid (cutAt 58 X = none ∨ ∃ nm rs, cutAt 58 X = some (nm, rs) ∧ nameB nm = false) := Lib.hid (.inr ⟨nm, rs, hcsm, hnb⟩)
                clear hcsm hnb hRR
                have h3 : no < 1 ∨ (1 ≤ no ∧ xn < 1) ∨ (1 ≤ no ∧ 1 ≤ xn ∧ ∃ ch, w9.cell? ⟨b, off + at_, none⟩ = some (.int .u8 (ch.toNat : Int)) ∧ blC ch = false) := three_ways (HNO.out) HXN.out HA.out RX9.out
                rcases h3 with h3 | ⟨h3, h4⟩ | ⟨h3, h4, ch, cch, hbf⟩
                case' inl =>
                  have z1 : ¬ (1 : Int) ≤ (no : Int) := by omega
                  have z2 : ¬ (0 : Int) ≤ (no : Int) - 1 := by omega
                case' inr.inl =>
                  have z1 : (1 : Int) ≤ (no : Int) := by omega
                  have z2 : (0 : Int) ≤ (no : Int) - 1 := by omega
                  have z3 : ¬ (0 : Int) < (xn : Int) := by omega
                case' inr.inr =>
                  have z1 : (1 : Int) ≤ (no : Int) := by omega
                  have z2 : (0 : Int) ≤ (no : Int) - 1 := by omega
                  have z3 : (0 : Int) < (xn : Int) := by omega
                  have KB2 := Lib.hid (KB.out ch)
                  rw [hbf] at KB2
                all_goals
                  go_upto_region 16 with (first | (with_reducible refine KB2.out.mono ?_; rintro e30 w30 ⟨rfl, rfl⟩) | (with_reducible refine KN.out.mono ?_; rintro e31 w31 ⟨rfl, rfl⟩))
                all_goals
                  have HSx := Lib.hid (spl_stop (nx := nx) HS.out HLN2.out HA.out HC.out (by rw [← HN.out]; exact hlt) (by omega))
                  have hol2 : out.length ≤ nx := by omega
                  by_cases hz : xn = 0
                  · have HXE : Hid (X = []) := Lib.hid (List.eq_nil_of_length_eq_zero (by rw [← HXN.out]; exact hz))
                    have hz1 : ((xn : Int) == 0) = true := by rw [beq_iff_eq]; omega
                    clear hz
                    go_wp2
                    go_roundg 0
                    case rel => exact ⟨nx, out, rfl, HO9, HB9, hol2, by omega, Lib.hid (fun x hx => by have := HI.out x hx; omega), .inr ⟨nx, rfl, rfl, Lib.hid (by rw [HSx.out, if_pos HXE.out])⟩⟩
                    case measure => omega
                  · have HXE : Hid (¬ X = []) := Lib.hid (fun e => by have := HXN.out; rw [e] at this; exact hz this)
                    have hz1 : ((xn : Int) == 0) = false := by rw [beq_eq_false_iff_ne]; omega
                    clear hz
                    go_wp2
                    go_roundg 0
                    case rel => exact ⟨nx, out, rfl, HO9, HB9, hol2, by omega, Lib.hid (fun x hx => by have := HI.out x hx; omega), .inr ⟨at_, rfl, rfl, Lib.hid (by rw [HSx.out, if_neg HXE.out])⟩⟩
                    case measure => omega
              | true =>
                have HSx := Lib.hid (spl_new (nx := nx) HS.out HLN2.out HA.out hcsm hnb (by rw [← HN.out]; exact hlt) hqp (by omega))
                have HNL : Hid (at_ + nm.length + 1 ≤ nx) := Lib.hid (by omega)
                clear hcsm hnb hRR
                have h3 : no < 1 ∨ (1 ≤ no ∧ xn < 1) ∨ (1 ≤ no ∧ 1 ≤ xn ∧ ∃ ch, w9.cell? ⟨b, off + at_, none⟩ = some (.int .u8 (ch.toNat : Int)) ∧ blC ch = false) := three_ways (HNO.out) HXN.out HA.out RX9.out
                rcases h3 with h3 | ⟨h3, h4⟩ | ⟨h3, h4, ch, cch, hbf⟩
                case' inl =>
                  have z1 : ¬ (1 : Int) ≤ (no : Int) := by omega
                  have z2 : ¬ (0 : Int) ≤ (no : Int) - 1 := by omega
                case' inr.inl =>
                  have z1 : (1 : Int) ≤ (no : Int) := by omega
                  have z2 : (0 : Int) ≤ (no : Int) - 1 := by omega
                  have z3 : ¬ (0 : Int) < (xn : Int) := by omega
                case' inr.inr =>
                  have z1 : (1 : Int) ≤ (no : Int) := by omega
                  have z2 : (0 : Int) ≤ (no : Int) - 1 := by omega
                  have z3 : (0 : Int) < (xn : Int) := by omega
                  have KB2 := Lib.hid (KB.out ch)
                  rw [hbf] at KB2
                all_goals
                  go_upto_region 15 with (first | (with_reducible refine KB2.out.mono ?_; rintro e30 w30 ⟨rfl, rfl⟩) | (with_reducible refine KN.out.mono ?_; rintro e31 w31 ⟨rfl, rfl⟩))
                all_goals
                  have HOa := Lib.hid (HO9.out.alloc (.cells #[.string ⟨nm.toArray⟩, .string ⟨rs.toArray⟩, .int .i64 (at_ : Int), .int .i64 (nx : Int)] 29))
                  have hba := (Below.refl w9.heap.size w9).alloc (Nat.le_refl _) (.cells #[.string ⟨nm.toArray⟩, .string ⟨rs.toArray⟩, .int .i64 (at_ : Int), .int .i64 (nx : Int)] 29)
                  have HBa := Lib.hid (HB9.out.trans (hba.mono HB9.out.size))
                  have HCa : Hid (∀ j, j < 4 → (w9.alloc (.cells #[.string ⟨nm.toArray⟩, .string ⟨rs.toArray⟩, .int .i64 (at_ : Int), .int .i64 (nx : Int)] 29)).cell? ⟨w9.heap.size, j, none⟩ = (fdc ⟨nm, rs, at_, nx⟩)[j]?) := Lib.hid fun j hj => by
                    rw [(Blk.new w9 _ _).cell j, ← Array.getElem?_toList]; rfl
                  have hol1 : out.length ≤ 1000000000000 := by have := HNO.out; omega
                  clear hba KB KN
                  go_wp2_with (at_builtin; go_loud (refine wpList_appF _ (.tmp 104) (.tmp 112) rfl rfl w.heap.size rfl HOa.out w9.heap.size 1 rfl HCa.out hol1 HBa.out.size ?_); intro v2 w2 hO2 hg2; have HO2 := Lib.hid hO2; have HB2 := Lib.hid (HBa.out.trans (below_of_grownF HOa.out hg2 HBa.out.size)); clear hO2 hg2)
                  go_roundg (n - nx + 1)
                  case rel => exact ⟨nx, out ++ [⟨nm, rs, at_, nx⟩], rfl, HO2, HB2, by simp; omega, by omega, Lib.hid (by intro x hx; simp at hx; subst hx; exact ⟨HNL.out, by simp; omega⟩), .inl ⟨rfl, rfl, HSx⟩⟩
                  case measure => omega
      · have z0 : ¬ (at_ : Int) < (n : Int) := by omega
        obtain ⟨B, hB⟩ : ∃ B, B = at_ := ⟨_, rfl⟩
        subst hB
        have HSP : Hid (splP l = (out, B)) := Lib.hid (by obtain ⟨f, _, h⟩ := HS.out; rw [h, splH_end (by rw [← HN.out]; omega)])
        obtain ⟨A5, c5, hu5, hc5, hm5⟩ := HO.out.sl
        obtain ⟨no, hno⟩ : ∃ no, no = out.length := ⟨_, rfl⟩
        rw [← hno] at hu5 hc5
        subst hu5
        have HNO := Lib.hid hno
        have hoN : no ≤ 7000000 := by omega
        unfold maxLen at hm5
        clear hno HI
        go_upto_region 21 with fail
        clear HS
        by_cases h0 : no < 1
        · have z1 : ¬ (0 : Int) < (no : Int) := by omega
          have z2 : ¬ (1000 : Int) < (no : Int) := by omega
          have HE : Hid (split11 l = (out, B, 0)) := Lib.hid (by
            have : out = [] := List.eq_nil_of_length_eq_zero (by rw [← HNO.out]; omega)
            rw [split11_of HSP.out, this]; rfl)
          have KL := Lib.hid (clipF_walk wr A5 no c5 hc5 hm5)
          go_wp2_with (refine KL.out.mono ?_; rintro e6 w6 ⟨rfl, rfl⟩)
          go_ret3
          exact SplitPost.mk HE.out HB.out A5 no (by rw [HNO.out]; rfl) HO.out.rf.1 (by rw [HNO.out]; exact Nat.le_refl _) (by unfold maxLen; omega)
        · have z1 : (0 : Int) < (no : Int) := by omega
          obtain ⟨L0, g, hL⟩ := getLast_some (L := out) (fun e => by have := HNO.out; rw [e] at this; simp at this; omega)
          obtain ⟨k0, hk0⟩ : ∃ k0, k0 = L0.length := ⟨_, rfl⟩
          have hno1 : no = k0 + 1 := by rw [HNO.out, hL, hk0]; simp
          obtain ⟨bo, co, hu5, hbo, hbl5, hco, hcm5⟩ := HO.out.form (by rw [← HNO.out]; omega)
          injection hu5 with hu1 hu2 hu3
          subst hu1 hu3
          have k3c : wr.cell? ⟨bo, k0 * 4 + 3, none⟩ = some (.int .i64 (g.tt : Int)) := HO.out.cell HNO.out (g := g) (i := k0) (j := 3) (by rw [hL, hk0]; simp) (by omega)
          have hw1 : IntKind.i64.wrap ((no : Int) - 1) = (k0 : Int) := by rw [IntWalk.i64_in _ (by omega)]; omega
          have hk1 : (0 : Int) ≤ (k0 : Int) := by omega
          have hk2 : (k0 : Int) < (no : Int) := by omega
          have HL := Lib.hid hL
          have HSP2 : Hid (split11 l = if 65536 < g.tt then ([], 0, 111) else if 1000 < out.length then ([], 0, 112) else (out, B, 0)) := Lib.hid (by rw [split11_of HSP.out, hL]; simp)
          clear hL hk0 hno1 hu2
          by_cases h1 : 65536 < g.tt
          · have z2 : (65536 : Int) < (g.tt : Int) := by omega
            have HE : Hid (split11 l = ([], 0, 111)) := Lib.hid (by rw [HSP2.out, if_pos h1])
            go_wp2
            go_ret3
            exact SplitPost.mk HE.out HB.out none 0 rfl (.inl rfl) (Nat.le_refl _) (by simp [maxLen])
          · have z2 : ¬ (65536 : Int) < (g.tt : Int) := by omega
            by_cases h2 : 1000 < no
            · have z3 : (1000 : Int) < (no : Int) := by omega
              have HE : Hid (split11 l = ([], 0, 112)) := Lib.hid (by rw [HSP2.out, if_neg h1, if_pos (by rw [← HNO.out]; exact h2)])
              go_wp2
              go_ret3
              exact SplitPost.mk HE.out HB.out none 0 rfl (.inl rfl) (Nat.le_refl _) (by simp [maxLen])
            · have z3 : ¬ (1000 : Int) < (no : Int) := by omega
              have HE : Hid (split11 l = (out, B, 0)) := Lib.hid (by rw [HSP2.out, if_neg h1, if_neg (by rw [← HNO.out]; exact h2)])
              have KL := Lib.hid (clipF_walk wr (some ⟨bo, 0, none⟩) no c5 hc5 hm5)
              go_wp2_with (refine KL.out.mono ?_; rintro e6 w6 ⟨rfl, rfl⟩)
              go_ret3
              exact SplitPost.mk HE.out HB.out (some ⟨bo, 0, none⟩) no (by rw [HNO.out]; rfl) HO.out.rf.1 (by rw [HNO.out]; exact Nat.le_refl _) (by unfold maxLen; omega)
    · obtain ⟨B, hB⟩ : ∃ B, B = bd := ⟨_, rfl⟩
      subst hB
      have HSP := HS
      have z9 : ¬ (B : Int) < 0 := by omega
      by_cases hlt : at_ < n
      case' pos => have z0 : (at_ : Int) < (n : Int) := by omega
      case' neg => have z0 : ¬ (at_ : Int) < (n : Int) := by omega
      all_goals
        obtain ⟨A5, c5, hu5, hc5, hm5⟩ := HO.out.sl
        obtain ⟨no, hno⟩ : ∃ no, no = out.length := ⟨_, rfl⟩
        rw [← hno] at hu5 hc5
        subst hu5
        have HNO := Lib.hid hno
        have hoN : no ≤ 7000000 := by omega
        unfold maxLen at hm5
        clear hno HI
        go_upto_region 21 with fail
        clear HS
        by_cases h0 : no < 1
        · have z1 : ¬ (0 : Int) < (no : Int) := by omega
          have z2 : ¬ (1000 : Int) < (no : Int) := by omega
          have HE : Hid (split11 l = (out, B, 0)) := Lib.hid (by
            have : out = [] := List.eq_nil_of_length_eq_zero (by rw [← HNO.out]; omega)
            rw [split11_of HSP.out, this]; rfl)
          have KL := Lib.hid (clipF_walk wr A5 no c5 hc5 hm5)
          go_wp2_with (refine KL.out.mono ?_; rintro e6 w6 ⟨rfl, rfl⟩)
          go_ret3
          exact SplitPost.mk HE.out HB.out A5 no (by rw [HNO.out]; rfl) HO.out.rf.1 (by rw [HNO.out]; exact Nat.le_refl _) (by unfold maxLen; omega)
        · have z1 : (0 : Int) < (no : Int) := by omega
          obtain ⟨L0, g, hL⟩ := getLast_some (L := out) (fun e => by have := HNO.out; rw [e] at this; simp at this; omega)
          obtain ⟨k0, hk0⟩ : ∃ k0, k0 = L0.length := ⟨_, rfl⟩
          have hno1 : no = k0 + 1 := by rw [HNO.out, hL, hk0]; simp
          obtain ⟨bo, co, hu5, hbo, hbl5, hco, hcm5⟩ := HO.out.form (by rw [← HNO.out]; omega)
          injection hu5 with hu1 hu2 hu3
          subst hu1 hu3
          have k3c : wr.cell? ⟨bo, k0 * 4 + 3, none⟩ = some (.int .i64 (g.tt : Int)) := HO.out.cell HNO.out (g := g) (i := k0) (j := 3) (by rw [hL, hk0]; simp) (by omega)
          have hw1 : IntKind.i64.wrap ((no : Int) - 1) = (k0 : Int) := by rw [IntWalk.i64_in _ (by omega)]; omega
          have hk1 : (0 : Int) ≤ (k0 : Int) := by omega
          have hk2 : (k0 : Int) < (no : Int) := by omega
          have HL := Lib.hid hL
          have HSP2 : Hid (split11 l = if 65536 < g.tt then ([], 0, 111) else if 1000 < out.length then ([], 0, 112) else (out, B, 0)) := Lib.hid (by rw [split11_of HSP.out, hL]; simp)
          clear hL hk0 hno1 hu2
          by_cases h1 : 65536 < g.tt
          · have z2 : (65536 : Int) < (g.tt : Int) := by omega
            have HE : Hid (split11 l = ([], 0, 111)) := Lib.hid (by rw [HSP2.out, if_pos h1])
            go_wp2
            go_ret3
            exact SplitPost.mk HE.out HB.out none 0 rfl (.inl rfl) (Nat.le_refl _) (by simp [maxLen])
          · have z2 : ¬ (65536 : Int) < (g.tt : Int) := by omega
            by_cases h2 : 1000 < no
            · have z3 : (1000 : Int) < (no : Int) := by omega
              have HE : Hid (split11 l = ([], 0, 112)) := Lib.hid (by rw [HSP2.out, if_neg h1, if_pos (by rw [← HNO.out]; exact h2)])
              go_wp2
              go_ret3
              exact SplitPost.mk HE.out HB.out none 0 rfl (.inl rfl) (Nat.le_refl _) (by simp [maxLen])
            · have z3 : ¬ (1000 : Int) < (no : Int) := by omega
              have HE : Hid (split11 l = (out, B, 0)) := Lib.hid (by rw [HSP2.out, if_neg h1, if_neg (by rw [← HNO.out]; exact h2)])
              have KL := Lib.hid (clipF_walk wr (some ⟨bo, 0, none⟩) no c5 hc5 hm5)
              go_wp2_with (refine KL.out.mono ?_; rintro e6 w6 ⟨rfl, rfl⟩)
              go_ret3
              exact SplitPost.mk HE.out HB.out (some ⟨bo, 0, none⟩) no (by rw [HNO.out]; rfl) HO.out.rf.1 (by rw [HNO.out]; exact Nat.le_refl _) (by unfold maxLen; omega)
end Go.Proofs.YtgbbadbffcjamaaDoor
