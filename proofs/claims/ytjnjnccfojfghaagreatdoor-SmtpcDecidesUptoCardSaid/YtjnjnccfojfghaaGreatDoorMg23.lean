/-
  Several texts in one: RCont, RStuff. Conditions: each part names its own.
-/
import Derived.Test.YtjnjnccfojfghaaGreatDoorMg6
import Derived.Test.YtjnjnccfojfghaaGreatDoorMg4
set_option linter.unusedSimpArgs false
/-! The walk of waybillref12's Content. Condition: the size. -/
namespace Go.Proofs.YtjnjnccfojfghaaGreatDoor
open Go.RowKit
set_option linter.unusedVariables false
theorem bareEnd_form (l : List UInt8) : (l = [] ∧ bareEnd l = false) ∨ (0 < l.length ∧ ∃ x : UInt8, l[l.length - 1]? = some x ∧ ((x = 10 ∧ bareEnd l = false) ∨ (x ≠ 10 ∧ bareEnd l = true))) := by
  cases hl : l with
  | nil => exact .inl ⟨rfl, rfl⟩
  | cons a t =>
    rw [← hl]
    have h0 : 0 < l.length := by rw [hl]; simp
    refine .inr ⟨h0, l[l.length - 1], List.getElem?_eq_getElem (by omega), ?_⟩
    have hne : l ≠ [] := by rw [hl]; simp
    have hlast : l.getLast? = some l[l.length - 1] := by rw [List.getLast?_eq_getElem?, List.getElem?_eq_getElem (by omega)]
    unfold bareEnd
    rw [hlast]
    by_cases hx : l[l.length - 1] = 10
    · exact .inl ⟨hx, by simp [hx]⟩
    · exact .inr ⟨hx, by simp [hx, hne]⟩
/-- the byte ahead -/
def PrevB (l : List UInt8) (j : Nat) (z pv : UInt8) : Prop := (j = 0 ∧ pv = z) ∨ (0 < j ∧ l[j - 1]? = some pv)
set_option maxRecDepth 100000 in
set_option maxHeartbeats 4000000 in
theorem rcont_walk (w : World) (A : Option Addr) (l : List UInt8) (c : Nat) (hr : RB w w.heap.size A l) (hl : l.length ≤ 4611686018427387904) :
    Calls Tryz.prog 37 #[.slice A l.length c] w fun e w' => w = w' ∧ e = .returned (.int .i64 (contP l)) := by
  obtain ⟨F, hF⟩ : ∃ F, contP l = F := ⟨_, rfl⟩
  have hF2 : refC l = F := by rw [← hF]; exact cont_eq l
  unfold refC at hF2
  have HF := Lib.hid hF2
  rw [hF]
  have HR := Lib.hid hr
  have hat : Hid (∀ (j : Nat) (x : UInt8), l[j]? = some x → ∃ b off, A = some ⟨b, off, none⟩ ∧ w.cell? ⟨b, off + j, none⟩ = some (.int .u8 x.toNat)) := Lib.hid (by
    intro j x hx
    obtain ⟨hj, rfl⟩ := List.getElem?_eq_some_iff.1 hx
    obtain ⟨b, off, e, _, hcl⟩ := hr.at_ hj
    exact ⟨b, off, e, by rw [hcl j hj, bt_getElem hj]⟩)
  clear hr hF hF2
  have hbe := bareEnd_form l
  obtain ⟨bare0, hb0⟩ : ∃ b0, bareEnd l = b0 := ⟨_, rfl⟩
  have HF0 : Hid (rC 0 l 0 false bare0 = F) := Lib.hid (by rw [← hb0]; exact HF.out)
  rw [hb0] at hbe
  clear HF hb0
  go_enter Tryz.func37, Tryz.ntmps37
  rcases hbe with ⟨rfl, rfl⟩ | ⟨h0, x, hx, hbe⟩
  · have h : F = 0 := HF0.out.symm
    subst h
    clear HF0 hat
    go_wp2_with fail
    go_loopg [3, 4, 5, 6] 0 (fun k n lg ba i wr => w = wr ∧ lg = .bool false ∧ ba = .bool false ∧ i = .int .i64 0)
    case atStart => exact ⟨rfl, rfl, rfl, rfl⟩
    case round =>
      obtain ⟨rfl, rfl, rfl, rfl⟩ := hrel
      go_wp2
      go_ret
      exact ⟨rfl, rfl⟩
  · obtain ⟨b, off, rfl, kx⟩ := hat.out _ _ hx
    have hq : ((x.toNat : Int) != 10) = bare0 := by
      rw [bne, show (10 : Int) = ((10 : UInt8).toNat : Int) from rfl, byte_beq]
      rcases hbe with ⟨h1, h2⟩ | ⟨h1, h2⟩
      · rw [h2]; simpa using h1
      · rw [h2]; simpa using h1
    have e0 : IntKind.i64.wrap ((l.length : Int) - 1) = ((l.length - 1 : Nat) : Int) := by rw [IntWalk.i64_in _ (by omega)]; omega
    have q1 : ((l.length - 1 : Nat) : Int) < (l.length : Int) := by omega
    have q0 : (0 : Int) < (l.length : Int) := by omega
    clear hbe hx
    generalize (x.toNat : Int) = xv at *
    go_wp2_with fail
    go_loopg [3, 4, 5, 6] l.length (fun k n lg ba i wr => w = wr ∧ ∃ (j nn : Nat) (long bare : Bool) (pv : UInt8), j + k = l.length ∧ i = .int .i64 j ∧ n = .int .i64 nn ∧ nn ≤ j ∧ lg = .bool long ∧ ba = .bool bare ∧ Hid (PrevB l j 0 pv) ∧ Hid (rC pv (l.drop j) nn long bare = F))
    case atStart => exact ⟨rfl, 0, 0, false, bare0, 0, by omega, rfl, rfl, Nat.le_refl _, rfl, rfl, Lib.hid (.inl ⟨rfl, rfl⟩), by rw [List.drop_zero]; exact HF0⟩
    case round =>
      obtain ⟨rfl, j, nn, long, bare, pv, hj, rfl, rfl, hnn, rfl, rfl, HP, H⟩ := hrel
      clear kx hq e0 q1 q0 HF0
      have e1 : IntKind.i64.wrap ((j : Int) + 1) = (j : Int) + 1 := IntWalk.i64_in _ (by omega)
      have e2 : IntKind.i64.wrap ((nn : Int) + 1) = (nn : Int) + 1 := IntWalk.i64_in _ (by omega)
      have e3 : IntKind.i64.wrap ((nn : Int) - 1) = (nn : Int) - 1 := IntWalk.i64_in _ (by omega)
      by_cases hlt : j < l.length
      · have hj1 : (j : Int) < (l.length : Int) := by omega
        obtain ⟨cu, hcu⟩ : ∃ cu, l[j]? = some cu := ⟨_, List.getElem?_eq_getElem hlt⟩
        have hdr : l.drop j = cu :: l.drop (j + 1) := by
          rw [List.drop_eq_getElem_cons hlt]
          congr 1
          rw [List.getElem?_eq_getElem hlt] at hcu
          injection hcu
        have hst := H.out
        rw [hdr] at hst
        have hhd : (l.drop (j + 1)).head? = l[j + 1]? := List.head?_drop
        obtain ⟨b1, o1, eA, kc⟩ := hat.out _ _ hcu
        injection eA with eA
        injection eA with eb eo
        subst eb eo
        have HP2 : Hid (PrevB l (j + 1) 0 cu) := Lib.hid (.inr ⟨by omega, by simpa using hcu⟩)
        clear H hdr hcu
        by_cases hc0 : cu = 0
        · subst hc0
          have hF : F = 122 := by rw [← hst, rC, if_pos rfl]
          have kc' : w.cell? ⟨b, off + j, none⟩ = some (.int .u8 0) := kc
          clear hst kc hhd HP HP2 hat
          subst hF
          go_wp2
          go_ret
          exact ⟨rfl, rfl⟩
        · by_cases hc13 : cu = 13
          · subst hc13
            have kc' : w.cell? ⟨b, off + j, none⟩ = some (.int .u8 13) := kc
            have H2 := Lib.hid (show rC 13 (l.drop (j + 1)) (nn + 1) long (bare || decide ((l.drop (j + 1)).head? ≠ some 10)) = F by rw [← hst, rC, if_neg (by decide), if_pos rfl])
            rw [hhd] at H2
            clear hst kc hc0 hhd HP e3
            cases bare with
            | true =>
              clear hat
              go_wp2
              go_roundg (gk - 1)
              case rel => exact ⟨rfl, j + 1, nn + 1, long, true, 13, by omega, by go_num, by go_num, by omega, rfl, rfl, HP2, Lib.hid (by have := H2.out; rwa [Bool.true_or] at this)⟩
              case measure => omega
            | false =>
              by_cases hend : j + 1 = l.length
              · have hie : ((j : Int) + 1 == (l.length : Int)) = true := beq_iff_eq.2 (by omega)
                have hnil : l[j + 1]? = none := List.getElem?_eq_none (by omega)
                have H3 : Hid (rC 13 (l.drop (j + 1)) (nn + 1) long true = F) := Lib.hid (by have := H2.out; rw [hnil] at this; simpa using this)
                clear hnil hat H2 hend
                go_wp2
                go_roundg (gk - 1)
                case rel => exact ⟨rfl, j + 1, nn + 1, long, true, 13, by omega, by go_num, by go_num, by omega, rfl, rfl, HP2, H3⟩
                case measure => omega
              · have hie : ((j : Int) + 1 == (l.length : Int)) = false := beq_eq_false_iff_ne.2 (by omega)
                have hj2 : (j : Int) + 1 < (l.length : Int) := by omega
                obtain ⟨y, hy⟩ : ∃ y, l[j + 1]? = some y := ⟨_, List.getElem?_eq_getElem (by omega)⟩
                obtain ⟨b1, o1, eA, ky⟩ := hat.out _ _ hy
                injection eA with eA
                injection eA with eb eo
                subst eb eo
                rw [hy] at H2
                clear hy hat
                by_cases hy10 : y = 10
                · subst hy10
                  have ky' : w.cell? ⟨b, off + (j + 1), none⟩ = some (.int .u8 10) := ky
                  have H3 : Hid (rC 13 (l.drop (j + 1)) (nn + 1) long false = F) := Lib.hid (by have := H2.out; simpa using this)
                  clear H2 ky
                  go_wp2
                  go_roundg (gk - 1)
                  case rel => exact ⟨rfl, j + 1, nn + 1, long, false, 13, by omega, by go_num, by go_num, by omega, rfl, rfl, HP2, H3⟩
                  case measure => omega
                · have H3 : Hid (rC 13 (l.drop (j + 1)) (nn + 1) long true = F) := Lib.hid (by have := H2.out; simpa [hy10] using this)
                  have hyq : ((y.toNat : Int) != 10) = true := by rw [bne, show (10 : Int) = ((10 : UInt8).toNat : Int) from rfl, byte_beq, decide_eq_false hy10]; rfl
                  clear H2 hy10
                  generalize (y.toNat : Int) = yv at *
                  go_wp2
                  go_roundg (gk - 1)
                  case rel => exact ⟨rfl, j + 1, nn + 1, long, true, 13, by omega, by go_num, by go_num, by omega, rfl, rfl, HP2, H3⟩
                  case measure => omega
          · by_cases hc10 : cu = 10
            · subst hc10
              have kc' : w.cell? ⟨b, off + j, none⟩ = some (.int .u8 10) := kc
              have H2 := Lib.hid (show rC 10 (l.drop (j + 1)) 0 (long || decide (998 < (nn : Int) - 1)) (bare || decide (pv ≠ 13)) = F by rw [← hst, rC, if_neg (by decide), if_neg (by decide), if_pos rfl])
              clear hst kc hc0 hc13 hhd
              have hlong : ∃ l2, (long || decide (998 < (nn : Int) - 1)) = l2 ∧ ((long = true ∧ l2 = true) ∨ (long = false ∧ 998 < (nn : Int) - 1 ∧ l2 = true) ∨ (long = false ∧ ¬ 998 < (nn : Int) - 1 ∧ l2 = false)) := by
                cases long
                · by_cases h : 998 < (nn : Int) - 1
                  · exact ⟨true, by simp [h], .inr (.inl ⟨rfl, h, rfl⟩)⟩
                  · exact ⟨false, by simp [h], .inr (.inr ⟨rfl, h, rfl⟩)⟩
                · exact ⟨true, rfl, .inl ⟨rfl, rfl⟩⟩
              obtain ⟨l2, hl2, hlc⟩ := hlong
              rw [hl2] at H2
              have hbc : ∃ b2, (bare || decide (pv ≠ 13)) = b2 ∧ ((bare = true ∧ b2 = true) ∨ (bare = false ∧ j = 0 ∧ b2 = true) ∨ (bare = false ∧ 0 < j ∧ ∃ pvv : Int, (pvv != 13) = b2 ∧ w.cell? ⟨b, off + (j - 1), none⟩ = some (.int .u8 pvv))) := by
                cases bare
                · rcases HP.out with ⟨hj0, hp⟩ | ⟨hj0, hp⟩
                  · exact ⟨true, by rw [hp]; rfl, .inr (.inl ⟨rfl, hj0, rfl⟩)⟩
                  · obtain ⟨b1, o1, eA, ky⟩ := hat.out _ _ hp
                    injection eA with eA
                    injection eA with eb eo
                    subst eb eo
                    exact ⟨decide (pv ≠ 13), rfl, .inr (.inr ⟨rfl, hj0, (pv.toNat : Int), by rw [bne, show (13 : Int) = ((13 : UInt8).toNat : Int) from rfl, byte_beq]; simp, ky⟩)⟩
                · exact ⟨true, rfl, .inl ⟨rfl, rfl⟩⟩
              obtain ⟨b2, hb2, hbc⟩ := hbc
              rw [hb2] at H2
              have REL : Hid (∃ (j' nn' : Nat) (long bare : Bool) (pv : UInt8), j' + (gk - 1) = l.length ∧ Value.int .i64 ((j : Int) + 1) = .int .i64 (j' : Int) ∧ Value.int .i64 0 = .int .i64 (nn' : Int) ∧ nn' ≤ j' ∧ Value.bool l2 = .bool long ∧ Value.bool b2 = .bool bare ∧ Hid (PrevB l j' 0 pv) ∧ Hid (rC pv (l.drop j') nn' long bare = F)) := Lib.hid ⟨j + 1, 0, l2, b2, 10, by omega, by go_num, rfl, by omega, rfl, rfl, HP2, H2⟩
              clear H2 hl2 hb2 HP hat HP2
              rcases hlc with ⟨rfl, rfl⟩ | ⟨rfl, hl3, rfl⟩ | ⟨rfl, hl3, rfl⟩
              all_goals
                rcases hbc with ⟨rfl, rfl⟩ | ⟨rfl, hj0, rfl⟩ | ⟨rfl, hj0, pvv, hpq, kp⟩
              all_goals first
              | (have hj0 : 0 < j := hj0
                 have hjq : ((j : Int) == 0) = false := beq_eq_false_iff_ne.2 (by omega)
                 have e5 : IntKind.i64.wrap ((j : Int) - 1) = ((j - 1 : Nat) : Int) := by rw [IntWalk.i64_in _ (by omega)]; omega
                 have q5 : ((j - 1 : Nat) : Int) < (l.length : Int) := by omega
                 clear hj0
                 go_wp2
                 go_roundg (gk - 1)
                 case rel => exact ⟨rfl, REL.out⟩
                 case measure => omega)
              | (have hjq : ((j : Int) == 0) = true := beq_iff_eq.2 (by omega)
                 clear hj0
                 go_wp2
                 go_roundg (gk - 1)
                 case rel => exact ⟨rfl, REL.out⟩
                 case measure => omega)
              | (go_wp2
                 go_roundg (gk - 1)
                 case rel => exact ⟨rfl, REL.out⟩
                 case measure => omega)
            · have H2 := Lib.hid (show rC cu (l.drop (j + 1)) (nn + 1) long bare = F by rw [← hst, rC, if_neg hc0, if_neg hc13, if_neg hc10])
              have q0 : ((cu.toNat : Int) == 0) = false := by rw [show (0 : Int) = ((0 : UInt8).toNat : Int) from rfl, byte_beq]; exact decide_eq_false hc0
              have q13 : ((cu.toNat : Int) == 13) = false := by rw [show (13 : Int) = ((13 : UInt8).toNat : Int) from rfl, byte_beq]; exact decide_eq_false hc13
              have q10 : ((cu.toNat : Int) == 10) = false := by rw [show (10 : Int) = ((10 : UInt8).toNat : Int) from rfl, byte_beq]; exact decide_eq_false hc10
              clear hst hc0 hc13 hc10 hat HP hhd e3
              generalize (cu.toNat : Int) = cv at *
              go_wp2
              go_roundg (gk - 1)
              case rel => exact ⟨rfl, j + 1, nn + 1, long, bare, cu, by omega, by go_num, by go_num, by omega, rfl, rfl, HP2, H2⟩
              case measure => omega
      · have hj1 : ¬ (j : Int) < (l.length : Int) := by omega
        have hje : l.drop j = [] := List.drop_eq_nil_of_le (by omega)
        have hst := H.out
        rw [hje, rC] at hst
        have HX := Lib.hid hst
        clear H hje hst hat HP
        cases bare
        · cases long
          · go_wp2
            go_ret
            exact ⟨rfl, by rw [← HX.out]; rfl⟩
          · go_wp2
            go_ret
            exact ⟨rfl, by rw [← HX.out]; rfl⟩
        · go_wp2
          go_ret
          exact ⟨rfl, by rw [← HX.out]; rfl⟩
end Go.Proofs.YtjnjnccfojfghaaGreatDoor

/-! The walk of waybillref12's Stuff. Condition: the size. -/
namespace Go.Proofs.YtjnjnccfojfghaaGreatDoor
open Go.RowKit
set_option linter.unusedVariables false
/-- what Stuff answers -/
def StuffPost (w : World) (d : List UInt8) (e : Ending) (w' : World) : Prop :=
  Below w.heap.size w w' ∧ ∃ v, e = .returned (.tuple #[v, .int .i64 (contP d)]) ∧ OwnV w' w.heap.size v (if contP d = 0 then stuffP d else [])
theorem OwnQ.belowG {w w' : World} {base : Nat} {own : Option Nat} {v : Value} {l : List UInt8} (h : OwnQ w base own v l) (hg : w.grownBy w' own) (hb : base ≤ w.heap.size) : Below base w w' :=
  ⟨hg.os, hg.tape, hg.output, hg.size, fun k hk => hg.block k (by omega) (fun e => by have := (h.base_ e.symm).1; omega)⟩
theorem contP_ge (d : List UInt8) : 0 ≤ contP d ∧ contP d ≤ 122 := by
  rw [← cont_eq]
  unfold refC
  have : ∀ (d : List UInt8) (p : UInt8) (n : Int) (lo ba : Bool), 0 ≤ rC p d n lo ba ∧ rC p d n lo ba ≤ 122 := by
    intro d
    induction d with
    | nil => intro p n lo ba; rw [rC]; split; exact ⟨by decide, by decide⟩; split; exact ⟨by decide, by decide⟩; exact ⟨by decide, by decide⟩
    | cons c r ih =>
      intro p n lo ba
      rw [rC]
      split; exact ⟨by decide, by decide⟩
      split; exact ih _ _ _ _
      split; exact ih _ _ _ _
      exact ih _ _ _ _
  exact this _ _ _ _ _
set_option maxRecDepth 100000 in
set_option maxHeartbeats 4000000 in
theorem rstuff_walk (w : World) (A : Option Addr) (l : List UInt8) (c : Nat) (hr : RB w w.heap.size A l) (hl : l.length ≤ 4294967296) :
    Calls Tryz.prog 15 #[.slice A l.length c] w (StuffPost w l) := by
  obtain ⟨E, hE⟩ : ∃ E, contP l = E := ⟨_, rfl⟩
  have K := Lib.hid (rcont_walk w A l c hr (by omega))
  rw [hE] at K
  have HR := Lib.hid hr
  have HE := Lib.hid hE
  by_cases h0 : E = 0
  · have HS : Hid (rS 10 l ++ [46, 13, 10] = stuffP l) := Lib.hid (by have := stuff_eq (d := l) (by rw [hE, h0]); exact this)
    have POST : Hid (∀ w' v, Below w.heap.size w w' → OwnV w' w.heap.size v (stuffP l) → ∀ e, e = .returned (.tuple #[v, .int .i64 0]) → StuffPost w l e w') := Lib.hid fun w' v hb hv e he => by
      unfold StuffPost
      rw [hE, if_pos h0, h0]
      exact ⟨hb, v, he, hv⟩
    subst h0
    generalize stuffP l = F at *
    clear hr hE HE
    go_enter Tryz.func15, Tryz.ntmps15
    go_wp2_with (refine K.out.mono ?_; rintro e5 w5 ⟨rfl, rfl⟩)
    go_loopg [5, 6] l.length (fun k v i wr => ∃ (j : Nat) (own : Option Nat) (pre : List UInt8) (pv : UInt8), j + k = l.length ∧ i = .int .i64 j ∧ Hid (OwnQ wr w.heap.size own v pre) ∧ Hid (Below w.heap.size w wr) ∧ w.heap.size ≤ wr.heap.size ∧ pre.length ≤ 2 * j ∧ Hid (PrevB l j 10 pv) ∧ Hid (pre ++ (rS pv (l.drop j) ++ [46, 13, 10]) = F))
    case atStart => exact ⟨0, none, [], 10, by omega, rfl, Lib.hid (OwnQ.nil _ _ _), Lib.hid (Below.refl _ _), Nat.le_refl _, by simp, Lib.hid (.inl ⟨rfl, rfl⟩), by rw [List.drop_zero, List.nil_append]; exact HS⟩
    case round =>
      obtain ⟨j, own, pre, pv, hj, rfl, HO, HB, hsz, hpl, HP, H⟩ := hrel
      clear K HS
      obtain ⟨A0, c0, rfl, -⟩ := HO.out.out
      by_cases hlt : j < l.length
      · have hj1 : (j : Int) < (l.length : Int) := by omega
        have e1 : IntKind.i64.wrap ((j : Int) + 1) = (j : Int) + 1 := IntWalk.i64_in _ (by omega)
        obtain ⟨cu, hcu⟩ : ∃ cu, l[j]? = some cu := ⟨_, List.getElem?_eq_getElem hlt⟩
        have hdr : l.drop j = cu :: l.drop (j + 1) := by
          rw [List.drop_eq_getElem_cons hlt]
          congr 1
          rw [List.getElem?_eq_getElem hlt] at hcu
          injection hcu
        obtain ⟨b, off, rfl, -, -⟩ := HR.out.at_ hlt
        have hat : Hid (∀ (w' : World), Below w.heap.size w w' → ∀ (j : Nat) (x : UInt8), l[j]? = some x → w'.cell? ⟨b, off + j, none⟩ = some (.int .u8 x.toNat)) := Lib.hid (by
          intro w' hb j x hx
          obtain ⟨hj, rfl⟩ := List.getElem?_eq_some_iff.1 hx
          obtain ⟨b1, off1, e, _, hcl⟩ := (HR.out.below hb).at_ hj
          injection e with e
          injection e with e1 e2
          subst e1 e2
          rw [hcl j hj, bt_getElem hj])
        have kc := hat.out wr HB.out j cu hcu
        have HP2 : Hid (PrevB l (j + 1) 10 cu) := Lib.hid (.inr ⟨by omega, by simpa using hcu⟩)
        have HCU := Lib.hid hcu
        have hst := H.out
        rw [hdr] at hst
        have HST := Lib.hid hst
        clear hdr hcu hst H
        by_cases hc46 : cu = 46
        · subst hc46
          have kc : wr.cell? ⟨b, off + j, none⟩ = some (.int .u8 46) := kc
          have hbc : (j = 0 ∧ pv = 10) ∨ (0 < j ∧ wr.cell? ⟨b, off + (j - 1), none⟩ = some (.int .u8 pv.toNat)) := by
            rcases HP.out with h | ⟨h1, h2⟩
            · exact .inl h
            · exact .inr ⟨h1, hat.out wr HB.out _ _ h2⟩
          clear HP
          rcases hbc with ⟨hj0, rfl⟩ | ⟨hj0, kp⟩
          · have hjq : ((j : Int) == 0) = true := beq_iff_eq.2 (by omega)
            have ST : Hid ((pre ++ [46]) ++ [46] ++ (rS 46 (l.drop (j + 1)) ++ [46, 13, 10]) = F) := Lib.hid (by rw [← HST.out, rS, if_pos ⟨rfl, rfl⟩]; simp)
            clear hj0 HST
            have HOa := Lib.hid (HO.out.alloc (.cells #[.int .u8 46] 5))
            have HBa := Lib.hid (HB.out.trans ((Below.refl wr.heap.size wr).alloc (Nat.le_refl _) (.cells #[.int .u8 46] 5) |>.mono hsz))
            go_upto_region 10 with (at_builtin; go_loud (refine wpList_appQ _ u8S (.tmp 35) (.tmp 36) rfl rfl w.heap.size rfl HOa.out _ _ rfl rfl (RB.one wr 5 46 46 rfl) (by simp; omega) HBa.out.size ?_); intro v2 own2 w2 hO2 hg2 ho2; obtain ⟨A2, c2, rfl, -⟩ := hO2.out; rw [List.length_append] at hO2; have HO2 : Hid (OwnQ w2 w.heap.size own2 (.slice A2 (pre.length + 1) c2) (pre ++ [46])) := Lib.hid hO2; have HB2 := Lib.hid (HBa.out.trans (HOa.out.belowG hg2 HBa.out.size)); clear hO2 hg2 ho2)
            have kc2 : w2.cell? ⟨b, off + j, none⟩ = some (.int .u8 46) := hat.out w2 HB2.out j 46 HCU.out
            have hsz2 := HB2.out.size
            have hpl2 : (pre ++ [46]).length ≤ 2 * j + 1 := by simp; omega
            clear HOa HBa kc HO HB
            have HOc := Lib.hid (HO2.out.alloc (.cells #[.int .u8 46] 5))
            have HBc := Lib.hid (HB2.out.trans ((Below.refl w2.heap.size w2).alloc (Nat.le_refl _) (.cells #[.int .u8 46] 5) |>.mono hsz2))
            go_wp2_with (at_builtin; go_loud (refine wpList_appQ _ u8S (.tmp 38) (.tmp 43) rfl rfl w.heap.size rfl HOc.out _ _ rfl rfl (RB.one w2 5 46 46 rfl) (by first | (simp; omega) | (simp at *; omega)) HBc.out.size ?_); intro v4 own4 w4 hO4 hg4 ho4; have HO4 := Lib.hid hO4; have HG4 := Lib.hid hg4; clear hO4 hg4 ho4)
            go_roundg (gk - 1)
            case rel => exact ⟨j + 1, _, _, 46, by omega, by go_num, HO4, Lib.hid (HBc.out.trans (HOc.out.belowG HG4.out HBc.out.size)), (HBc.out.trans (HOc.out.belowG HG4.out HBc.out.size)).size, by first | (simp; omega) | (simp at *; omega), HP2, ST⟩
            case measure => omega
          · have hjq : ((j : Int) == 0) = false := beq_eq_false_iff_ne.2 (by omega)
            have e5 : IntKind.i64.wrap ((j : Int) - 1) = ((j - 1 : Nat) : Int) := by rw [IntWalk.i64_in _ (by omega)]; omega
            have q5 : ((j - 1 : Nat) : Int) < (l.length : Int) := by omega
            clear hj0
            by_cases hpv : pv = 10
            · subst hpv
              have kp : wr.cell? ⟨b, off + (j - 1), none⟩ = some (.int .u8 10) := kp
              have ST : Hid ((pre ++ [46]) ++ [46] ++ (rS 46 (l.drop (j + 1)) ++ [46, 13, 10]) = F) := Lib.hid (by rw [← HST.out, rS, if_pos ⟨rfl, rfl⟩]; simp)
              clear HST
              have HOa := Lib.hid (HO.out.alloc (.cells #[.int .u8 46] 5))
              have HBa := Lib.hid (HB.out.trans ((Below.refl wr.heap.size wr).alloc (Nat.le_refl _) (.cells #[.int .u8 46] 5) |>.mono hsz))
              go_upto_region 10 with (at_builtin; go_loud (refine wpList_appQ _ u8S (.tmp 35) (.tmp 36) rfl rfl w.heap.size rfl HOa.out _ _ rfl rfl (RB.one wr 5 46 46 rfl) (by simp; omega) HBa.out.size ?_); intro v2 own2 w2 hO2 hg2 ho2; obtain ⟨A2, c2, rfl, -⟩ := hO2.out; rw [List.length_append] at hO2; have HO2 : Hid (OwnQ w2 w.heap.size own2 (.slice A2 (pre.length + 1) c2) (pre ++ [46])) := Lib.hid hO2; have HB2 := Lib.hid (HBa.out.trans (HOa.out.belowG hg2 HBa.out.size)); clear hO2 hg2 ho2)
              have kc2 : w2.cell? ⟨b, off + j, none⟩ = some (.int .u8 46) := hat.out w2 HB2.out j 46 HCU.out
              have hsz2 := HB2.out.size
              have hpl2 : (pre ++ [46]).length ≤ 2 * j + 1 := by simp; omega
              clear HOa HBa kc HO HB
              have HOc := Lib.hid (HO2.out.alloc (.cells #[.int .u8 46] 5))
              have HBc := Lib.hid (HB2.out.trans ((Below.refl w2.heap.size w2).alloc (Nat.le_refl _) (.cells #[.int .u8 46] 5) |>.mono hsz2))
              go_wp2_with (at_builtin; go_loud (refine wpList_appQ _ u8S (.tmp 38) (.tmp 43) rfl rfl w.heap.size rfl HOc.out _ _ rfl rfl (RB.one w2 5 46 46 rfl) (by first | (simp; omega) | (simp at *; omega)) HBc.out.size ?_); intro v4 own4 w4 hO4 hg4 ho4; have HO4 := Lib.hid hO4; have HG4 := Lib.hid hg4; clear hO4 hg4 ho4)
              go_roundg (gk - 1)
              case rel => exact ⟨j + 1, _, _, 46, by omega, by go_num, HO4, Lib.hid (HBc.out.trans (HOc.out.belowG HG4.out HBc.out.size)), (HBc.out.trans (HOc.out.belowG HG4.out HBc.out.size)).size, by first | (simp; omega) | (simp at *; omega), HP2, ST⟩
              case measure => omega
            · have hpq : ((pv.toNat : Int) == 10) = false := by rw [show (10 : Int) = ((10 : UInt8).toNat : Int) from rfl, byte_beq]; exact decide_eq_false hpv
              have ST : Hid (pre ++ [46] ++ (rS 46 (l.drop (j + 1)) ++ [46, 13, 10]) = F) := Lib.hid (by rw [← HST.out, rS, if_neg (fun h => hpv h.2)]; simp)
              clear HST hpv
              generalize (pv.toNat : Int) = pvv at *
              have HOc := Lib.hid (HO.out.alloc (.cells #[.int .u8 46] 5))
              have HBc := Lib.hid (HB.out.trans ((Below.refl wr.heap.size wr).alloc (Nat.le_refl _) (.cells #[.int .u8 46] 5) |>.mono hsz))
              go_wp2_with (at_builtin; go_loud (refine wpList_appQ _ u8S (.tmp 38) (.tmp 43) rfl rfl w.heap.size rfl HOc.out _ _ rfl rfl (RB.one wr 5 46 46 rfl) (by first | (simp; omega) | (simp at *; omega)) HBc.out.size ?_); intro v4 own4 w4 hO4 hg4 ho4; have HO4 := Lib.hid hO4; have HG4 := Lib.hid hg4; clear hO4 hg4 ho4)
              go_roundg (gk - 1)
              case rel => exact ⟨j + 1, _, _, 46, by omega, by go_num, HO4, Lib.hid (HBc.out.trans (HOc.out.belowG HG4.out HBc.out.size)), (HBc.out.trans (HOc.out.belowG HG4.out HBc.out.size)).size, by first | (simp; omega) | (simp at *; omega), HP2, ST⟩
              case measure => omega
        · have hcq : ((cu.toNat : Int) == 46) = false := by rw [show (46 : Int) = ((46 : UInt8).toNat : Int) from rfl, byte_beq]; exact decide_eq_false hc46
          have ST : Hid (pre ++ [cu] ++ (rS cu (l.drop (j + 1)) ++ [46, 13, 10]) = F) := Lib.hid (by rw [← HST.out, rS, if_neg (fun h => hc46 h.1)]; simp)
          clear HST hc46 HP
          obtain ⟨cv, hcv⟩ : ∃ cv : Int, (cu.toNat : Int) = cv := ⟨_, rfl⟩
          have HCV := Lib.hid hcv.symm
          rw [hcv] at hcq kc
          clear hcv
          have HOc := Lib.hid (HO.out.alloc (.cells #[.int .u8 cv] 5))
          have HBc := Lib.hid (HB.out.trans ((Below.refl wr.heap.size wr).alloc (Nat.le_refl _) (.cells #[.int .u8 cv] 5) |>.mono hsz))
          go_wp2_with (at_builtin; go_loud (refine wpList_appQ _ u8S (.tmp 38) (.tmp 43) rfl rfl w.heap.size rfl HOc.out _ _ rfl rfl (RB.one wr 5 cu cv HCV.out) (by first | (simp; omega) | (simp at *; omega)) HBc.out.size ?_); intro v4 own4 w4 hO4 hg4 ho4; have HO4 := Lib.hid hO4; have HG4 := Lib.hid hg4; clear hO4 hg4 ho4)
          go_roundg (gk - 1)
          case rel => exact ⟨j + 1, _, _, cu, by omega, by go_num, HO4, Lib.hid (HBc.out.trans (HOc.out.belowG HG4.out HBc.out.size)), (HBc.out.trans (HOc.out.belowG HG4.out HBc.out.size)).size, by first | (simp; omega) | (simp at *; omega), HP2, ST⟩
          case measure => omega
      · have hj1 : ¬ (j : Int) < (l.length : Int) := by omega
        have hje : l.drop j = [] := List.drop_eq_nil_of_le (by omega)
        have hst := H.out
        rw [hje, rS, List.nil_append] at hst
        have HST := Lib.hid hst
        clear H hje hst HP
        have HOa := Lib.hid (HO.out.alloc (.cells #[.int .u8 46, .int .u8 13, .int .u8 10] 5))
        have HBa := Lib.hid (HB.out.trans ((Below.refl wr.heap.size wr).alloc (Nat.le_refl _) (.cells #[.int .u8 46, .int .u8 13, .int .u8 10] 5) |>.mono hsz))
        have RK : Hid (RB (wr.alloc (.cells #[.int .u8 46, .int .u8 13, .int .u8 10] 5)) (wr.heap.size + 1) (some ⟨wr.heap.size, 0, none⟩) [46, 13, 10]) := Lib.hid ((Blk.new wr _ _).rb 0 rfl (by omega))
        go_wp2_with (at_builtin; go_loud (refine wpList_appQ _ u8S (.tmp 45) (.tmp 46) rfl rfl w.heap.size rfl HOa.out _ _ rfl rfl RK.out (by simp; omega) (by simp; omega) ?_); intro v2 own2 w2 hO2 hg2 ho2; have HO2 := Lib.hid hO2; have HG2 := Lib.hid hg2; clear hO2 hg2 ho2)
        go_ret2
        exact POST.out _ _ (HBa.out.trans (HOa.out.belowG HG2.out HBa.out.size)) (by have := OwnV.of_q HO2.out; rwa [HST.out] at this) _ rfl
  · have POST : Hid (StuffPost w l (.returned (.tuple #[.slice none 0 0, .int .i64 E])) w) := Lib.hid (by
      unfold StuffPost
      rw [hE, if_neg h0]
      exact ⟨Below.refl _ _, _, rfl, none, 0, rfl, Nat.le_refl _, by simp [maxLen], .inl rfl⟩)
    clear hr hE HE
    go_enter Tryz.func15, Tryz.ntmps15
    go_wp2_with (refine K.out.mono ?_; rintro e5 w5 ⟨rfl, rfl⟩)
    go_ret2
    exact POST.out
end Go.Proofs.YtjnjnccfojfghaaGreatDoor
