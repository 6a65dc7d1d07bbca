/-
  The walk of the document's Lines. Conditions: the size.
-/
import Derived.Test.YtlknclkkhincfaaDoorTbDl
import Derived.Deep.CutBlock
import Derived.Deep.DeepCutAuto
namespace Go.Proofs.YtlknclkkhincfaaDoor
open Go.RowKit
set_option linter.unusedVariables false
/-! ### bounds -/
structure LB (n a : Nat) (x : PL) : Prop where
  at_ : x.at_ < n
  le : x.ps.length ≤ a
  key : x.key.length ≤ n
  ps : ∀ p ∈ x.ps, p.length ≤ n
structure BD (n a : Nat) (o : List PL × List Nat) : Prop where
  le : o.1.length ≤ a
  bl : o.2.length ≤ n + a
  bs : ∀ b ∈ o.2, b < n
  ps : ∀ x ∈ o.1, LB n a x
theorem LB.mono {n a b : Nat} {x : PL} (h : LB n a x) (hab : a ≤ b) : LB n b x := ⟨h.at_, Nat.le_trans h.le hab, h.key, h.ps⟩
theorem LB.add {n a : Nat} {x : PL} {s : List UInt8} (h : LB n a x) (hs : s.length ≤ n) : LB n (a + 1) (addP x s) := by
  unfold addP
  split
  · exact h.mono (by omega)
  · refine ⟨h.at_, ?_, h.key, fun p hp => ?_⟩
    · show (x.ps ++ [trimB s]).length ≤ _
      rw [List.length_append]
      have := h.le
      simp; omega
    · rcases List.mem_append.1 hp with hp | hp
      · exact h.ps p hp
      · obtain rfl : p = trimB s := by simpa using hp
        exact Nat.le_trans (trimB_len s) hs
theorem LB.last {n a : Nat} {out : List PL} {s : List UInt8} (h : ∀ x ∈ out, LB n a x) (hs : s.length ≤ n) : ∀ x ∈ modLast out s, LB n (a + 1) x := by
  intro x hx
  unfold modLast at hx
  split at hx
  · exact (h x hx).mono (by omega)
  · rename_i y hy
    rcases List.mem_append.1 hx with hx | hx
    · exact (h x (List.mem_of_mem_dropLast' hx)).mono (by omega)
    · obtain rfl : x = addP y s := by simpa using hx
      exact (h y (List.mem_of_getLast? hy)).add hs
theorem BD.mono {n a b : Nat} {o : List PL × List Nat} (h : BD n a o) (hab : a ≤ b) : BD n b o := ⟨Nat.le_trans h.le hab, by have := h.bl; omega, h.bs, fun x hx => (h.ps x hx).mono hab⟩
theorem BD.step {n a b at_ : Nat} {o : List PL × List Nat} {s : List UInt8} (h : BD n a o) (hat : at_ < n) (hs : s.length ≤ n) (hab : a + 1 ≤ b) : BD n b (dStep at_ s o) := by
  refine BD.mono ?_ hab
  have h1 := h.le
  have h2 := h.bl
  unfold dStep
  split
  · exact h.mono (by omega)
  · split
    · split
      · refine ⟨by show o.1.length ≤ _; omega, by show (o.2 ++ [at_]).length ≤ _; rw [List.length_append]; simp; omega, fun b hb => ?_, fun x hx => (h.ps x hx).mono (by omega)⟩
        rcases List.mem_append.1 hb with hb | hb
        · exact h.bs b hb
        · obtain rfl : b = at_ := by simpa using hb
          exact hat
      · exact ⟨by show (modLast o.1 s).length ≤ _; rw [modLast_len]; omega, by show o.2.length ≤ _; omega, h.bs, LB.last h.ps hs⟩
    · refine ⟨by show (o.1 ++ [_]).length ≤ _; rw [List.length_append]; simp; omega, by show o.2.length ≤ _; omega, h.bs, fun x hx => ?_⟩
      rcases List.mem_append.1 hx with hx | hx
      · exact (h.ps x hx).mono (by omega)
      · obtain rfl : x = _ := by simpa using hx
        exact ⟨hat, by simp, hs, fun p hp => by cases hp⟩
theorem okC_take {text : List UInt8} {i : Nat} (h : i < text.length) : (text.take (i + 1)).all okC = ((text.take i).all okC && okC text[i]) := by
  rw [List.take_succ_eq_append_getElem h, List.all_append]
  simp
def Bad0 (text : List UInt8) (i : Nat) (b0 : List Nat) : Prop := (b0 = [] ↔ (text.take i).all okC = true) ∧ (∀ b ∈ b0, b < text.length) ∧ b0.length ≤ i
theorem Bad0.ok {text : List UInt8} {i : Nat} {b0 : List Nat} (h : Bad0 text i b0) (hi : i < text.length) (hc : okC text[i] = true) : Bad0 text (i + 1) b0 :=
  ⟨by rw [okC_take hi, hc, Bool.and_true]; exact h.1, h.2.1, by have := h.2.2; omega⟩
theorem Bad0.no {text : List UInt8} {i : Nat} {b0 : List Nat} (h : Bad0 text i b0) (hi : i < text.length) (hc : okC text[i] = false) : Bad0 text (i + 1) (b0 ++ [i]) :=
  ⟨by rw [okC_take hi, hc, Bool.and_false]; simp, fun b hb => by
    rcases List.mem_append.1 hb with hb | hb
    · exact h.2.1 b hb
    · obtain rfl : b = i := by simpa using hb
      exact hi, by rw [List.length_append]; have := h.2.2; simp; omega⟩
theorem one_int (k : Int) : ∀ u ∈ ([.int .i64 k] : List Value), u.oneCell' = true := fun u hu => by
  obtain rfl : u = _ := List.mem_singleton.1 hu
  rfl
set_option maxRecDepth 100000 in
set_option maxHeartbeats 4000000 in
theorem lines_walk (text : List UInt8) (w : World) (hs : text.length ≤ 262144) : Calls Tryd.prog 22 #[.string (bs text)] w (LPost w text) := by
  have hsz := bs_size text
  have HG := Lib.hid (bs_get text)
  go_enter Tryd.func22, Tryd.ntmps22
  go_wp2_with fail
  go_loopg [5, 6] text.length (fun k s5 s6 wr => ∃ (i : Nat) (b0 : List Nat), s6 = .int .i64 (i : Int) ∧ i + k = text.length ∧ Hid (Below w.heap.size w wr) ∧ Hid (∃ g, OwnX 1 wr g s5 (natsV b0) ∧ ∀ b, g = some b → w.heap.size ≤ b) ∧ Hid (Bad0 text i b0))
  case atStart => exact ⟨0, [], rfl, by omega, Lib.hid (Below.refl _ _), Lib.hid ⟨none, OwnX.nil _ none, fun b h => by cases h⟩, Lib.hid ⟨by simp, by simp, by simp⟩⟩
  case round =>
    obtain ⟨i, b0, rfl, hk, HB, HO, HD⟩ := hrel
    by_cases hlt : i < text.length
    · have hlt1 : (i : Int) < (text.length : Int) := by omega
      have p0 : i < (bs text).size := by rw [hsz]; exact hlt
      obtain ⟨c, hc, hcc⟩ : ∃ c, (bs text)[i]'p0 = c ∧ text[i] = c := ⟨text[i]'hlt, HG.out i p0 hlt, rfl⟩
      have HC := Lib.hid hcc
      have hcl := c.toNat_lt
      clear hcc
      cases hok : okC c with
      | true =>
        have HD2 := Lib.hid (HD.out.ok hlt ((congrArg okC HC.out).trans hok))
        clear HC HD
        by_cases c9 : c = 9
        · subst c9
          have d1 : (((9 : UInt8).toNat : Int) == 9) = true := rfl
          go_wp2_with fail
          go_roundg (gk - 1)
          case rel => exact ⟨i + 1, b0, by go_num, by omega, HB, HO, HD2⟩
          case measure => omega
        · have d1 : ((c.toNat : Int) == 9) = false := beq_eq_false_iff_ne.2 (fun e => c9 (UInt8.toNat_inj.1 (by have : (9 : UInt8).toNat = 9 := rfl; omega)))
          by_cases c10 : c = 10
          · subst c10
            have d2 : (((10 : UInt8).toNat : Int) == 10) = true := rfl
            go_wp2_with fail
            go_roundg (gk - 1)
            case rel => exact ⟨i + 1, b0, by go_num, by omega, HB, HO, HD2⟩
            case measure => omega
          · have d2 : ((c.toNat : Int) == 10) = false := beq_eq_false_iff_ne.2 (fun e => c10 (UInt8.toNat_inj.1 (by have : (10 : UInt8).toNat = 10 := rfl; omega)))
            have hh : 32 ≤ c.toNat ∧ c.toNat ≤ 126 := by
              unfold okC at hok
              rw [beq_eq_false_iff_ne.2 c9, beq_eq_false_iff_ne.2 c10] at hok
              simpa using hok
            have d3 : (32 : Int) ≤ (c.toNat : Int) := by omega
            have d4 : (c.toNat : Int) ≤ 126 := by omega
            clear c9 c10 hok
            go_wp2_with fail
            go_roundg (gk - 1)
            case rel => exact ⟨i + 1, b0, by go_num, by omega, HB, HO, HD2⟩
            case measure => omega
      | false =>
        have HD2 := Lib.hid (HD.out.no hlt ((congrArg okC HC.out).trans hok))
        have hbl := HD.out.2.2
        clear HC HD
        have c9 : c ≠ 9 := by rintro rfl; cases hok
        have c10 : c ≠ 10 := by rintro rfl; cases hok
        have d1 : ((c.toNat : Int) == 9) = false := beq_eq_false_iff_ne.2 (fun e => c9 (UInt8.toNat_inj.1 (by have : (9 : UInt8).toNat = 9 := rfl; omega)))
        have d2 : ((c.toNat : Int) == 10) = false := beq_eq_false_iff_ne.2 (fun e => c10 (UInt8.toNat_inj.1 (by have : (10 : UInt8).toNat = 10 := rfl; omega)))
        obtain ⟨g, hX, hge⟩ := HO.out
        obtain ⟨A5, n5, c5, rfl, -⟩ := hX.sl
        have hb2 := HB.out.alloc HB.out.size (.cells #[.int .i64 (i : Int)] 3)
        have HX2 := Lib.hid (hX.below ((Below.refl wr.heap.size wr).alloc (Nat.le_refl _) (.cells #[.int .i64 (i : Int)] 3)) fun k hk => hX.lt hk)
        have HB2 := Lib.hid hb2
        have HGE := Lib.hid hge
        have HLT := Lib.hid (fun k hk => hX.lt (g := k) hk)
        have hbn := HB.out.size
        clear hX hge hb2 HO HB
        by_cases c32 : c.toNat < 32
        · have d3 : ¬ (32 : Int) ≤ (c.toNat : Int) := by omega
          clear c9 c10 hok
          go_wp2_with (at_builtin; refine wpList_appX _ uxI (.tmp 36) (.tmp 38) rfl rfl rfl HX2.out (some ⟨wr.heap.size, 0, none⟩) 1 1 rfl [.int .i64 (i : Int)] rfl (fun h => by cases h) (news_of wr 3 [_]) (one_int _) (by rw [natsV_len]; omega) ?_; intro v3 g3 w3 hX3 hG3 ho3; obtain ⟨A3, n3, c3, rfl, -⟩ := hX3.sl; have HX3 := Lib.hid hX3; have HG3 := Lib.hid hG3; have HO3 := Lib.hid ho3; clear hX3 hG3 ho3)
          go_roundg (gk - 1)
          case rel =>
            refine ⟨i + 1, b0 ++ [i], by go_num, by omega, Lib.hid (belowX HB2.out HG3.out HGE.out HB2.out.size), Lib.hid ⟨g3, ?_, fun b hb => ?_⟩, HD2⟩
            · rw [← natsV_snoc]; exact HX3.out
            · rcases HO3.out with h | h
              · exact HGE.out b (by rw [← h]; exact hb)
              · have := h.symm.trans hb
                injection this with this
                have hs2 := HB2.out.size
                omega
          case measure => omega
        · have d3 : (32 : Int) ≤ (c.toNat : Int) := by omega
          have hh : 126 < c.toNat := by
            unfold okC at hok
            rw [beq_eq_false_iff_ne.2 c9, beq_eq_false_iff_ne.2 c10, decide_eq_true (show 32 ≤ c.toNat by omega)] at hok
            simpa using hok
          have d4 : ¬ (c.toNat : Int) ≤ 126 := by omega
          clear c9 c10 hok
          go_wp2_with (at_builtin; refine wpList_appX _ uxI (.tmp 36) (.tmp 38) rfl rfl rfl HX2.out (some ⟨wr.heap.size, 0, none⟩) 1 1 rfl [.int .i64 (i : Int)] rfl (fun h => by cases h) (news_of wr 3 [_]) (one_int _) (by rw [natsV_len]; omega) ?_; intro v3 g3 w3 hX3 hG3 ho3; obtain ⟨A3, n3, c3, rfl, -⟩ := hX3.sl; have HX3 := Lib.hid hX3; have HG3 := Lib.hid hG3; have HO3 := Lib.hid ho3; clear hX3 hG3 ho3)
          go_roundg (gk - 1)
          case rel =>
            refine ⟨i + 1, b0 ++ [i], by go_num, by omega, Lib.hid (belowX HB2.out HG3.out HGE.out HB2.out.size), Lib.hid ⟨g3, ?_, fun b hb => ?_⟩, HD2⟩
            · rw [← natsV_snoc]; exact HX3.out
            · rcases HO3.out with h | h
              · exact HGE.out b (by rw [← h]; exact hb)
              · have := h.symm.trans hb
                injection this with this
                have hs2 := HB2.out.size
                omega
          case measure => omega
    · have hlt1 : ¬ (i : Int) < (text.length : Int) := by omega
      have HA : Hid (b0 = [] ↔ text.all okC = true) := Lib.hid (by have := HD.out.1; rw [List.take_of_length_le (by omega)] at this; exact this)
      have HD2 : Hid ((∀ b ∈ b0, b < text.length) ∧ b0.length ≤ text.length) := Lib.hid ⟨HD.out.2.1, by have := HD.out.2.2; omega⟩
      have HO2 : Hid (∃ own, RlSt wr own (.slice none 0 0) u5 [] b0 ∧ ∀ k, k < w.heap.size → own k = (0, 0)) := Lib.hid (by
        obtain ⟨g, hX, hge⟩ := HO.out
        refine ⟨fun k => if k < w.heap.size then (0, 0) else (3, 0), ⟨CutSt.nil _ _, g, hX, fun b hb => ?_⟩, fun k hk => if_pos hk⟩
        have := hge b hb
        exact if_neg (by omega))
      obtain ⟨A5, n5, c5, rfl, -⟩ : ∃ A n c, u5 = .slice A n c ∧ True := by
        obtain ⟨g, hX, hge⟩ := HO.out
        obtain ⟨A5, n5, c5, h, -⟩ := hX.sl
        exact ⟨A5, n5, c5, h, trivial⟩
      obtain ⟨R, hR⟩ : ∃ R, dGo text.length text 0 ([], b0) = R := ⟨_, rfl⟩
      have HR0 := Lib.hid hR
      have HR : Hid (dGo text.length (text.drop 0) 0 ([], b0) = R) := Lib.hid (by rw [List.drop_zero]; exact hR)
      have HBD : Hid (BD text.length 0 ([], b0)) := Lib.hid ⟨by simp, HD2.out.2, HD2.out.1, fun x hx => by cases hx⟩
      obtain ⟨wo, rfl⟩ : ∃ wo, wo = wr := ⟨_, rfl⟩
      clear HO HD HD2 hR hk hlt
      go_wp2_with fail
      clear hlt1
      go_loopg [4, 5, 8] (text.length + 1) (fun k s4 s5 s8 wr => ∃ (at_ : Nat) (out : List PL) (bads : List Nat), s8 = .int .i64 (at_ : Int) ∧ at_ + k = text.length + 1 ∧ Hid (Below w.heap.size w wr) ∧ Hid (∃ own, RlSt wr own s4 s5 out bads ∧ ∀ k, k < w.heap.size → own k = (0, 0)) ∧ Hid (dGo text.length (text.drop at_) at_ (out, bads) = R) ∧ Hid (BD text.length at_ (out, bads)))
      case atStart => exact ⟨0, [], b0, rfl, by omega, HB, HO2, HR, HBD⟩
      case round =>
        clear HB HO2 HR HBD
        obtain ⟨at_, out, bads, rfl, hk, HB, HO, HR, HBD⟩ := hrel
        by_cases hlt : at_ < text.length
        · have hlt1 : (at_ : Int) < (text.length : Int) := by omega
          have HR1 := Lib.hid ((dGo_next text hlt (out, bads)).symm.trans HR.out)
          have hle := line_le text hlt
          have HMB := Lib.hid (mid_bs text at_)
          obtain ⟨ln, hln⟩ : ∃ ln, lineOf (text.drop at_) = ln := ⟨_, rfl⟩
          have HLN := Lib.hid hln
          rw [hln] at HR1 hle HMB
          obtain ⟨wq, rfl⟩ : ∃ wq, wq = wr := ⟨_, rfl⟩
          obtain ⟨ko, rfl⟩ : ∃ ko, ko = gk := ⟨_, rfl⟩
          clear HR hln
          go_upto_block 4 with fail
          go_cut [9] from 45 to 56 (fun v9 wx => wq = wx ∧ ∃ e : Nat, v9 = .int .i64 (e : Int) ∧ Hid (e = at_ + ln.length))
          case first =>
            go_wp2_with fail
            go_loopg [9] text.length (fun k s9 wr => ∃ e : Nat, wq = wr ∧ s9 = .int .i64 (e : Int) ∧ e ≤ text.length ∧ text.length ≤ e + k ∧ Hid (at_ + ln.length = e + (lineOf (text.drop e)).length))
            case atStart => exact ⟨at_, rfl, rfl, by omega, by omega, Lib.hid (by rw [HLN.out])⟩
            case round =>
              obtain ⟨e, rfl, rfl, he, hek, HEQ⟩ := hrel
              by_cases hel : e < text.length
              · have hel1 : (e : Int) < (text.length : Int) := by omega
                have p0 : e < (bs text).size := by rw [hsz]; exact hel
                obtain ⟨c, hc, hcc⟩ : ∃ c, (bs text)[e]'p0 = c ∧ text[e] = c := ⟨text[e]'hel, HG.out e p0 hel, rfl⟩
                have HC := Lib.hid hcc
                have hcl := c.toNat_lt
                clear hcc
                by_cases c10 : c = 10
                · have d2 : ((c.toNat : Int) != 10) = false := by rw [c10]; rfl
                  have HX : Hid (e = at_ + ln.length) := Lib.hid (by have := HEQ.out; rw [lineOf_stop hel (HC.out.trans c10)] at this; exact this.symm)
                  clear HC HEQ c10
                  go_wp2_with fail
                  go_meet
                  exact ⟨rfl, e, rfl, HX⟩
                · have d2 : ((c.toNat : Int) != 10) = true := by rw [bne_iff_ne]; intro q; exact c10 (UInt8.toNat_inj.1 (by have : (10 : UInt8).toNat = 10 := rfl; omega))
                  have HX : Hid (at_ + ln.length = e + 1 + (lineOf (text.drop (e + 1))).length) := Lib.hid (by have := HEQ.out; rw [lineOf_step hel (fun q => c10 (HC.out.symm.trans q))] at this; omega)
                  clear HC HEQ c10
                  go_wp2_with fail
                  go_roundg (gk - 1)
                  case rel => exact ⟨e + 1, rfl, by go_num, by omega, by omega, HX⟩
                  case measure => omega
              · have hel1 : ¬ (e : Int) < (text.length : Int) := by omega
                have HX : Hid (e = at_ + ln.length) := Lib.hid (by have := HEQ.out; rw [List.drop_of_length_le (by omega)] at this; exact this.symm)
                clear HEQ
                go_wp2_with fail
                go_meet
                exact ⟨rfl, e, rfl, HX⟩
          case rest =>
            obtain ⟨rfl, e, rfl, HEE⟩ := hcut
            have he1 : at_ ≤ e := by have := HEE.out; omega
            have he2 : e ≤ text.length := by have := HEE.out; omega
            have HKT := Lib.hid (rtrim_walk ln wq (by omega))
            obtain ⟨tr, htr⟩ : ∃ tr, trimB ln = tr := ⟨_, rfl⟩
            rw [htr] at HKT
            have HTR := Lib.hid htr
            have hnl := bs_nil
            obtain ⟨own, hRS, hz⟩ := HO.out
            obtain ⟨A4, c4, rfl, hn4, hc4⟩ := hRS.1.len
            obtain ⟨A5b, n5b, c5b, rfl, -⟩ : ∃ A n c, u5 = .slice A n c ∧ True := by
              obtain ⟨g, hX, -⟩ := hRS.2
              obtain ⟨A5, n5, c5, h, -⟩ := hX.sl
              exact ⟨A5, n5, c5, h, trivial⟩
            unfold maxLen at hc4
            have HRS := Lib.hid hRS
            have HZ := Lib.hid hz
            clear htr hRS hz HO HMB
            have HMB := Lib.hid (mid_bs text at_ e (by rw [HLN.out]; exact HEE.out))
            rw [HLN.out] at HMB
            go_wp2_with fail
            rw [HMB.out]
            refine HKT.out.mono ?_
            rintro e2 w4 ⟨rfl, rfl⟩
            have HR2 : Hid (dGo text.length (text.drop (e + 1)) (e + 1) (dStep at_ ln (out, bads)) = R) := Lib.hid (by have := HR1.out; rw [← HEE.out] at this; exact this)
            have HBDS := Lib.hid (HBD.out.step (b := e + 1) (s := ln) (at_ := at_) hlt (by omega) (by omega))
            have hbb : bads.length ≤ 524288 := by have := HBD.out.bl; have e1 : (out, bads).2.length = bads.length := rfl; omega
            have hob : out.length ≤ 262144 := by have := HBD.out.le; have e1 : (out, bads).1.length = out.length := rfl; omega
            clear HKT HMB HR1 HLN
            cases tr with
            | nil =>
              have HS : Hid (dStep at_ ln (out, bads) = (out, bads)) := Lib.hid (by unfold dStep skipD; rw [HTR.out]; rfl)
              rw [HS.out] at HR2 HBDS
              have hn0 : (bs []).toList = [] := bs_nil []
              go_wp2_with fail
              go_roundg (ko - (ln.length + 1))
              case rel => exact ⟨e + 1, out, bads, by go_num, by have := HEE.out; omega, HB, Lib.hid ⟨own, HRS.out, HZ.out⟩, HR2, HBDS⟩
              case measure => omega
            | cons c2 r2 =>
              have hbe : ((bs (c2 :: r2)).toList == []) = false := by rw [bs_nil]; rfl
              have hbe2 : (bs (c2 :: r2)).toList.isEmpty = false := by rw [bs_nil]; rfl
              have hbn : ¬ (bs (c2 :: r2)).toList = [] := by rw [bs_nil]; simp
              have p2 : 0 < (bs (c2 :: r2)).size := by rw [bs_size]; simp
              have hc2 : ((bs (c2 :: r2))[0]'p2) = c2 := rfl
              clear hnl
              by_cases h35 : c2 = 35
              · have hd : ((((bs (c2 :: r2))[0]'p2).toNat : Int) == 35) = true := by rw [hc2, h35]; rfl
                have HS : Hid (dStep at_ ln (out, bads) = (out, bads)) := Lib.hid (by unfold dStep skipD; rw [HTR.out, h35]; simp)
                rw [HS.out] at HR2 HBDS
                clear hc2 h35
                go_wp2_with fail
                go_roundg (ko - (ln.length + 1))
                case rel => exact ⟨e + 1, out, bads, by go_num, by have := HEE.out; omega, HB, Lib.hid ⟨own, HRS.out, HZ.out⟩, HR2, HBDS⟩
                case measure => omega
              · have hd : ((((bs (c2 :: r2))[0]'p2).toNat : Int) == 35) = false := by
                  rw [hc2, beq_eq_false_iff_ne]; intro q; exact h35 (UInt8.toNat_inj.1 (by have : (35 : UInt8).toNat = 35 := rfl; omega))
                have HSk : Hid (skipD ln = false) := Lib.hid (by unfold skipD; rw [HTR.out]; simp [h35])
                obtain ⟨c, r, hcr⟩ : ∃ c r, ln = c :: r := by
                  cases ln with
                  | nil => exact absurd HTR.out (by intro q; cases q)
                  | cons c r => exact ⟨c, r, rfl⟩
                have hls := bs_size ln
                have p1 : 0 < (bs ln).size := by rw [hls, hcr]; simp
                have hlp : 0 < ln.length := by rw [hcr]; simp
                have hc1 : ((bs ln)[0]'p1) = c := by subst hcr; rfl
                have HBL : Hid (blD ln = isBl c) := Lib.hid (by rw [hcr]; rfl)
                have HKB := Lib.hid (blank_walk c wq)
                clear hc2 h35 hcr
                cases hbl : isBl c with
                | true =>
                  rw [hbl] at HKB HBL
                  clear hbl
                  by_cases ho : out = []
                  · subst ho
                    have HS : Hid (dStep at_ ln ([], bads) = ([], bads ++ [at_])) := Lib.hid (by unfold dStep; rw [HSk.out, HBL.out]; rfl)
                    rw [HS.out] at HR2 HBDS
                    obtain ⟨hC, g, hX, hm⟩ := HRS.out
                    have HX2 := Lib.hid (hX.below ((Below.refl wq.heap.size wq).alloc (Nat.le_refl _) (.cells #[.int .i64 (at_ : Int)] 3)) fun k hk => hX.lt hk)
                    have HLT := Lib.hid (fun k hk => hX.lt (g := k) hk)
                    have HC := Lib.hid hC
                    have HM := Lib.hid hm
                    clear hC hX hm HRS
                    go_wp2_with fail
                    refine HKB.out.mono ?_
                    rintro e3 w5 ⟨rfl, rfl⟩
                    clear HKB
                    go_wp2_with (at_builtin; refine wpList_appX _ uxI (.tmp 86) (.tmp 88) rfl rfl rfl HX2.out (some ⟨wq.heap.size, 0, none⟩) 1 1 rfl [.int .i64 (at_ : Int)] rfl (fun h => by cases h) (news_of wq 3 [_]) (one_int _) (by rw [natsV_len]; omega) ?_; intro v9 g9 w9 hX9 hG9 ho9; obtain ⟨A9, n9, c9, rfl, -⟩ := hX9.sl; have HX9 := Lib.hid hX9; have HG9 := Lib.hid hG9; have HO9 := Lib.hid ho9; clear hX9 hG9 ho9)
                    go_roundg (ko - (ln.length + 1))
                    case rel =>
                      obtain ⟨own', h1, hT⟩ := RlSt.bad HC.out HM.out ((Below.refl wq.heap.size wq).alloc (Nat.le_refl _) (.cells #[.int .i64 (at_ : Int)] 3)) HG9.out HO9.out HLT.out (by rw [← natsV_snoc]; exact HX9.out)
                      have hw6 := HB.out.size
                      exact ⟨e + 1, [], bads ++ [at_], by go_num, by have := HEE.out; omega, Lib.hid (HB.out.trans (hT.below hw6 HZ.out (fun h => by cases h))), Lib.hid ⟨own', h1, hT.zero hw6 HZ.out (fun h => by cases h)⟩, HR2, HBDS⟩
                    case measure => omega
                  · have HS : Hid (dStep at_ ln (out, bads) = (modLast out ln, bads)) := Lib.hid (by unfold dStep; rw [HSk.out, HBL.out]; simp [ho])
                    rw [HS.out] at HR2 HBDS
                    obtain ⟨en, -, -, gb, off, v, gi, x, rfl, kc, kf, hx, hv, hne, hK⟩ := HRS.out.1.last ho
                    have hn0 : 0 < out.length := List.length_pos_iff.2 ho
                    have hj : out.length - 1 < out.length := by omega
                    obtain ⟨A7, n7, c7, rfl, -⟩ := hv.sl
                    have hxm := (HBD.out.ps x (List.mem_of_getLast? hx)).le
                    have HK := Lib.hid (hK ln (.returned (.tuple #[])))
                    have HNE := Lib.hid hne
                    have hgb := World.block_lt_of_cell? _ _ kc
                    have hb2 := (Below.refl wq.heap.size wq).alloc (Nat.le_refl _) (.cells #[.string (bs (c2 :: r2))] 9)
                    have HX2 := Lib.hid (hv.below hb2 fun k hk => hv.lt hk)
                    have HC2 := Lib.hid ((hb2.cell (p := ⟨gb, off + (out.length - 1) * 3 + 2, none⟩) hgb).trans kc)
                    have HF2 := Lib.hid ((hb2.frozen (p := ⟨gb, off + (out.length - 1) * 3 + 2, none⟩) hgb).trans kf)
                    have HB2 := Lib.hid hb2
                    have b0 : ((out.length : Int) == 0) = false := beq_eq_false_iff_ne.2 (by omega)
                    have e1 : IntKind.i64.wrap ((out.length : Int) - 1) = ((out.length - 1 : Nat) : Int) := by rw [IntWalk.i64_in _ (by omega)]; omega
                    clear hx hv hne hK hb2 ho en kf
                    go_wp2_with fail
                    refine HKB.out.mono ?_
                    rintro e3 w5 ⟨rfl, rfl⟩
                    go_wp2_with fail
                    refine HKB.out.mono ?_
                    rintro e3 w5 ⟨rfl, rfl⟩
                    clear HKB
                    go_wp2_with (at_builtin; refine wpList_appX _ uxS (.tmp 104) (.tmp 106) rfl rfl rfl HX2.out (some ⟨wq.heap.size, 0, none⟩) 1 1 rfl [.string (bs (c2 :: r2))] rfl (fun h => by cases h) (one_newS wq 9 _) (one_str _) (by unfold strsV; rw [List.length_map]; omega) ?_; intro v3 g3 w3 hX3 hG3 ho3; obtain ⟨A3, n3, c3', rfl, -⟩ := hX3.sl; have HX3 := Lib.hid hX3; have HG3 := Lib.hid hG3; have HO3 := Lib.hid ho3; have c3 : w3.cell? ⟨gb, off + (out.length - 1) * 3 + 2, none⟩ = some (.slice A7 n7 c7) := (World.cell?_of_block (w := wq.alloc (.cells #[.string (bs (c2 :: r2))] 9)) (hG3.block gb (by have := HB2.out.size; omega) (fun e => HNE.out e.symm))).trans HC2.out; have f3 : w3.frozen? ⟨gb, off + (out.length - 1) * 3 + 2, none⟩ = false := (World.frozen?_of_block (w := wq.alloc (.cells #[.string (bs (c2 :: r2))] 9)) (hG3.block gb (by have := HB2.out.size; omega) (fun e => HNE.out e.symm))).trans HF2.out; clear hX3 hG3 ho3)
                    go_roundg (ko - (ln.length + 1))
                    case rel =>
                      obtain ⟨-, own', hC7, hT7⟩ := HK.out _ ⟨rfl, .inr ⟨by rw [HTR.out]; simp, _, g3, w3, by rw [HTR.out, List.map_append]; exact HX3.out, grown_below HB2.out HG3.out, by
                        rcases HO3.out with h | h
                        · exact .inl h
                        · exact .inr ⟨_, h, HB2.out.size⟩, rfl⟩⟩
                      have hw6 := HB.out.size
                      exact ⟨e + 1, modLast out ln, bads, by go_num, by have := HEE.out; omega, Lib.hid (HB.out.trans (hT7.below hw6 HZ.out (fun h => by rcases h with h | h <;> cases h))), Lib.hid ⟨own', HRS.out.out hC7 hT7, hT7.zero hw6 HZ.out (fun h => by rcases h with h | h <;> cases h)⟩, HR2, HBDS⟩
                    case measure => omega
                | false =>
                  rw [hbl] at HKB HBL
                  clear hbl
                  have HS : Hid (dStep at_ ln (out, bads) = (out ++ [⟨at_, ln, []⟩], bads)) := Lib.hid (by unfold dStep; rw [HSk.out, HBL.out]; rfl)
                  rw [HS.out] at HR2 HBDS
                  obtain ⟨g, Q, h1, h2, h3, h4, h5⟩ := HRS.out.1
                  have hb8 := (Below.refl wq.heap.size wq).alloc (Nat.le_refl _) (.cells #[.int .i64 (at_ : Int), .string (bs ln), .slice none 0 0] 63)
                  have HX8 := Lib.hid (h1.below hb8 fun k hk => h1.lt hk)
                  have HB8 := Lib.hid hb8
                  have H1 := Lib.hid h1
                  have H2 := Lib.hid h2
                  have H3 := Lib.hid h3
                  have H4 := Lib.hid h4
                  have H5 := Lib.hid h5
                  have HQL : Hid (Q.flatten.length ≤ 1000000) := Lib.hid (by rw [flat_len h4, h3]; omega)
                  clear h1 h2 h3 h4 h5 hb8
                  go_wp2_with fail
                  refine HKB.out.mono ?_
                  rintro e3 w5 ⟨rfl, rfl⟩
                  go_wp2_with fail
                  refine HKB.out.mono ?_
                  rintro e3 w5 ⟨rfl, rfl⟩
                  clear HKB
                  go_wp2_with (at_builtin; refine wpList_appX _ uxD (.tmp 63) (.tmp 67) rfl rfl rfl HX8.out (some ⟨wq.heap.size, 0, none⟩) 1 1 rfl [.int .i64 (at_ : Int), .string (bs ln), .slice none 0 0] rfl (fun h => by cases h) (news3 wq 63 _ _ _) (by intro u hu; simp at hu; rcases hu with rfl | rfl | rfl <;> rfl) (by have := HQL.out; omega) ?_; intro v9 g9 w9 hX9 hG9 ho9; obtain ⟨A9, n9, c9, rfl, -⟩ := hX9.sl; have HX9 := Lib.hid hX9; have HG9 := Lib.hid hG9; have HO9 := Lib.hid ho9; clear hX9 hG9 ho9)
                  go_roundg (ko - (ln.length + 1))
                  case rel =>
                    obtain ⟨own', hC9, hT9⟩ := CutSt.snoc (v := .slice none 0 0) (gi := none) ⟨at_, ln, []⟩ H1.out H2.out H3.out H4.out H5.out HB8.out (OwnX.nil _ none) (fun k h => by cases h) HG9.out HO9.out HX9.out
                    have hw6 := HB.out.size
                    exact ⟨e + 1, out ++ [⟨at_, ln, []⟩], bads, by go_num, by have := HEE.out; omega, Lib.hid (HB.out.trans (hT9.below hw6 HZ.out (fun h => by rcases h with h | h <;> cases h))), Lib.hid ⟨own', HRS.out.out hC9 hT9, hT9.zero hw6 HZ.out (fun h => by rcases h with h | h <;> cases h)⟩, HR2, HBDS⟩
                  case measure => omega
        · have hlt1 : ¬ (at_ : Int) < (text.length : Int) := by omega
          have hnil : text.drop at_ = [] := List.drop_of_length_le (by omega)
          have HE : Hid (R = (out, bads)) := Lib.hid (by rw [← HR.out, hnil, dGo_nil])
          clear hnil HR
          go_wp2_with fail
          go_ret2
          obtain ⟨own, h1, h2⟩ := HO.out
          have hB := HBD.out
          exact ⟨own, _, _, b0, out, bads, HA.out, HR0.out.trans HE.out, h1, h2, rfl, HB.out, hB.bs, by have := hB.bl; have e1 : (out, bads).2.length = bads.length := rfl; omega, by have := hB.le; have e1 : (out, bads).1.length = out.length := rfl; omega, fun x hx => by
            have hx := hB.ps x hx
            exact ⟨hx.at_, by have := hx.le; omega, hx.key, hx.ps⟩⟩
end Go.Proofs.YtlknclkkhincfaaDoor
