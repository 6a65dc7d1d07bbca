/-
  The walk of waybillref12's Next. Conditions: the sizes.
-/
import Derived.Test.YtkemmgfmmfcdlaaDoorRNext
import Derived.Test.YtkemmgfmmfcdlaaDoorMore
namespace Go.Proofs.YtkemmgfmmfcdlaaDoor
open Go.RowKit
set_option linter.unusedVariables false

theorem nx_form {most : Nat} {x t : List UInt8} {sf : Bool} (h1 : Lib.trimSuffix x [13] = t) (h2 : Lib.hasSuffix x [13] = sf) :
    nxLine most x = if most < t.length then (t.take most, 120) else if (0 : UInt8) ∈ t then (t, 122) else if sf = false ∨ (13 : UInt8) ∈ t then (t, 121) else (t, 0) := by
  subst h1 h2; rfl
theorem suf_not {x : List UInt8} (h : x.getLast? ≠ some 13) : Lib.hasSuffix x [13] = false ∧ Lib.trimSuffix x [13] = x := by
  have h2 : Lib.hasSuffix x [13] = false := by
    cases hx : x with
    | nil => simp [Lib.hasSuffix]
    | cons a t => rw [← hx, hasSuf13 x (by rw [hx]; simp)]; simpa using h
  refine ⟨h2, ?_⟩
  unfold Lib.trimSuffix
  rw [h2]
  rfl
theorem has_at (w : World) (A : Option Addr) (l : List UInt8) (n c : Nat) (cv : Int) (cu : UInt8) (hcv : cv = (cu.toNat : Int)) (hn : n = l.length) (h : RB w w.heap.size A l) (hl : n ≤ 4611686018427387904) (bo : Bool) (hbo : decide (cu ∈ l) = bo) :
    Calls Tryd.prog 27 #[.slice A n c, .int .u8 cv] w fun e w' => w = w' ∧ e = .returned (.bool bo) := by
  subst hcv hn hbo
  exact has_walk w A l c cu h hl
set_option maxRecDepth 100000 in
set_option maxHeartbeats 4000000 in
theorem rnext_walk (w : World) (base p : Nat) (own : Option Nat) (most : Nat) (l : List UInt8) (hR : Rd w 50 base p own most l) (hb : base ≤ w.heap.size) (hl : l.length ≤ 140737488355328) (hm : most ≤ 65536) :
    Calls Tryd.prog 13 #[.pointer (some ⟨p, 0, none⟩)] w (NextPost 50 w base p own most l) := by
  have hR' := Lib.hid hR
  obtain ⟨h1, h2, v, hB, hO⟩ := hR
  obtain ⟨A, c, rfl, hlc, hcm, hrb⟩ := hO.out
  have c0 : w.cell? ⟨p, 0, none⟩ = some (.int .i64 (most : Int)) := hB.cell 0
  have c1 : w.cell? ⟨p, 1, none⟩ = some (.slice A l.length c) := hB.cell 1
  have HB := Lib.hid hB
  have HO := Lib.hid hO
  have HRB := Lib.hid hrb
  have H2 := Lib.hid h2
  unfold maxLen at hcm
  clear hB hO hrb h2
  go_enter Tryd.func13, Tryd.ntmps13
  go_wp2_with fail
  go_loopg [5] l.length (fun k i wr => w = wr ∧ ∃ (j : Nat), j + k = l.length ∧ i = .int .i64 j ∧ Hid ((10 : UInt8) ∉ l.take j))
  case atStart => exact ⟨rfl, 0, by omega, rfl, Lib.hid (by simp)⟩
  case round =>
    obtain ⟨rfl, j, hj, rfl, H⟩ := hrel
    have hin : j < l.length → ∃ b off, A = some ⟨b, off, none⟩ ∧ w.cell? ⟨b, off + j, none⟩ = some (.int .u8 (l.getD j 0).toNat) := fun hlt => by
      obtain ⟨b, off, e, _, hc⟩ := HRB.out.at_ hlt
      exact ⟨b, off, e, hc j hlt⟩
    by_cases hlt : j < l.length
    · have hj1 : (j : Int) < (l.length : Int) := by omega
      obtain ⟨b, off, rfl, cj⟩ := hin hlt
      have hg : l.getD j 0 = l[j] := by rw [List.getD_eq_getElem?_getD, List.getElem?_eq_getElem hlt]; rfl
      rw [hg] at cj
      have hjs := List.take_succ_eq_append_getElem hlt
      have hds := List.drop_eq_getElem_cons hlt
      have HJ := Lib.hid hjs
      have HDS := Lib.hid hds
      clear hg hjs hds hin
      by_cases hx : l[j] = 10
      · rw [hx] at cj HDS
        have cj' : w.cell? ⟨b, off + j, none⟩ = some (.int .u8 10) := cj
        have hcut : cutAt 10 l = some (l.take j, l.drop (j + 1)) := by
          have := cutAt_app (l.drop (j + 1)) H.out
          rwa [← HDS.out, List.take_append_drop] at this
        obtain ⟨x, hxe⟩ : ∃ x, x = l.take j := ⟨_, rfl⟩
        obtain ⟨y, hye⟩ : ∃ y, y = l.drop (j + 1) := ⟨_, rfl⟩
        rw [← hxe, ← hye] at hcut
        have hxl : x.length = j := by rw [hxe, List.length_take]; omega
        have hyl : y.length = l.length - (j + 1) := by rw [hye, List.length_drop]
        have HN : Hid (nextP most l = some (nxLine most x, y)) := Lib.hid (by unfold nextP; rw [hcut])
        have RX : Hid (RB w w.heap.size (some ⟨b, off, none⟩) x) := Lib.hid (hxe ▸ RB.take HRB.out j)
        obtain ⟨own2, ho2, hO2⟩ := HO.out.tail (j + 1) (by omega)
        rw [← hye] at hO2
        have HO2 := Lib.hid hO2
        have HXL := Lib.hid hxl
        have HYL := Lib.hid hyl
        clear hcut hxe hye hx cj hO2 HJ HDS H hxl hyl HO ho2
        have hje : ((j : Int) == (l.length : Int)) = false := beq_eq_false_iff_ne.2 (by omega)
        have e1 : IntKind.i64.wrap ((j : Int) + 1) = (j : Int) + 1 := IntWalk.i64_in _ (by omega)
        have hjl : j + 1 ≤ l.length := hlt
        go_upto_region 8 with (at_builtin; refine wpList_appQ _ u8L (.tmp 36) (.tmp 42) rfl rfl w.heap.size rfl (OwnQ.nil _ _ none) _ _ rfl HXL.out.symm RX.out (by have := HXL.out; simp; omega) (Nat.le_refl _) ?_; intro v1 own1 w1 hO1 hg1 ho1; obtain ⟨A1, cc1, rfl, -⟩ := hO1.out; have HO1 := Lib.hid hO1; have HG1 := Lib.hid hg1; have HN1 := Lib.hid ho1; clear hO1 hg1 ho1)
        rw [List.nil_append] at HO1
        have hlt0 := HB.out.lt
        have HB1 := Lib.hid (HB.out.grown HG1.out (by simp))
        have hs1 : w.heap.size ≤ w1.heap.size := HG1.out.size
        have HBa := Lib.hid (HB1.out.alloc (.cells #[] 5))
        have d1 : (w1.alloc (.cells #[] 5)).cell? ⟨p, 1, none⟩ = some (.slice (some ⟨b, off, none⟩) l.length c) := HBa.out.cell 1
        have HXa := Lib.hid ((OwnV.of_q HO1.out).below ((Below.refl _ _).alloc (Nat.le_refl _) (.cells #[] 5)))
        have hbl : Below w.heap.size w w1 := ⟨HG1.out.os, HG1.out.tape, HG1.out.output, hs1, fun k hk => HG1.out.block k hk (by simp)⟩
        have hbl2 := hbl.alloc hs1 (.cells #[] 5)
        have HBL := Lib.hid hbl2
        have RY : Hid (c ≠ j + 1 → RB (w1.alloc (.cells #[] 5)) w.heap.size (some ⟨b, off + (j + 1), none⟩) y) := Lib.hid fun hcp => by
          have h := HO2.out
          rw [if_neg hcp] at h
          have h2 := h.rb.1
          simp only [Option.map_some, Addr.add_lit] at h2
          exact h2.below HBL.out
        have RN : Hid (c = j + 1 → y = []) := Lib.hid fun hcp => List.eq_nil_of_length_eq_zero (by rw [HYL.out]; omega)
        clear hbl hbl2
        have hsa : w.heap.size ≤ (w1.alloc (.cells #[] 5)).heap.size := HBL.out.size
        have hor : c = j + 1 ∨ c ≠ j + 1 := by omega
        rcases hor with hcp | hcp
        case' inl =>
          have hy0 := Lib.hid (RN.out hcp)
          have RYY : Hid (RB (w1.alloc (.cells #[] 5)) w.heap.size (some ⟨b, off, none⟩) y) := Lib.hid (.inl hy0.out)
          subst hcp
          go_upto_region 9 with (at_builtin; go_loud (refine wpList_appQ _ u8L (.tmp 45) (.tmp 52) rfl rfl w.heap.size rfl (OwnQ.nil _ _ _) _ _ rfl (by have h9 := HYL.out; omega) RYY.out (by have := HYL.out; simp; omega) (by omega) ?_); intro v2 own3 w2 hO3 hg3 ho3; obtain ⟨A2, cc2, rfl, -⟩ := hO3.out; have HB3 := Lib.hid (HBa.out.grown hg3 (by simp)); have f1 := HB3.out.frozen 1; have d3 := HB3.out.cell 1; have HO3 := Lib.hid hO3; have HG3 := Lib.hid hg3; have HN3 := Lib.hid ho3; clear hO3 hg3 ho3)
        case' inr =>
          have RYY := Lib.hid (RY.out hcp)
          have hcj : j + 1 < c := by omega
          go_upto_region 9 with (at_builtin; go_loud (refine wpList_appQ _ u8L (.tmp 45) (.tmp 52) rfl rfl w.heap.size rfl (OwnQ.nil _ _ _) _ _ rfl (by have h9 := HYL.out; omega) RYY.out (by have := HYL.out; simp; omega) (by omega) ?_); intro v2 own3 w2 hO3 hg3 ho3; obtain ⟨A2, cc2, rfl, -⟩ := hO3.out; have HB3 := Lib.hid (HBa.out.grown hg3 (by simp)); have f1 := HB3.out.frozen 1; have d3 := HB3.out.cell 1; have HO3 := Lib.hid hO3; have HG3 := Lib.hid hg3; have HN3 := Lib.hid ho3; clear hO3 hg3 ho3)
        all_goals
          rw [List.nil_append] at HO3
          have hb2 : Below w.heap.size w w2 := ⟨HG3.out.os.trans HBL.out.os, HG3.out.tape.trans HBL.out.tape, HG3.out.output.trans HBL.out.output, Nat.le_trans HBL.out.size HG3.out.size, fun k hk => (HG3.out.block k (Nat.lt_of_lt_of_le hk HBL.out.size) (by simp)).trans (HBL.out.block k hk)⟩
          have hn3 : own3 = none ∨ ∃ g, own3 = some g ∧ w.heap.size ≤ g := by
            rcases HN3.out with h | h
            · exact .inl h
            · exact .inr ⟨_, h, hsa⟩
          have hne3 : own3 ≠ some p := by
            rcases hn3 with h | ⟨g, h, hg⟩
            · rw [h]; simp
            · rw [h]; intro e; injection e with e; omega
          have R3 : Hid (Rd (w2.setCell ⟨p, 1, none⟩ (.slice A2 y.length cc2)) 50 base p own3 most y) := Lib.hid ⟨h1, hne3, _, HB3.out.set_ 1 _, (HO3.out.mono_ hb).far (p := ⟨p, 1, none⟩) hne3 _⟩
          have X3 : Hid (OwnV (w2.setCell ⟨p, 1, none⟩ (.slice A2 y.length cc2)) w.heap.size (.slice A1 x.length cc1) x) := Lib.hid ((HXa.out.blocks HG3.out.size fun g _ hg _ => HG3.out.block g hg (by simp)).chg ((Chg.refl (p := p) (own := none) w2).setCell 1 _) hlt0 (by simp))
          have CH : Hid (Chg p none w (w2.setCell ⟨p, 1, none⟩ (.slice A2 y.length cc2))) := Lib.hid ((Chg.of_below hb2).setCell 1 _)
          have c03 : (w2.setCell ⟨p, 1, none⟩ (.slice A2 y.length cc2)).cell? ⟨p, 0, none⟩ = some (.int .i64 (most : Int)) := (HB3.out.set_ 1 _).cell 0
          have HNO := Lib.hid hn3
          clear hb2 hn3 hne3 HG3 HN3 HO3 f1 d3 HB3 HXa RY RN RYY HBL HBa HB1 HO1 HG1 HN1 d1 c0 c1 cj' HB HRB RX HO2
          generalize w2.setCell ⟨p, 1, none⟩ (.slice A2 y.length cc2) = w3 at *
          have FIN : Hid (∀ (v : Value) (r : List UInt8 × Int), nxLine most x = r → OwnV w3 w.heap.size v r.1 → ∀ e, e = .returned (.tuple #[v, .int .i64 r.2, .bool true]) → NextPost 50 w base p own most l e w3) := Lib.hid fun v r hr hv e he =>
            .inr ⟨r, y, v, own3, by rw [HN.out, hr], he, hv, CH.out, R3.out, by rcases HNO.out with h | h; exact .inr (.inl h); exact .inr (.inr h)⟩
          have cl := X3.out.sl
          obtain ⟨-, hxc, hxm, hxr⟩ := cl
          have HXR := Lib.hid hxr
          clear hxr
          have hcs : x = [] ∨ (∃ m a, x = m ++ [a] ∧ a ≠ 13) ∨ ∃ m, x = m ++ [13] := by
            rcases List.eq_nil_or_concat x with h | ⟨m, a, h⟩
            · exact .inl h
            · by_cases ha : a = 13
              · exact .inr (.inr ⟨m, by rw [h, ha, List.concat_eq_append]⟩)
              · exact .inr (.inl ⟨m, a, by rw [h, List.concat_eq_append], ha⟩)
          obtain ⟨t, n, sf, hT, hS, hn, hc3⟩ : ∃ (t : List UInt8) (n : Nat) (sf : Bool), Lib.trimSuffix x [13] = t ∧ Lib.hasSuffix x [13] = sf ∧ n = t.length ∧ ((sf = false ∧ j = 0 ∧ n = x.length ∧ t = x) ∨ (sf = false ∧ 0 < j ∧ n = x.length ∧ t = x ∧ ∃ a : UInt8, a ≠ 13 ∧ ∃ b1 o1, A1 = some ⟨b1, o1, none⟩ ∧ w3.cell? ⟨b1, o1 + (j - 1), none⟩ = some (.int .u8 a.toNat)) ∨ (sf = true ∧ 0 < j ∧ n = j - 1 ∧ t = x.take (j - 1) ∧ ∃ b1 o1, A1 = some ⟨b1, o1, none⟩ ∧ w3.cell? ⟨b1, o1 + (j - 1), none⟩ = some (.int .u8 13))) := by
            have hxl := HXL.out
            rcases hcs with h | ⟨m, a, h, ha⟩ | ⟨m, h⟩
            · subst h
              exact ⟨[], _, false, rfl, rfl, rfl, .inl ⟨rfl, by simpa using hxl.symm, rfl, rfl⟩⟩
            · have hj0 : 0 < x.length := by rw [h]; simp
              obtain ⟨b1, o1, eA, _, hcc⟩ := HXR.out.at_ hj0
              have := hcc (j - 1) (by omega)
              obtain ⟨q1, q2⟩ := suf_not (x := x) (by rw [h]; simpa using ha)
              refine ⟨x, _, false, q2, q1, rfl, .inr (.inl ⟨rfl, by omega, rfl, rfl, a, ha, b1, o1, eA, ?_⟩)⟩
              rw [this, bt_getElem (by omega)]
              have : x[j - 1]'(by omega) = a := by simp [h, ← hxl]
              rw [this]
            · have hj0 : 0 < x.length := by rw [h]; simp
              obtain ⟨b1, o1, eA, _, hcc⟩ := HXR.out.at_ hj0
              have := hcc (j - 1) (by omega)
              obtain ⟨q1, q2⟩ := suf_13 m
              rw [← h] at q1 q2
              have hml : m.length = j - 1 := by rw [← hxl, h]; simp
              refine ⟨m, j - 1, true, q2, q1, hml.symm, .inr (.inr ⟨rfl, by omega, rfl, by rw [h, ← hml]; simp, b1, o1, eA, ?_⟩)⟩
              rw [this, bt_getElem (by omega)]
              have : x[j - 1]'(by omega) = 13 := by simp [h, ← hxl]
              rw [this]
              rfl
          have VT : Hid (OwnV w3 w.heap.size (.slice A1 n cc1) t) := Lib.hid (by
            have hxl := HXL.out
            rcases hc3 with ⟨_, h1, h2, h3⟩ | ⟨_, h1, h2, h3, _⟩ | ⟨_, h1, h2, h3, _⟩
            · rw [h3, h2]; exact X3.out
            · rw [h3, h2]; exact X3.out
            · rw [h3, h2]; exact X3.out.take (j - 1) (by omega))
          have RT : Hid (RB w3 w3.heap.size A1 t) := Lib.hid VT.out.sl.2.2.2
          have hncap : n ≤ cc1 := VT.out.sl.2.1
          have HF := Lib.hid (nx_form (most := most) hT hS)
          have HT := Lib.hid hn
          have hnl : n ≤ 140737488355328 := by
            have hxl := HXL.out
            rcases hc3 with ⟨_, h1, h2, h3⟩ | ⟨_, h1, h2, h3, _⟩ | ⟨_, h1, h2, h3, _⟩ <;> omega
          clear hT hS hn hcs HXR X3 hxc HN CH R3 HNO HYL
          obtain ⟨nb, hnb⟩ : ∃ nb, decide ((0 : UInt8) ∈ t) = nb := ⟨_, rfl⟩
          obtain ⟨bb, hbb⟩ : ∃ bb, decide ((13 : UInt8) ∈ t) = bb := ⟨_, rfl⟩
          have K0 := Lib.hid (has_at w3 A1 t n cc1 0 0 rfl HT.out RT.out (by omega) nb hnb)
          have K1 := Lib.hid (has_at w3 A1 t n cc1 13 13 rfl HT.out RT.out (by omega) bb hbb)
          have HNB := Lib.hid hnb
          have HBB := Lib.hid hbb
          clear hnb hbb
          have hmo : ((most : Int) < (n : Int) ∧ most < n) ∨ (¬ (most : Int) < (n : Int) ∧ ¬ most < n) := by omega
          rcases hc3 with ⟨rfl, hj0, rfl, -⟩ | ⟨rfl, hj0, rfl, -, av, hav, b1, o1, rfl, ca⟩ | ⟨rfl, hj0, rfl, -, b1, o1, rfl, ca⟩
          all_goals first
          | (have q0 : ¬ (0 : Int) < (j : Int) := by omega
             go_upto_region 12 with fail)
          | (have q0 : (0 : Int) < (j : Int) := by omega
             have e2 : IntKind.i64.wrap ((j : Int) - 1) = ((j - 1 : Nat) : Int) := by rw [IntWalk.i64_in _ (by omega)]; omega
             have q1 : ((j - 1 : Nat) : Int) < (x.length : Int) := by have := HXL.out; omega
             have q2 : ((av.toNat : Int) == 13) = false := by rw [show (13 : Int) = ((13 : UInt8).toNat : Int) from rfl, byte_beq]; exact decide_eq_false hav
             go_upto_region 12 with fail)
          | (have q0 : (0 : Int) < (j : Int) := by omega
             have e2 : IntKind.i64.wrap ((j : Int) - 1) = ((j - 1 : Nat) : Int) := by rw [IntWalk.i64_in _ (by omega)]; omega
             have q1 : ((j - 1 : Nat) : Int) < (x.length : Int) := by have := HXL.out; omega
             go_upto_region 12 with fail)
          all_goals
            go_upto_region 13 with (go_at_call 27; refine K0.out.mono ?_; rintro e5 w5 ⟨rfl, rfl⟩)
          all_goals
            go_upto_region 14 with (go_at_call 27; refine K1.out.mono ?_; rintro e5 w5 ⟨rfl, rfl⟩)
          all_goals clear K0 K1
          all_goals rcases hmo with ⟨hmi, hmn⟩ | ⟨hmi, hmn⟩
          all_goals cases nb
          all_goals cases bb
          all_goals
            go_wp2
            go_ret3
          all_goals first
          | exact FIN.out _ (t.take most, 120) (by rw [HF.out, ← HT.out]; exact if_pos hmn) (VT.out.take most (by have := HT.out; omega)) _ rfl
          | exact FIN.out _ (t, 122) (by rw [HF.out, ← HT.out, if_neg hmn, if_pos (of_decide_eq_true HNB.out)]) VT.out _ rfl
          | exact FIN.out _ (t, 121) (by rw [HF.out, ← HT.out, if_neg hmn, if_neg (of_decide_eq_false HNB.out), if_pos (by first | exact .inr (of_decide_eq_true HBB.out) | (simp; done))]) VT.out _ rfl
          | exact FIN.out _ (t, 0) (by rw [HF.out, ← HT.out, if_neg hmn, if_neg (of_decide_eq_false HNB.out), if_neg (fun h => h.elim (fun e => by simp at e) (of_decide_eq_false HBB.out))]) VT.out _ rfl
      · have hxb : ((l[j].toNat : Int) == 10) = false := by rw [show (10 : Int) = ((10 : UInt8).toNat : Int) from rfl, byte_beq]; exact decide_eq_false hx
        have H2 : Hid ((10 : UInt8) ∉ l.take (j + 1)) := Lib.hid (by
          rw [HJ.out]
          intro hm
          rcases List.mem_append.1 hm with h | h
          · exact H.out h
          · simp at h; exact hx h.symm)
        have e1 : IntKind.i64.wrap ((j : Int) + 1) = (j : Int) + 1 := IntWalk.i64_in _ (by omega)
        clear hx HJ HDS H
        generalize l[j] = xj at *
        go_wp2
        go_roundg (gk - 1)
        case rel => exact ⟨rfl, j + 1, by omega, by go_num, H2⟩
        case measure => omega
    · have hj1 : ¬ (j : Int) < (l.length : Int) := by omega
      have hje : j = l.length := by omega
      have hn : Hid (nextP most l = none) := Lib.hid (by
        unfold nextP
        rw [cutAt_not (by have := H.out; rwa [hje, List.take_length] at this)])
      clear H hin
      go_wp2
      go_ret3
      exact .inl ⟨hn.out, rfl, Below.refl _ _, hR'.out⟩
end Go.Proofs.YtkemmgfmmfcdlaaDoor
