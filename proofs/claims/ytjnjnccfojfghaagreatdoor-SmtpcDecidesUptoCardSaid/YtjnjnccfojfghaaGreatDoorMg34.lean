/-
  Several texts in one: ScDc. Conditions: each part names its own.
-/
import Derived.Test.YtjnjnccfojfghaaGreatDoorMg33
import Derived.Test.YtjnjnccfojfghaaGreatDoorMg30
import Derived.Test.YtjnjnccfojfghaaGreatDoorMg16
set_option linter.unusedSimpArgs false
/-! The walk of SmtpcDecides. Conditions: the lengths, what the library's variables hold. -/
namespace Go.Proofs.YtjnjnccfojfghaaGreatDoor
open Go.RowKit
set_option linter.unusedVariables false
theorem RpR.up {w w' : World} {r : RpM} (h : RpR w w.heap.size r) (hb : Below w.heap.size w w') : RpR w' w'.heap.size r := by
  have h1 := h.below hb
  refine ⟨?_, h1.hl, h1.hc, h1.hs⟩
  rcases h1.rs with h | ⟨b, off, e, hlt, hc⟩
  · exact .inl h
  · exact .inr ⟨b, off, e, Nat.lt_of_lt_of_le hlt hb.size, hc⟩
theorem RRs.up {w w' : World} {A : Option Addr} {R : List RpM} (h : RRs w w.heap.size A R) (hb : Below w.heap.size w w') : RRs w' w'.heap.size A R := by
  rcases h.below hb with h1 | ⟨b, off, e, hlt, hc⟩
  · exact .inl h1
  · refine .inr ⟨b, off, e, Nat.lt_of_lt_of_le hlt hb.size, fun i r hr => ?_⟩
    obtain ⟨q1, q2, q3⟩ := hc i r hr
    refine ⟨q1, q2, ?_, q3.hl, q3.hc, q3.hs⟩
    rcases q3.rs with h | ⟨b', off', e', hlt', hc'⟩
    · exact .inl h
    · exact .inr ⟨b', off', e', Nat.lt_of_lt_of_le hlt' hb.size, hc'⟩
set_option maxRecDepth 100000 in
set_option maxHeartbeats 8000000 in
theorem decides_lawW (w : World) (T : TabC w) (o : OrdM) (m : OrdV) (ho : OrdR w w.heap.size o m) (fit : o.Fit m 1048576) (A1 : Option Addr) (R : List RpM) (c1 : Nat) (h1 : RRs w w.heap.size A1 R) (hr1 : R.length ≤ 9223372036854775807) :
    Calls Tryz.prog 6 #[.agg (ordC o m).toArray, .slice A1 R.length c1] w fun e w' => Below w.heap.size w w' ∧ e = .returned (.bool true) := by
  obtain ⟨w1, hw1⟩ : ∃ w1, w.alloc (.cells #[.string (bs o.name), .bool o.frm.nul, .string (bs o.frm.loc), .string (bs o.frm.dom), .bool o.frm.lit, .slice m.Ar o.rcpts.length m.cr, .slice m.Ad o.data.length m.cd] 27) = w1 := ⟨_, rfl⟩
  have hb1 : Below w.heap.size w w1 := by rw [← hw1]; exact (Below.refl _ _).alloc (Nat.le_refl _) _
  have hx1 : Blk w1 w.heap.size 27 (ordC o m).toArray := by rw [← hw1]; exact Blk.new _ _ _
  have HB1 := Lib.hid hb1
  have HX1 := Lib.hid hx1
  have HT := Lib.hid T
  have KW := Lib.hid (awake_walk w1 (T.keep hb1))
  have KN := Lib.hid (fun W (hb : Below w.heap.size w W) => cnew_walk W (T.keep hb) o m (ho.up hb) fit)
  rw [show (Value.agg (ordC o m).toArray) = .agg #[.string (bs o.name), .bool o.frm.nul, .string (bs o.frm.loc), .string (bs o.frm.dom), .bool o.frm.lit, .slice m.Ar o.rcpts.length m.cr, .slice m.Ad o.data.length m.cd] from rfl]
  have ev : o.frm.val = .agg #[.bool o.frm.nul, .string (bs o.frm.loc), .string (bs o.frm.dom), .bool o.frm.lit] := rfl
  rw [ev] at KN
  have H1 := Lib.hid h1
  have HDL := Lib.hid (Nat.le_trans ho.ld fit.cd)
  clear h1
  clear T hb1 hx1 ev ho
  go_enter Tryz.func6, Tryz.ntmps6
  go_wp2_with fail
  refine KW.out.mono ?_
  rintro e w2 ⟨hb2, rfl⟩
  have HB2 := Lib.hid (HB1.out.trans (hb2.mono HB1.out.size))
  have HX2 := Lib.hid (HX1.out.keep hb2)
  have H12 := Lib.hid (H1.out.up HB2.out)
  have HW1 : Hid (w.heap.size < w2.heap.size) := Lib.hid HX2.out.lt
  obtain ⟨x0, x1, x2, x3, x4, x5, x6⟩ := ord_box HX2.out
  clear hb2 KW HX1 hw1
  go_wp2_with fail
  refine (KN.out w2 HB2.out).mono ?_
  rintro e w3 ⟨hb3, ⟨hok, cb, pb, bb, q, rfl, hC, hbk, hlw⟩ | ⟨hno, rfl⟩⟩
  case inr =>
    have HB3 := Lib.hid (HB2.out.trans (hb3.mono HB2.out.size))
    clear hb3 hno x0 x1 x2 x3 x4 x5 x6 KN
    go_wp2_with fail
    go_ret
    exact ⟨HB3.out, rfl⟩
  case inl =>
    have HI0 : Hid (DcI w2 w3 w3 w2.heap.size cb pb bb (newM o) q (.slice none 0 0) none [] 0) := Lib.hid ⟨hC, hC.cl.blk.lt, hC.cl.ppl.lt, hC.cl.bl, OwnX.nil _ none, (fun k e => by cases e), (fun k e => by cases e), hb3, Nat.le_refl _, Nat.le_refl _, fun p hp => .inl (by
        obtain ⟨p0, -, rfl⟩ := List.mem_map.1 (show p ∈ o.rcpts.map persM from hp)
        exact ⟨rfl, rfl, rfl⟩), .inr rfl, Nat.zero_le _, (fun r hr => by cases hr), Nat.le_refl 0⟩
    have HOK := Lib.hid hok
    have HPN : Hid ((newM o).ppl.length = o.rcpts.length) := Lib.hid (List.length_map ..)
    have HX0 : Hid (∃ d q g Sd, DcI w2 w3 w3 w2.heap.size cb pb bb d q (.slice none 0 0) g Sd 0 ∧ d.ppl.length = o.rcpts.length) := Lib.hid ⟨_, _, _, _, HI0.out, HPN.out⟩
    obtain ⟨K, hK⟩ : ∃ K, min R.length 100 = K := ⟨_, rfl⟩
    have HKK := Lib.hid hK
    clear x0 x1 x2 x3 x4 x5 x6 KN hb3 hC hok hbk hlw hK HI0
    go_wp2_with fail
    go_loopg [8, 9, 10, 11, 12] K (fun k sv i s10 s11 s12 wr => ∃ j : Nat, i = .int .i64 (j : Int) ∧ j + k = K ∧ Hid (∃ d q g Sd, DcI w2 w3 wr w2.heap.size cb pb bb d q sv g Sd j ∧ d.ppl.length = o.rcpts.length))
    case atStart => exact ⟨0, rfl, by omega, HX0⟩
    case round =>
      obtain ⟨j, rfl, hj, HI⟩ := hrel
      obtain ⟨d, q6, g, Sd, hi, hpn⟩ := HI.out
      have HI6 := Lib.hid hi
      have HPD := Lib.hid hpn
      obtain ⟨As, ns, cs, rfl, -⟩ := hi.row.sl
      clear HI HX0 hi hpn
      have HKJ := HKK.out
      have HJ := Lib.hid hj
      by_cases hlt : j < K
      · have hj1 : (j : Int) < (R.length : Int) := by omega
        have hj2 : (j : Int) < 100 := by omega
        have hj0 : (0 : Int) ≤ (j : Int) := by omega
        have HLT := Lib.hid hlt
        have HJ100 : Hid (j < 100) := Lib.hid (by omega)
        obtain ⟨r, hr⟩ : ∃ r, R[j]? = some r := ⟨_, List.getElem?_eq_getElem (by omega)⟩
        obtain ⟨b, off, hA, HC⟩ : ∃ b off, A1 = some ⟨b, off, none⟩ ∧ Hid (∀ W, Below w2.heap.size w2 W → W.cell? ⟨b, off + j * 2, none⟩ = some (.int .i64 r.c) ∧ W.cell? ⟨b, off + j * 2 + 1, none⟩ = some (.slice r.A r.L.length r.cp) ∧ RpR w2 w2.heap.size r) := by
          rcases H12.out with h | ⟨b, off, e, hlt', hc⟩
          · rw [h] at hr; simp at hr
          · refine ⟨b, off, e, Lib.hid fun W hW => ?_⟩
            obtain ⟨q1, q2, q3⟩ := hc j r hr
            exact ⟨(hW.cell (show b < w2.heap.size from hlt')).trans q1, (hW.cell (show b < w2.heap.size from hlt')).trans q2, q3⟩
        subst hA
        obtain ⟨z0, z1, hrr⟩ := HC.out wr HI6.out.bel
        have hru := hrr.up HI6.out.bel
        have KP := Lib.hid (rprint_walk r.c r.A r.L r.cp wr hru.rs (Nat.le_trans hru.hl hru.hc) hru.hs)
        have HRR := Lib.hid hrr
        clear hr hrr hru hlt HKJ hj
        go_wp2_with fail
        refine KP.out.mono ?_
        rintro e w6 ⟨hb6, v6, rfl, hO6⟩
        obtain ⟨A6, c6, rfl, -⟩ := hO6.out
        have HI7 := Lib.hid (HI6.out.same hb6)
        have HO6 := Lib.hid hO6
        have HZ6 := Lib.hid hb6.size
        clear hb6 hO6 KP z0 z1
        cases hrok : rightOk r.c r.L with
        | false =>
          have e1 : prtE r.c r.L = 141 := by unfold prtE; rw [hrok]; rfl
          rw [e1]
          clear hrok e1
          go_wp2_with fail
          go_roundg (gk - 1)
          case rel => exact ⟨j + 1, by go_num, by have := HJ.out; have := HLT.out; omega, Lib.hid ⟨d, q6, g, Sd, HI7.out.skip, HPD.out⟩⟩
          case measure => have := HJ.out; have := HLT.out; omega
        | true =>
          have e1 : prtE r.c r.L = 0 := by unfold prtE; rw [hrok]; rfl
          rw [e1]
          have HROK := Lib.hid hrok
          have KO := Lib.hid (over_law HI7.out.cli)
          have HTB : Hid (∀ W, Below w2.heap.size w2 W → ∀ x, Below w2.heap.size W x → TabC x) := Lib.hid fun W hW x hx => HT.out.keep (HB2.out.trans ((hW.trans hx).mono HB2.out.size))
          have hcb : cb < wr.heap.size := HI6.out.cli.cl.blk.lt
          have HNB : Hid ((prtB r.c r.L = [] ∨ ∀ a, A6 = some a → a.block ≠ cb)) := Lib.hid (.inr fun a ha => by
            have := World.ownsRow.lt HO6.out a.block (by rw [ha]; rfl)
            omega)
          have HPL : Hid ((prtB r.c r.L).length ≤ 26000) := Lib.hid (prtB_le _ _)
          by_cases h8 : d.stage = 8
          · have e8 : decide (d.stage = 8) = true := decide_eq_true h8
            rw [e8] at KO
            have KF := Lib.hid (feed_law HI7.out.cli (HTB.out w6 HI7.out.bel) A6 (prtB r.c r.L) (prtB r.c r.L).length c6 rfl (by obtain ⟨_, _, e, -, -, h⟩ := HO6.out.out; injection e with e1; subst e1; exact h) HNB.out (by have := HI7.out.ll; have := HPL.out; omega))
            have HFE := Lib.hid (fun w' q' => DcI.fed (w' := w') (q' := q') HI7.out HROK.out (fun h => absurd h8 h))
            have HPF : Hid ((feedC d (prtB r.c r.L)).ppl.length = o.rcpts.length) := Lib.hid ((feedC_pl _ _).trans HPD.out)
            clear hrok e1 e8 h8 hcb
            go_wp2_with fail
            refine KO.out.mono ?_
            rintro e w7 ⟨rfl, rfl⟩
            clear KO
            go_wp2_with fail
            refine KF.out.mono ?_
            rintro e w8 ⟨v8, q8, rfl, hC8, -, hlw8, hov8, hS8⟩
            have HN := Lib.hid (HFE.out w8 q8 hC8 hlw8 hov8 hS8)
            clear hC8 hlw8 hov8 hS8 KF HFE
            go_wp2_with fail
            go_roundg (gk - 1)
            case rel => exact ⟨j + 1, by go_num, by have := HJ.out; have := HLT.out; omega, Lib.hid ⟨_, _, g, Sd, HN.out.skip, HPF.out⟩⟩
            case measure => have := HJ.out; have := HLT.out; omega
          · have e8 : decide (d.stage = 8) = false := decide_eq_false h8
            rw [e8] at KO
            obtain ⟨y0, y1, -⟩ := HC.out w6 HI7.out.bel
            have HA7 : Hid (OwnX 2 (w6.alloc (.cells #[.int .i64 r.c, .slice r.A r.L.length r.cp] 57)) g (.slice As ns cs) (saidV Sd)) := Lib.hid (HI7.out.row.same (by simp) (fun k hk => Below.heap_alloc _ _ k (HI7.out.row.lt hk)))
            have HB7 := Lib.hid ((Below.refl w6.heap.size w6).alloc (Nat.le_refl _) (.cells #[.int .i64 r.c, .slice r.A r.L.length r.cp] 57))
            have HI8 := Lib.hid (HI7.out.same HB7.out)
            have HCN := Lib.hid HI7.out.cnt
            have HSL : Hid ((saidV Sd).length = Sd.length * 2) := Lib.hid (flat_len rpV 2 (fun _ => rfl) Sd)
            have H8 := Lib.hid h8
            have HO7 := Lib.hid (HO6.out.alloc (.cells #[.int .i64 r.c, .slice r.A r.L.length r.cp] 57))
            have HGL : Hid (∀ k, g = some k → k < wr.heap.size) := Lib.hid fun k hk => HI6.out.row.lt hk
            clear hrok e1 e8 h8 hcb
            go_wp2_with fail
            refine KO.out.mono ?_
            rintro e w7 ⟨rfl, rfl⟩
            clear KO
            go_wp2_with (at_builtin; refine wpList_appX _ uxRp (.tmp 69) (.tmp 74) rfl rfl rfl HA7.out (some ⟨w6.heap.size, 0, none⟩) 1 1 rfl [.int .i64 r.c, .slice r.A r.L.length r.cp] rfl (fun h => by cases h) (newsR w6 57 [.int .i64 r.c, .slice r.A r.L.length r.cp]) (rpV_one r) (by have := HSL.out; have := HCN.out; have := HJ100.out; omega) ?_; intro v8 g8 w8 hX8 hG8 ho8; obtain ⟨A8, n8, c8, rfl, -⟩ := hX8.sl; have HI9 := Lib.hid (HI8.out.push (r := r) hX8 hG8 ho8 HRR.out HROK.out); have HO8 := Lib.hid (OwnB.same HO7.out (fun k hk => hG8.block k (HO7.out.lt_ hk) (fun e => by have h1 := HGL.out k e.symm; have h2 := (World.ownsRow.lt HO6.out k hk).1; omega))); clear hX8 hG8 ho8)
            have KF := Lib.hid (feed_law HI9.out.cli (HTB.out w8 HI9.out.bel) A6 (prtB r.c r.L) (prtB r.c r.L).length c6 rfl (by obtain ⟨_, _, e, -, -, h⟩ := HO8.out.out; injection e with e1; subst e1; exact h) HNB.out (by have := HI9.out.ll; have := HPL.out; omega))
            have HFE := Lib.hid (fun w' q' => DcI.fed (w' := w') (q' := q') HI9.out HROK.out (fun _ => by unfold sOf; simp))
            have HPF : Hid ((feedC d (prtB r.c r.L)).ppl.length = o.rcpts.length) := Lib.hid ((feedC_pl _ _).trans HPD.out)
            clear HI8 HA7 HO7 HB7
            refine KF.out.mono ?_
            rintro e w9 ⟨v9, q9, rfl, hC9, -, hlw9, hov9, hS9⟩
            have HN := Lib.hid (HFE.out w9 q9 hC9 hlw9 hov9 hS9)
            clear hC9 hlw9 hov9 hS9 KF HFE
            go_wp2_with fail
            go_roundg (gk - 1)
            case rel => exact ⟨j + 1, by go_num, by have := HJ.out; have := HLT.out; omega, Lib.hid ⟨_, _, g8, Sd ++ [r], HN.out, HPF.out⟩⟩
            case measure => have := HJ.out; have := HLT.out; omega
      · obtain rfl : j = K := by omega
        have hjx : ¬ ((j : Int) < (R.length : Int)) ∨ ((j : Int) < (R.length : Int) ∧ ¬ (j : Int) < 100) := by omega
        have KL := Lib.hid (lost_law HI6.out.cli)
        have HJM : Hid (j ≤ 100) := Lib.hid (by omega)
        clear hlt HKJ hj HKK
        rcases hjx with h1 | ⟨h1, h2⟩
        all_goals
          go_wp2_with fail
          refine KL.out.mono ?_
          rintro e w7 ⟨rfl, hC7, hO7⟩
          have HB7 := Lib.hid (HI6.out.bel.trans (hO7.to_below HI6.out.cli.cl.blk.lt hC7.cB))
          have HS7 := Lib.hid (HI6.out.row.only hO7 (fun k hk e => by have := HI6.out.gB k hk; have := HI6.out.cbl; omega))
          have KR7 := Lib.hid (results_law hC7)
          clear hC7 hO7 KL
          go_wp2_with fail
          refine KR7.out.mono ?_
          rintro e w8 ⟨hb8, g8, v8, rfl, hX8, -⟩
          obtain ⟨A8, n8, c8, rfl, -⟩ := hX8.sl
          obtain ⟨hn8, rr8⟩ := hX8.rr3
          have hTl : (((lostC d).ppl).map toldP).length = o.rcpts.length := by rw [List.length_map]; exact HPD.out
          have HCHK : Hid (∀ x ∈ ((lostC d).ppl).map toldP, ChkR (sOf Sd) x) := Lib.hid fun x hx => by
            obtain ⟨p0, h0, rfl⟩ := List.mem_map.1 hx
            exact (HI6.out.ds p0 h0).told
          generalize ((lostC d).ppl).map toldP = T at *
          obtain rfl : n8 = o.rcpts.length := hn8.trans hTl
          have HTL := Lib.hid hTl
          have HR8 := Lib.hid rr8
          have HB8 := Lib.hid (HB7.out.trans (hb8.mono HB7.out.size))
          have HS8 := Lib.hid (HS7.out.same hb8.size (fun k hk => hb8.block k (HS7.out.lt hk)))
          have x5 : w8.cell? ⟨w.heap.size, 5, none⟩ = some (.slice m.Ar o.rcpts.length m.cr) := (HB8.out.cell (show w.heap.size < w2.heap.size from HW1.out)).trans (ord_box HX2.out).2.2.2.2.2.1
          have HREP := Lib.hid HI6.out.rep
          have HO50 : Hid (o.rcpts.length ≤ 50) := Lib.hid HOK.out.2.2.1
          have HCNT : Hid (Sd.length ≤ 100) := Lib.hid (Nat.le_trans HI6.out.cnt HJM.out)
          obtain ⟨hns, hnsr⟩ : ns = Sd.length ∧ (Sd = [] ∨ ∃ b off, As = some ⟨b, off, none⟩ ∧ ∀ i r, Sd[i]? = some r → w8.cell? ⟨b, off + i * 2, none⟩ = some (.int .i64 r.c) ∧ w8.cell? ⟨b, off + i * 2 + 1, none⟩ = some (.slice r.A r.L.length r.cp)) := by
            obtain ⟨e1, e2, e3⟩ := HS8.out.form
            have hsl : (saidV Sd).length = Sd.length * 2 := flat_len rpV 2 (fun _ => rfl) Sd
            rw [hsl] at e1
            have hn : ns = Sd.length := by omega
            refine ⟨hn, ?_⟩
            rcases Nat.eq_zero_or_pos Sd.length with h0 | h0
            · exact .inl (List.eq_nil_of_length_eq_zero h0)
            · obtain ⟨b, off, -, e4, -, hc, -⟩ := HS8.out.at_ (by omega)
              refine .inr ⟨b, off, e4, fun i r hi => ?_⟩
              have q0 := flat_at rpV 2 (fun _ => rfl) hi (k := 0) rfl
              have q1 := flat_at rpV 2 (fun _ => rfl) hi (k := 1) rfl
              have l0 := (List.getElem?_eq_some_iff.1 q0).1
              have l1 := (List.getElem?_eq_some_iff.1 q1).1
              exact ⟨by have := hc _ l0; rw [Nat.add_zero] at this; rw [this, ← Nat.add_zero (i * 2)]; exact q0, by have := hc _ l1; rw [Nat.add_assoc, this]; exact q1⟩
          subst hns
          have HSR := Lib.hid hnsr
          clear hn8 hTl rr8 hb8 hX8 hnsr KR7 HS7 HB7 HS8 HI6
          go_wp2_with fail
          obtain ⟨w0, hw0⟩ : ∃ w0, wr = w0 := ⟨_, rfl⟩
          subst hw0
          clear x5 h1
          go_loopg [14, 15, 16, 17, 18] o.rcpts.length (fun k i s15 s16 s17 s18 wr => ∃ t : Nat, i = .int .i64 (t : Int) ∧ t + k = o.rcpts.length ∧ Hid (Below w8.heap.size w8 wr))
          case atStart => exact ⟨0, rfl, by omega, Lib.hid (Below.refl _ _)⟩
          case round =>
            obtain ⟨t, rfl, ht, HBT⟩ := hrel
            have hO50 := HO50.out
            by_cases hlt : t < o.rcpts.length
            · have ht1 : (t : Int) < (o.rcpts.length : Int) := by omega
              have ht0 : (0 : Int) ≤ (t : Int) := by omega
              obtain ⟨x, hx⟩ : ∃ x, T[t]? = some x := ⟨_, List.getElem?_eq_getElem (by rw [HTL.out]; exact hlt)⟩
              rcases HR8.out with h | ⟨b8, o8, rfl, hc8⟩
              · rw [h] at hx; simp at hx
              have hbl : b8 < w8.heap.size := World.block_lt_of_cell? _ _ (hc8 t x hx 0 _ rfl)
              have c0 : wr.cell? ⟨b8, o8 + t * 3, none⟩ = some (.int .i64 (x.st : Int)) := (HBT.out.cell (show b8 < w8.heap.size from hbl)).trans (hc8 t x hx 0 _ rfl)
              have c1' : wr.cell? ⟨b8, o8 + t * 3 + 1, none⟩ = some (.int .i64 x.code) := (HBT.out.cell (show b8 < w8.heap.size from hbl)).trans (hc8 t x hx 1 _ rfl)
              have c2 : wr.cell? ⟨b8, o8 + t * 3 + 2, none⟩ = some (.string (bs x.text)) := (HBT.out.cell (show b8 < w8.heap.size from hbl)).trans (hc8 t x hx 2 _ rfl)
              have hck := HCHK.out x (List.mem_of_getElem? hx)
              obtain ⟨st, code, text⟩ := x
              simp only at c0 c1' c2
              have HTJ := Lib.hid ht
              have HLT := Lib.hid hlt
              have HB9 : Hid (Below w8.heap.size w8 (wr.alloc (.cells #[.int .i64 (st : Int), .int .i64 code, .string (bs text)] 59))) := Lib.hid (HBT.out.alloc HBT.out.size _)
              have KC := Lib.hid (rclass_walk code)
              clear hx hc8 hbl ht hlt
              go_upto_region 25 with fail
              obtain ⟨w9, hw9⟩ : ∃ w9, wr.alloc (.cells #[.int .i64 (st : Int), .int .i64 code, .string (bs text)] 59) = w9 := ⟨_, rfl⟩
              have hbk : Blk w9 wr.heap.size 59 #[.int .i64 (st : Int), .int .i64 code, .string (bs text)] := by rw [← hw9]; exact Blk.new _ _ _
              rw [hw9] at HB9
              rw [hw9]
              have HBK := Lib.hid hbk
              have y0 : w9.cell? ⟨wr.heap.size, 0, none⟩ = some (.int .i64 (st : Int)) := hbk.cell 0
              have y1 : w9.cell? ⟨wr.heap.size, 1, none⟩ = some (.int .i64 code) := hbk.cell 1
              have y2 : w9.cell? ⟨wr.heap.size, 2, none⟩ = some (.string (bs text)) := hbk.cell 2
              clear hw9 hbk c0 c1' c2
              generalize wr.heap.size = bx at *
              go_wp2_with fail
              refine (KC.out _).mono ?_
              rintro e w10 ⟨rfl, rfl⟩
              clear KC
              rcases hck with ⟨q1, q2, q3⟩ | ⟨q1, q2, q3⟩
              · simp only at q1 q2 q3
                subst q1
                subst q2
                subst q3
                have y2' : w9.cell? ⟨bx, 2, none⟩ = some (.string ⟨#[]⟩) := y2
                clear y2
                go_wp2_with fail
                go_roundg (gk - 1)
                case rel => exact ⟨t + 1, by go_num, by have := HTJ.out; have := HLT.out; omega, HB9⟩
                case measure => have := HTJ.out; have := HLT.out; omega
              · simp only at q1 q2 q3
                have hcn : (code == 0) = false := beq_eq_false_iff_ne.2 q1
                have HMEM := Lib.hid q3
                have hcase : (st = 2 ∧ classP code = 2) ∨ (st = 3 ∧ classP code = 5) ∨ (st = 1 ∧ classP code = 4) := by
                  rw [classP_nat]
                  unfold fits at q2
                  omega
                generalize classP code = cl at *
                clear q1 q2 q3
                rcases hcase with ⟨rfl, rfl⟩ | ⟨rfl, rfl⟩ | ⟨rfl, rfl⟩
                all_goals
                  go_wp2_with fail
                  go_loopg [17, 18] Sd.length (fun k hs u wi => ∃ (v : Nat) (D : Bool), u = .int .i64 (v : Int) ∧ hs = .bool D ∧ v + k = Sd.length ∧ Hid (D = decide ((code, text) ∈ (sOf Sd).take v)) ∧ Hid (Below w9.heap.size w9 wi))
                  case atStart => exact ⟨0, false, rfl, rfl, by omega, Lib.hid (by simp), Lib.hid (Below.refl _ _)⟩
                  case round =>
                    obtain ⟨v, D, rfl, rfl, hv, HD, HBI⟩ := hrel
                    have hC100 := HCNT.out
                    by_cases hvl : v < Sd.length
                    · have hv1 : (v : Int) < (Sd.length : Int) := by omega
                      have hv0 : (0 : Int) ≤ (v : Int) := by omega
                      obtain ⟨r, hr⟩ : ∃ r, Sd[v]? = some r := ⟨_, List.getElem?_eq_getElem hvl⟩
                      rcases HSR.out with h | ⟨b5, o5, rfl, hcs⟩
                      · rw [h] at hr; simp at hr
                      obtain ⟨hrr, hrok⟩ := HREP.out r (List.mem_of_getElem? hr)
                      have hL1 : 0 < r.L.length := by obtain ⟨q1, q2, q3, q4⟩ := rightOk_parts hrok; omega
                      obtain ⟨b7, o7, hA7, hb7, hc7⟩ := hrr.rs.at_ hL1
                      have hB8w := HB9.out.trans (HBI.out.mono HB9.out.size)
                      have hB2w := HB8.out.trans (hB8w.mono HB8.out.size)
                      obtain ⟨s0, s1⟩ := hcs v r hr
                      have hb5 : b5 < w8.heap.size := World.block_lt_of_cell? _ _ s0
                      have e0 := (hB8w.cell (show b5 < w8.heap.size from hb5)).trans s0
                      have e1 := (hB8w.cell (show b5 < w8.heap.size from hb5)).trans s1
                      have hst : st r.L 0 = bs (firstT r.L) := by
                        rw [st_getElem hL1]
                        unfold firstT
                        rw [List.getElem?_eq_getElem hL1]
                        exact bs_of_ _
                      have e2 := (hB2w.cell (show b7 < w2.heap.size from hb7)).trans (hc7 0 hL1)
                      rw [hst, Nat.add_zero] at e2
                      rw [hA7] at e1
                      have z1 := (HBI.out.cell (show bx < w9.heap.size from HBK.out.lt) (p := ⟨bx, 1, none⟩)).trans y1
                      have z2 := (HBI.out.cell (show bx < w9.heap.size from HBK.out.lt) (p := ⟨bx, 2, none⟩)).trans y2
                      have hL1i : (0 : Int) < (r.L.length : Int) := by omega
                      have HTK : Hid ((sOf Sd).take (v + 1) = (sOf Sd).take v ++ [(r.c, firstT r.L)]) := Lib.hid (by
                        have : (sOf Sd)[v]? = some (r.c, firstT r.L) := by unfold sOf; rw [List.getElem?_map, hr]; rfl
                        rw [List.take_add_one, this]; rfl)
                      have HV := Lib.hid hv
                      have HVL := Lib.hid hvl
                      have HRB := Lib.hid (fun n => HBI.out.trans ((bdrewN (Below.refl _ _) n).mono HBI.out.size))
                      generalize firstT r.L = rt at *
                      generalize r.L.length = rn at *
                      generalize r.c = rc at *
                      generalize r.cp = rp at *
                      clear hr hcs hrr hrok hL1 hA7 hb7 hc7 hB8w hB2w s0 s1 hb5 hst hv hvl HBI
                      by_cases hc : rc = code
                      · subst hc
                        by_cases ht : rt = text
                        · subst ht
                          go_upto_region 35 with fail
                          go_quiet (fail)
                          go_wp2_with fail
                          go_roundg (gk - 1)
                          case rel => exact ⟨v + 1, true, by go_num, rfl, by have := HV.out; have := HVL.out; omega, Lib.hid (by rw [HTK.out]; simp), Lib.hid (HRB.out nq)⟩
                          case measure => have := HV.out; have := HVL.out; omega
                        · have hne : ((bs rt).toList == (bs text).toList) = false := by rw [bs_eqB]; exact decide_eq_false ht
                          have HNT := Lib.hid ht
                          clear ht
                          go_upto_region 35 with fail
                          go_quiet (fail)
                          go_wp2_with fail
                          go_roundg (gk - 1)
                          case rel => exact ⟨v + 1, D, by go_num, rfl, by have := HV.out; have := HVL.out; omega, Lib.hid (by rw [HTK.out, HD.out]; exact decide_eq_decide.2 (by rw [List.mem_append, List.mem_singleton]; constructor; exact fun h => .inl h; rintro (h | h); exact h; injection h with h1 h2; exact absurd h2.symm HNT.out)), Lib.hid (HRB.out nq)⟩
                          case measure => have := HV.out; have := HVL.out; omega
                      · have hnc : (rc == code) = false := beq_eq_false_iff_ne.2 hc
                        have HNC := Lib.hid hc
                        clear hc
                        go_upto_region 35 with fail
                        go_quiet (fail)
                        go_wp2_with fail
                        go_roundg (gk - 1)
                        case rel => exact ⟨v + 1, D, by go_num, rfl, by have := HV.out; have := HVL.out; omega, Lib.hid (by rw [HTK.out, HD.out]; exact decide_eq_decide.2 (by rw [List.mem_append, List.mem_singleton]; constructor; exact fun h => .inl h; rintro (h | h); exact h; injection h with h1 h2; exact absurd h1.symm HNC.out)), Lib.hid (HRB.out nq)⟩
                        case measure => have := HV.out; have := HVL.out; omega
                    · have hv1 : ¬ (v : Int) < (Sd.length : Int) := by omega
                      obtain rfl : v = Sd.length := by omega
                      have hDt : D = true := by
                        rw [HD.out]
                        have : (sOf Sd).take Sd.length = sOf Sd := List.take_of_length_le (by unfold sOf; rw [List.length_map]; exact Nat.le_refl _)
                        rw [this]
                        exact decide_eq_true HMEM.out
                      subst hDt
                      have HBX := Lib.hid (HB9.out.trans (HBI.out.mono HB9.out.size))
                      clear hvl hv HD HBI
                      go_wp2_with fail
                      go_roundg (o.rcpts.length - (t + 1))
                      case rel => exact ⟨t + 1, by go_num, by have := HTJ.out; have := HLT.out; omega, HBX⟩
                      case measure => have := HTJ.out; have := HLT.out; omega
            · have ht1 : ¬ (t : Int) < (o.rcpts.length : Int) := by omega
              have HBF := Lib.hid (HB2.out.trans ((HB8.out.trans (HBT.out.mono HB8.out.size)).mono HB2.out.size))
              clear hlt ht
              go_wp2_with fail
              go_ret
              exact ⟨HBF.out, rfl⟩
end Go.Proofs.YtjnjnccfojfghaaGreatDoor
