/-
  Several texts in one: ScLaw2. Conditions: each part names its own.
-/
import Derived.Test.YtjnjnccfojfghaaGreatDoorMg30
set_option linter.unusedSimpArgs false
/-! The walk of SmtpcSilent. Conditions: the lengths, what the library's variables hold. -/
namespace Go.Proofs.YtjnjnccfojfghaaGreatDoor
open Go.RowKit
set_option linter.unusedVariables false
theorem tickS300 (st idle : Nat) (n : Int) (h : 300 ≤ n) : tickS st idle n = 8 := by
  have e : tickI idle n = 300 := by
    unfold tickI
    rw [if_neg (by omega)]
    omega
  unfold tickS
  rw [if_neg (by omega), if_pos (by omega)]
set_option maxRecDepth 100000 in
set_option maxHeartbeats 8000000 in
theorem silent_lawW (w : World) (T : TabC w) (o : OrdM) (m : OrdV) (ho : OrdR w w.heap.size o m) (fit : o.Fit m 1048576) (A1 : Option Addr) (l1 : Tx) (c1 : Nat) (h1 : RB w w.heap.size A1 l1) (hl1 : l1.length ≤ 1048576) (n : Int) :
    Calls Tryz.prog 9 #[.agg (ordC o m).toArray, .slice A1 l1.length c1, .int .i64 n] w fun e w' => Below w.heap.size w w' ∧ e = .returned (.bool true) := by
  obtain ⟨w1, hw1⟩ : ∃ w1, w.alloc (.cells #[.string (bs o.name), .bool o.frm.nul, .string (bs o.frm.loc), .string (bs o.frm.dom), .bool o.frm.lit, .slice m.Ar o.rcpts.length m.cr, .slice m.Ad o.data.length m.cd] 27) = w1 := ⟨_, rfl⟩
  have hb1 : Below w.heap.size w w1 := by rw [← hw1]; exact (Below.refl _ _).alloc (Nat.le_refl _) _
  have hx1 : Blk w1 w.heap.size 27 (ordC o m).toArray := by rw [← hw1]; exact Blk.new _ _ _
  have HB1 := Lib.hid hb1
  have HX1 := Lib.hid hx1
  have HT := Lib.hid T
  have KW := Lib.hid (awake_walk w1 (T.keep hb1))
  have KN := Lib.hid (fun W (hb : Below w.heap.size w W) => cnew_walk W (T.keep hb) o m (ho.up hb) fit)
  rw [show (Value.agg (ordC o m).toArray) = .agg #[.string (bs o.name), .bool o.frm.nul, .string (bs o.frm.loc), .string (bs o.frm.dom), .bool o.frm.lit, .slice m.Ar o.rcpts.length m.cr, .slice m.Ad o.data.length m.cd] from rfl]
  have ev : o.frm.val = .agg #[.bool o.frm.nul, .string (bs o.frm.loc), .string (bs o.frm.dom), .bool o.frm.lit] := rfl
  rw [ev] at KN
  have H1 := Lib.hid h1
  clear h1
  clear T hb1 hx1 ev ho
  go_enter Tryz.func9, Tryz.ntmps9
  go_wp2_with fail
  refine KW.out.mono ?_
  rintro e w2 ⟨hb2, rfl⟩
  have HB2 := Lib.hid (HB1.out.trans (hb2.mono HB1.out.size))
  obtain ⟨x0, x1, x2, x3, x4, x5, x6⟩ := ord_box (HX1.out.keep hb2)
  clear hb2 KW HX1 hw1
  go_wp2_with fail
  refine (KN.out w2 HB2.out).mono ?_
  rintro e w3 ⟨hb3, ⟨hok, cb, pb, bb, q, rfl, hC, hbk⟩ | ⟨hno, rfl⟩⟩
  case inr =>
    have HB3 := Lib.hid (HB2.out.trans (hb3.mono HB2.out.size))
    clear hb3 hno x0 x1 x2 x3 x4 x5 x6 KN
    go_wp2_with fail
    go_ret
    exact ⟨HB3.out, rfl⟩
  case inl =>
    have HB3 := Lib.hid (HB2.out.trans (hb3.mono HB2.out.size))
    have HTB : Hid (∀ x, Below w2.heap.size w3 x → TabC x) := Lib.hid fun x hx => HT.out.keep (HB3.out.trans (hx.mono HB2.out.size))
    have HCC := Lib.hid hC
    have hcw : w.heap.size ≤ cb := Nat.le_trans HB2.out.size hC.cB
    have HCW := Lib.hid hcw
    have HOK := Lib.hid hok
    clear x0 x1 x2 x3 x4 x5 x6 KN hb3 hC hok hbk hcw
    have KF := Lib.hid (feed_law HCC.out HTB.out A1 l1 l1.length c1 rfl ((H1.out.below HB3.out).mono HB3.out.size) (H1.out.apart HCW.out) (by show 0 + l1.length ≤ _; omega))
    go_wp2_with fail
    refine KF.out.mono ?_
    rintro e w4 ⟨v4, q4, rfl, hC4, -, -, -, hS4⟩
    have HB4 := Lib.hid (FeedL.below HCC.out hS4)
    have HC4 := Lib.hid hC4
    have KR4 := Lib.hid (results_law hC4)
    generalize feedC (newM o) l1 = d at *
    clear KF hC4 hS4 HCC
    go_wp2_with fail
    refine KR4.out.mono ?_
    rintro e w6 ⟨hb6, g6, v6, rfl, hX6, hg6⟩
    obtain ⟨A6, n6, c6, rfl, -⟩ := hX6.sl
    have HC6 := Lib.hid (HC4.out.same hb6)
    have HB6 := Lib.hid (HB4.out.trans (hb6.mono (Nat.le_of_lt HC4.out.lt)))
    have HX6 := Lib.hid hX6
    have HG6 : Hid (∀ k, g6 = some k → k ≠ cb) := Lib.hid fun k hk e => by have := hg6 k hk; have := HC4.out.cl.blk.lt; omega
    have HCL6 := Lib.hid HC6.out.cl.blk.lt
    clear hb6 hX6 hg6 KR4
    have hcase : (n > 0 ∧ ¬ n < 300) ∨ (n > 0 ∧ n < 300) ∨ ¬ n > 0 := by omega
    rcases hcase with ⟨h0, h3⟩ | ⟨h0, h3⟩ | h0
    · have KT6 := Lib.hid (tick_law HC6.out n)
      go_wp2_with fail
      refine KT6.out.mono ?_
      rintro e w7 ⟨rfl, hC7, hO7⟩
      have HB7 := Lib.hid (HB6.out.trans (hO7.to_below HCL6.out hC7.cB))
      have HC7 := Lib.hid hC7
      have HX7 := Lib.hid (HX6.out.only hO7 HG6.out)
      have KR7 := Lib.hid (results_law hC7)
      clear KT6 hC7 hO7 HX6
      go_wp2_with fail
      refine KR7.out.mono ?_
      rintro e w8 ⟨hb8, g8, v8, rfl, hX8, hg8⟩
      obtain ⟨A8, n8, c8, rfl, -⟩ := hX8.sl
      have HC8 := Lib.hid (HC7.out.same hb8)
      have HB8 := Lib.hid (HB7.out.trans (hb8.mono (Nat.le_of_lt HC7.out.lt)))
      have HX78 := Lib.hid (HX7.out.same hb8.size (fun k hk => hb8.block k (HX7.out.lt hk)))
      have KS := Lib.hid (sameR_walk w8 (d.ppl.map toldP) HX78.out hX8 (by rw [List.length_map]; have := HC4.out.ok.sz.n50; omega))
      clear hb8 hX8 hg8 KR7 HX7 HX78
      go_wp2_with fail
      refine KS.out.mono ?_
      rintro e w9 ⟨hb9, rfl⟩
      have HB9 := Lib.hid (HB8.out.trans (hb9.mono (Nat.le_of_lt HC8.out.lt)))
      have KO := Lib.hid (over_law (HC8.out.same hb9))
      have e8 : decide ((tickC d n).stage = 8) = true := decide_eq_true (show tickS d.stage d.idle n = 8 from tickS300 _ _ _ (by omega))
      rw [e8] at KO
      clear hb9 KS e8
      go_wp2_with fail
      refine KO.out.mono ?_
      rintro e w10 ⟨rfl, rfl⟩
      have HBF := Lib.hid (HB3.out.trans (HB9.out.mono HB2.out.size))
      go_wp2_with fail
      go_ret
      exact ⟨HBF.out, rfl⟩
    · have KT6 := Lib.hid (tick_law HC6.out n)
      go_wp2_with fail
      refine KT6.out.mono ?_
      rintro e w7 ⟨rfl, hC7, hO7⟩
      have HB7 := Lib.hid (HB6.out.trans (hO7.to_below HCL6.out hC7.cB))
      have HC7 := Lib.hid hC7
      have HX7 := Lib.hid (HX6.out.only hO7 HG6.out)
      have KR7 := Lib.hid (results_law hC7)
      clear KT6 hC7 hO7 HX6
      go_wp2_with fail
      refine KR7.out.mono ?_
      rintro e w8 ⟨hb8, g8, v8, rfl, hX8, hg8⟩
      obtain ⟨A8, n8, c8, rfl, -⟩ := hX8.sl
      have HC8 := Lib.hid (HC7.out.same hb8)
      have HB8 := Lib.hid (HB7.out.trans (hb8.mono (Nat.le_of_lt HC7.out.lt)))
      have HX78 := Lib.hid (HX7.out.same hb8.size (fun k hk => hb8.block k (HX7.out.lt hk)))
      have KS := Lib.hid (sameR_walk w8 (d.ppl.map toldP) HX78.out hX8 (by rw [List.length_map]; have := HC4.out.ok.sz.n50; omega))
      clear hb8 hX8 hg8 KR7 HX7 HX78
      go_wp2_with fail
      refine KS.out.mono ?_
      rintro e w9 ⟨hb9, rfl⟩
      have HB9 := Lib.hid (HB8.out.trans (hb9.mono (Nat.le_of_lt HC8.out.lt)))
      have KO := Lib.hid (over_law (HC8.out.same hb9))
      clear hb9 KS
      generalize decide ((tickC d n).stage = 8) = D at *
      go_wp2_with fail
      refine KO.out.mono ?_
      rintro e w10 ⟨rfl, rfl⟩
      have HBF := Lib.hid (HB3.out.trans (HB9.out.mono HB2.out.size))
      cases D
      all_goals
        go_wp2_with fail
        go_ret
        exact ⟨HBF.out, rfl⟩
    · have KT6 := Lib.hid (lost_law HC6.out)
      go_wp2_with fail
      refine KT6.out.mono ?_
      rintro e w7 ⟨rfl, hC7, hO7⟩
      have HB7 := Lib.hid (HB6.out.trans (hO7.to_below HCL6.out hC7.cB))
      have HC7 := Lib.hid hC7
      have HX7 := Lib.hid (HX6.out.only hO7 HG6.out)
      have KR7 := Lib.hid (results_law hC7)
      clear KT6 hC7 hO7 HX6
      go_wp2_with fail
      refine KR7.out.mono ?_
      rintro e w8 ⟨hb8, g8, v8, rfl, hX8, hg8⟩
      obtain ⟨A8, n8, c8, rfl, -⟩ := hX8.sl
      have HC8 := Lib.hid (HC7.out.same hb8)
      have HB8 := Lib.hid (HB7.out.trans (hb8.mono (Nat.le_of_lt HC7.out.lt)))
      have HX78 := Lib.hid (HX7.out.same hb8.size (fun k hk => hb8.block k (HX7.out.lt hk)))
      have KS := Lib.hid (sameR_walk w8 (d.ppl.map toldP) HX78.out hX8 (by rw [List.length_map]; have := HC4.out.ok.sz.n50; omega))
      clear hb8 hX8 hg8 KR7 HX7 HX78
      go_wp2_with fail
      refine KS.out.mono ?_
      rintro e w9 ⟨hb9, rfl⟩
      have HB9 := Lib.hid (HB8.out.trans (hb9.mono (Nat.le_of_lt HC8.out.lt)))
      have KO := Lib.hid (over_law (HC8.out.same hb9))
      have e8 : decide ((lostC d).stage = 8) = true := decide_eq_true (show (8 : Nat) = 8 from rfl)
      rw [e8] at KO
      clear hb9 KS e8
      go_wp2_with fail
      refine KO.out.mono ?_
      rintro e w10 ⟨rfl, rfl⟩
      have HBF := Lib.hid (HB3.out.trans (HB9.out.mono HB2.out.size))
      go_wp2_with fail
      go_ret
      exact ⟨HBF.out, rfl⟩
end Go.Proofs.YtjnjnccfojfghaaGreatDoor
