/-
  Several texts in one: ScSme, ScLaw, LaidErr, ScTbs. Conditions: each part names its own.
-/
import Derived.Test.YtjnjnccfojfghaaGreatDoorMg17
import Derived.Test.YtjnjnccfojfghaaGreatDoorMg29
import Derived.LaidLaws
import Derived.LaidSub
import Derived.Lib.LaidTab
import Derived.Test.YtjnjnccfojfghaaGreatDoorMg8
import Derived.Test.YtjnjnccfojfghaaGreatDoorMg19
import Derived.Lib.SmallJoins
set_option linter.unusedSimpArgs false
/-! The walk of waybillref20.SameResults on two rows of the same results. Condition: the lengths. -/
namespace Go.Proofs.YtjnjnccfojfghaaGreatDoor
open Go.RowKit
set_option linter.unusedVariables false
def RR3 (w : World) (A : Option Addr) (L : List Rslt) : Prop :=
  L = [] ∨ ∃ b off, A = some ⟨b, off, none⟩ ∧ ∀ i r, L[i]? = some r → ∀ k v, r.cells[k]? = some v → w.cell? ⟨b, off + i * 3 + k, none⟩ = some v
theorem OwnX.rr3 {w : World} {g : Option Nat} {A : Option Addr} {n c : Nat} {L : List Rslt} (h : OwnX 3 w g (.slice A n c) (resV L)) : n = L.length ∧ RR3 w A L := by
  obtain ⟨e1, e2, e3⟩ := h.form
  rw [resV_len] at e1
  have hn : n = L.length := by omega
  refine ⟨hn, ?_⟩
  rcases Nat.eq_zero_or_pos L.length with h0 | h0
  · exact .inl (List.eq_nil_of_length_eq_zero h0)
  · obtain ⟨b, off, -, rfl, -, hc, -⟩ := h.at_ (by omega)
    refine .inr ⟨b, off, rfl, fun i r hi k v hv => ?_⟩
    have h1 := resV_at hi hv
    have hl := (List.getElem?_eq_some_iff.1 h1).1
    rw [Nat.add_assoc, hc _ hl]
    exact h1
set_option maxRecDepth 4000 in
set_option maxHeartbeats 4000000 in
theorem sameR_walk (w : World) (L : List Rslt) {ga gb : Option Nat} {va vb : Value} (ha : OwnX 3 w ga va (resV L)) (hb : OwnX 3 w gb vb (resV L)) (hl : L.length ≤ 1000) :
    Calls Tryz.prog 18 #[va, vb] w fun e w' => Below w.heap.size w w' ∧ e = .returned (.bool true) := by
  obtain ⟨A, n, ca, rfl, -⟩ := ha.sl
  obtain ⟨C, n2, cb, rfl, -⟩ := hb.sl
  obtain ⟨rfl, ra⟩ := ha.rr3
  obtain ⟨rfl, rb⟩ := hb.rr3
  have HA := Lib.hid ra
  have HC := Lib.hid rb
  clear ha hb ra rb
  go_enter Tryz.func18, Tryz.ntmps18
  go_wp2_with fail
  go_loopg [5] L.length (fun k i wr => ∃ j d : Nat, i = .int .i64 (j : Int) ∧ j + k = L.length ∧ wr = w.drewN d)
  case atStart => exact ⟨0, 0, rfl, by omega, rfl⟩
  case round =>
    obtain ⟨j, d, rfl, hj, rfl⟩ := hrel
    by_cases hlt : j < L.length
    · have hj1 : (j : Int) < (L.length : Int) := by omega
      have hj0 : (0 : Int) ≤ (j : Int) := by omega
      obtain ⟨r, hr⟩ : ∃ r, L[j]? = some r := ⟨_, List.getElem?_eq_getElem hlt⟩
      rcases HA.out with h | ⟨b1, o1, rfl, h1⟩
      · rw [h] at hlt; simp at hlt
      rcases HC.out with h | ⟨b2, o2, rfl, h2⟩
      · rw [h] at hlt; simp at hlt
      have a0 : (w.drewN d).cell? ⟨b1, o1 + j * 3, none⟩ = some (.int .i64 (r.st : Int)) := h1 j r hr 0 _ rfl
      have a1 : (w.drewN d).cell? ⟨b1, o1 + j * 3 + 1, none⟩ = some (.int .i64 r.code) := h1 j r hr 1 _ rfl
      have a2 : (w.drewN d).cell? ⟨b1, o1 + j * 3 + 2, none⟩ = some (.string (bs r.text)) := h1 j r hr 2 _ rfl
      have c0 : (w.drewN d).cell? ⟨b2, o2 + j * 3, none⟩ = some (.int .i64 (r.st : Int)) := h2 j r hr 0 _ rfl
      have c1 : (w.drewN d).cell? ⟨b2, o2 + j * 3 + 1, none⟩ = some (.int .i64 r.code) := h2 j r hr 1 _ rfl
      have c2 : (w.drewN d).cell? ⟨b2, o2 + j * 3 + 2, none⟩ = some (.string (bs r.text)) := h2 j r hr 2 _ rfl
      have HJ := Lib.hid hj
      have HLT := Lib.hid hlt
      clear hj hlt h1 h2 hr
      go_upto_region 6 with fail
      obtain ⟨wd, hwd⟩ : ∃ wd, w.drewN d = wd := ⟨_, rfl⟩
      rw [hwd] at a0 a1 a2 c0 c1 c2 ⊢
      have HW := Lib.hid hwd
      clear hwd
      go_quiet (fail)
      go_wp2_with fail
      go_roundg (gk - 1)
      case rel => exact ⟨j + 1, d + nq, by go_num, by have := HJ.out; have := HLT.out; omega, by rw [← HW.out]; simp [World.drewN, Nat.add_assoc]⟩
      case measure => have := HJ.out; have := HLT.out; omega
    · have hj1 : ¬ (j : Int) < (L.length : Int) := by omega
      have HB := Lib.hid (bdrewN (Below.refl w.heap.size w) d)
      clear hlt hj
      go_wp2_with fail
      go_ret
      exact ⟨HB.out, rfl⟩
end Go.Proofs.YtjnjnccfojfghaaGreatDoor

/-! The beginning of the laws of smtpc: a client is there, or none. Conditions: the lengths, what the library's variables hold. -/
namespace Go.Proofs.YtjnjnccfojfghaaGreatDoor
open Go.RowKit
set_option linter.unusedVariables false
/-- an order in its box -/
theorem ord_box {w : World} {g : Nat} {o : OrdM} {m : OrdV} (h : Blk w g 27 (ordC o m).toArray) :
    w.cell? ⟨g, 0, none⟩ = some (.string (bs o.name)) ∧ w.cell? ⟨g, 1, none⟩ = some (.bool o.frm.nul) ∧ w.cell? ⟨g, 2, none⟩ = some (.string (bs o.frm.loc)) ∧ w.cell? ⟨g, 3, none⟩ = some (.string (bs o.frm.dom)) ∧ w.cell? ⟨g, 4, none⟩ = some (.bool o.frm.lit) ∧ w.cell? ⟨g, 5, none⟩ = some (.slice m.Ar o.rcpts.length m.cr) ∧ w.cell? ⟨g, 6, none⟩ = some (.slice m.Ad o.data.length m.cd) :=
  ⟨h.cell 0, h.cell 1, h.cell 2, h.cell 3, h.cell 4, h.cell 5, h.cell 6⟩
theorem RB.apart {w : World} {B : Nat} {A : Option Addr} {l : Tx} (h : RB w B A l) {cb : Nat} (hB : B ≤ cb) : l = [] ∨ ∀ a, A = some a → a.block ≠ cb := by
  rcases h with h | ⟨b, off, rfl, hlt, -⟩
  · exact .inl h
  · exact .inr fun a e => by cases e; show b ≠ cb; omega
theorem OrdR.up {w w' : World} {o : OrdM} {m : OrdV} (ho : OrdR w w.heap.size o m) (hb : Below w.heap.size w w') : OrdR w' w'.heap.size o m := by
  have h := ho.below hb
  refine ⟨?_, h.rd.mono hb.size, h.lr, h.mr, h.ld, h.md, h.nd⟩
  rcases h.rp with h | ⟨b, off, e, hlt, hc⟩
  · exact .inl h
  · exact .inr ⟨b, off, e, Nat.lt_of_lt_of_le hlt hb.size, hc⟩
theorem tickS8 (idle : Nat) (n : Int) : tickS 8 idle n = 8 := by
  unfold tickS
  split
  · rfl
  · split <;> rfl
theorem OwnX.only {sz : Nat} {w w' : World} {cb : Nat} {g : Option Nat} {v : Value} {xs : List Value} (h : OwnX sz w g v xs) (ho : Only cb w w') (hg : ∀ k, g = some k → k ≠ cb) : OwnX sz w' g v xs :=
  h.same ho.size fun k hk => ho.block k (h.lt hk) (fun e => hg k hk (by injection e))
theorem feedC_ppl_len (c : ClM) (h : COk c) (b : Tx) : (feedC c b).ppl.length ≤ 50 := (feedC_ok h b).sz.n50
theorem feedC_lft {o : OrdM} (b : Tx) : (feedC (newM o) b).left.length ≤ b.length := by
  have := feedC_left (newM o) b
  have e : (newM o).left = [] := rfl
  rw [e] at this
  simpa using this
set_option maxRecDepth 100000 in
set_option maxHeartbeats 8000000 in
theorem over_lawW (w : World) (T : TabC w) (o : OrdM) (m : OrdV) (ho : OrdR w w.heap.size o m) (fit : o.Fit m 1048576) (A1 : Option Addr) (l1 : Tx) (c1 : Nat) (h1 : RB w w.heap.size A1 l1) (hl1 : l1.length ≤ 1048576) (A2 : Option Addr) (l2 : Tx) (c2 : Nat) (h2 : RB w w.heap.size A2 l2) (hl2 : l2.length ≤ 1048576) :
    Calls Tryz.prog 8 #[.agg (ordC o m).toArray, .slice A1 l1.length c1, .slice A2 l2.length c2] w fun e w' => Below w.heap.size w w' ∧ e = .returned (.bool true) := by
  obtain ⟨w1, hw1⟩ : ∃ w1, w.alloc (.cells #[.string (bs o.name), .bool o.frm.nul, .string (bs o.frm.loc), .string (bs o.frm.dom), .bool o.frm.lit, .slice m.Ar o.rcpts.length m.cr, .slice m.Ad o.data.length m.cd] 27) = w1 := ⟨_, rfl⟩
  have hb1 : Below w.heap.size w w1 := by rw [← hw1]; exact (Below.refl _ _).alloc (Nat.le_refl _) _
  have hx1 : Blk w1 w.heap.size 27 (ordC o m).toArray := by rw [← hw1]; exact Blk.new _ _ _
  have HB1 := Lib.hid hb1
  have HX1 := Lib.hid hx1
  have HT := Lib.hid T
  have KW := Lib.hid (awake_walk w1 (T.keep hb1))
  have KN := Lib.hid (fun W (hb : Below w.heap.size w W) => cnew_walk W (T.keep hb) o m (ho.up hb) fit)
  rw [show (Value.agg (ordC o m).toArray) = .agg #[.string (bs o.name), .bool o.frm.nul, .string (bs o.frm.loc), .string (bs o.frm.dom), .bool o.frm.lit, .slice m.Ar o.rcpts.length m.cr, .slice m.Ad o.data.length m.cd] from rfl]
  have ev : o.frm.val = .agg #[.bool o.frm.nul, .string (bs o.frm.loc), .string (bs o.frm.dom), .bool o.frm.lit] := rfl
  rw [ev] at KN
  have H1 := Lib.hid h1
  have H2 := Lib.hid h2
  clear h1 h2
  clear T hb1 hx1 ev ho
  go_enter Tryz.func8, Tryz.ntmps8
  go_wp2_with fail
  refine KW.out.mono ?_
  rintro e w2 ⟨hb2, rfl⟩
  have HB2 := Lib.hid (HB1.out.trans (hb2.mono HB1.out.size))
  obtain ⟨x0, x1, x2, x3, x4, x5, x6⟩ := ord_box (HX1.out.keep hb2)
  clear hb2 KW HX1 hw1
  go_wp2_with fail
  refine (KN.out w2 HB2.out).mono ?_
  rintro e w3 ⟨hb3, ⟨hok, cb, pb, bb, q, rfl, hC, hbk⟩ | ⟨hno, rfl⟩⟩
  case inr =>
    have HB3 := Lib.hid (HB2.out.trans (hb3.mono HB2.out.size))
    clear hb3 hno x0 x1 x2 x3 x4 x5 x6 KN
    go_wp2_with fail
    go_ret
    exact ⟨HB3.out, rfl⟩
  case inl =>
    have HB3 := Lib.hid (HB2.out.trans (hb3.mono HB2.out.size))
    have HTB : Hid (∀ x, Below w2.heap.size w3 x → TabC x) := Lib.hid fun x hx => HT.out.keep (HB3.out.trans (hx.mono HB2.out.size))
    have HCC := Lib.hid hC
    have hcw : w.heap.size ≤ cb := Nat.le_trans HB2.out.size hC.cB
    have HCW := Lib.hid hcw
    have HOK := Lib.hid hok
    clear x0 x1 x2 x3 x4 x5 x6 KN hb3 hC hok hbk hcw
    have KF := Lib.hid (feed_law HCC.out HTB.out A1 l1 l1.length c1 rfl ((H1.out.below HB3.out).mono HB3.out.size) (H1.out.apart HCW.out) (by show 0 + l1.length ≤ _; omega))
    go_wp2_with fail
    refine KF.out.mono ?_
    rintro e w4 ⟨v4, q4, rfl, hC4, -, -, -, hS4⟩
    have HB4 := Lib.hid (FeedL.below HCC.out hS4)
    have KL := Lib.hid (lost_law hC4)
    have HCL4 := Lib.hid hC4.cl.blk.lt
    generalize feedC (newM o) l1 = d at *
    clear KF hC4 hS4 HCC
    go_wp2_with fail
    refine KL.out.mono ?_
    rintro e w5 ⟨rfl, hC5, hO5⟩
    have HB5 := Lib.hid (HB4.out.trans (hO5.to_below HCL4.out hC5.cB))
    have HC5 := Lib.hid hC5
    have KR5 := Lib.hid (results_law hC5)
    clear hC5 hO5 KL
    go_wp2_with fail
    refine KR5.out.mono ?_
    rintro e w6 ⟨hb6, g6, v6, rfl, hX6, hg6⟩
    obtain ⟨A6, n6, c6, rfl, -⟩ := hX6.sl
    have HC6 := Lib.hid (HC5.out.same hb6)
    have HB6 := Lib.hid (HB5.out.trans (hb6.mono (Nat.le_of_lt HC5.out.lt)))
    have HX6 := Lib.hid hX6
    have HG6 : Hid (∀ k, g6 = some k → k ≠ cb) := Lib.hid fun k hk e => by have := hg6 k hk; have := HC5.out.cl.blk.lt; omega
    have KF6 := Lib.hid (cfeed_over HC6.out rfl (.slice A2 l2.length c2))
    have KT6 := Lib.hid (tick_law HC6.out 1000)
    have HCL6 := Lib.hid HC6.out.cl.blk.lt
    clear hb6 hX6 hg6 KR5
    go_wp2_with fail
    refine KF6.out.mono ?_
    rintro e w7 ⟨rfl, rfl⟩
    clear KF6
    go_wp2_with fail
    refine KT6.out.mono ?_
    rintro e w7 ⟨rfl, hC7, hO7⟩
    have HB7 := Lib.hid (HB6.out.trans (hO7.to_below HCL6.out hC7.cB))
    have HC7 := Lib.hid hC7
    have HX7 := Lib.hid (HX6.out.only hO7 HG6.out)
    have KR7 := Lib.hid (results_law hC7)
    clear KT6 hC7 hO7 HX6
    go_wp2_with fail
    refine KR7.out.mono ?_
    rintro e w8 ⟨hb8, g8, v8, rfl, hX8, hg8⟩
    obtain ⟨A8, n8, c8, rfl, -⟩ := hX8.sl
    have HC8 := Lib.hid (HC7.out.same hb8)
    have HB8 := Lib.hid (HB7.out.trans (hb8.mono (Nat.le_of_lt HC7.out.lt)))
    have HX78 := Lib.hid (HX7.out.same hb8.size (fun k hk => hb8.block k (HX7.out.lt hk)))
    have KS := Lib.hid (sameR_walk w8 (d.ppl.map toldP) HX78.out hX8 (by rw [List.length_map]; have := HC5.out.ok.sz.n50; have e : (lostC d).ppl.length = d.ppl.length := rfl; omega))
    clear hb8 hX8 hg8 KR7 HX7 HX78
    go_wp2_with fail
    refine KS.out.mono ?_
    rintro e w9 ⟨hb9, rfl⟩
    have HB9 := Lib.hid (HB8.out.trans (hb9.mono (Nat.le_of_lt HC8.out.lt)))
    have KO := Lib.hid (over_law (HC8.out.same hb9))
    have e8 : decide ((tickC (lostC d) 1000).stage = 8) = true := decide_eq_true (show tickS 8 (lostC d).idle 1000 = 8 from tickS8 _ _)
    rw [e8] at KO
    clear hb9 KS e8
    go_wp2_with fail
    refine KO.out.mono ?_
    rintro e w10 ⟨rfl, rfl⟩
    have HBF := Lib.hid (HB3.out.trans (HB9.out.mono HB2.out.size))
    go_wp2_with fail
    go_ret
    exact ⟨HBF.out, rfl⟩
end Go.Proofs.YtjnjnccfojfghaaGreatDoor

/-! A listed variable that holds an error: its cell holds some interface value; over any program. No condition. -/
namespace Go.Proofs.YtjnjnccfojfghaaGreatDoor
set_option linter.unusedVariables false
theorem iface_of_head {P : Program} {W : World} {name nm : String} {d : DataW Unit} {rest : List (String × DataW Unit)} {g : Nat} {t : TypeId} {ms : Array (String × TypeId)}
    (hg : P.globalNamed name = some g) (hty : (P.globals[g]?).map (·.type) = some t) (ht : P.underlying t = some (.interface ms))
    (h : laidMet P ((name, .iface nm d) :: rest) W) : ∃ u p, W.cell? ⟨g, 0, none⟩ = some (.iface u p) := by
  obtain ⟨ps, ⟨g', t', cs, fuel, p, q, hg', ht', hvar, hd, _, _⟩, _⟩ := h
  obtain rfl := Option.some.inj (hg.symm.trans hg')
  obtain rfl := Option.some.inj (hty.symm.trans ht')
  obtain ⟨_, u, v, hcs, _, _⟩ := iface_of_trod ht hd
  refine ⟨u, v, ?_⟩
  have hcs' : cs = #[.iface u v] := by cases cs; simp_all
  have hv : W.var? P name = some (#[Value.iface u v].toList.toArray) := by rw [hvar, hcs']
  have := World.var?_cell hg hvar 0
  rw [this, hcs']
  rfl
end Go.Proofs.YtjnjnccfojfghaaGreatDoor

/-! What the listed variables give of the library's tables, for smtpc. No condition. -/
namespace Go.Proofs.YtjnjnccfojfghaaGreatDoor
open Go.RowKit
set_option linter.unusedVariables false
theorem tabC_of {W : World} {laid : List (String × DataW Unit)} (h : laidMet Tryz.prog laid W) (hsh : W.ShapedOpen Tryz.prog)
    (e3 : laid.filter (fun x => x.1 == "unicode/utf8.first") = [("unicode/utf8.first", Lib.firstData)])
    (e4 : laid.filter (fun x => x.1 == "unicode/utf8.acceptRanges") = [("unicode/utf8.acceptRanges", Lib.acceptData)])
    (e1 : laid.filter (fun x => x.1 == "internal/strconv.uint64pow10") = [("internal/strconv.uint64pow10", Lib.tabData .u64 Lib.pow10Tab)])
    (e2 : laid.filter (fun x => x.1 == "strconv.ErrSyntax") = [("strconv.ErrSyntax", Rows.laid_strconv_ErrSyntax)])
    (e5 : laid.filter (fun x => x.1 == "strconv.ErrRange") = [("strconv.ErrRange", Rows.laid_strconv_ErrRange)])
    (e6 : laid.filter (fun x => x.1 == "math/bits.deBruijn64tab") = [("math/bits.deBruijn64tab", Rows.laid_math_bits_deBruijn64tab)]) : TabC W := by
  have h1 := h.filter (fun x => x.1 == "internal/strconv.uint64pow10")
  have h2 := h.filter (fun x => x.1 == "strconv.ErrSyntax")
  have h5 := h.filter (fun x => x.1 == "strconv.ErrRange")
  have h6 := h.filter (fun x => x.1 == "math/bits.deBruijn64tab")
  rw [e1] at h1
  rw [e2] at h2
  rw [e5] at h5
  rw [e6] at h6
  obtain ⟨u2, p2, c2⟩ := iface_of_head (g := 3) (t := 127) (by kernel_rfl) (by kernel_rfl) Tryz.underlying127 h2
  obtain ⟨u3, p3, c3⟩ := iface_of_head (g := 4) (t := 127) (by kernel_rfl) (by kernel_rfl) Tryz.underlying127 h5
  have t1 : Lib.TabIs Tryz.prog W "internal/strconv.uint64pow10" .u64 Lib.pow10Tab := Lib.tabIs_of_head (rest := []) (g := 5) (t := 214) (e := 125) (n := 20) (by kernel_rfl) (by kernel_rfl) Tryz.underlying214 Tryz.underlying125 (by kernel_rfl) (by kernel_rfl) h1
  have g2 : Tryz.prog.globalNamed "math/bits.deBruijn64tab" = some 7 := by kernel_rfl
  have t2 : Lib.TabIs Tryz.prog W "math/bits.deBruijn64tab" .u8 [0, 1, 56, 2, 57, 49, 28, 3, 61, 58, 42, 50, 38, 29, 17, 4, 62, 47, 59, 36, 45, 43, 51, 22, 53, 39, 33, 30, 24, 18, 12, 5, 63, 55, 48, 27, 60, 41, 37, 16, 46, 35, 44, 21, 52, 32, 23, 11, 54, 26, 40, 15, 34, 20, 31, 10, 25, 14, 19, 9, 13, 8, 7, 6] :=
    Lib.tabIs_of_head (rest := []) (t := 227) (e := 5) (n := 64) g2 (by kernel_rfl) Tryz.underlying227 Tryz.underlying5 (by kernel_rfl) (by kernel_rfl) h6
  have c6 := t2.cell g2 15 (by decide)
  exact ⟨tabsL_of h hsh e3 e4, fun x hx => Joins.tab_stays (by kernel_rfl : Tryz.prog.globalNamed "internal/strconv.uint64pow10" = some 5) t1 hx (Nat.le_refl _), ⟨⟨u2, p2, c2⟩, ⟨u3, p3, c3⟩, World.block_lt_of_cell? _ _ c2, World.block_lt_of_cell? _ _ c3⟩, c6⟩
end Go.Proofs.YtjnjnccfojfghaaGreatDoor
