/-
  Several texts in one: AppV, ScCt0, ScCt. Conditions: each part names its own.
-/
import Derived.Test.YtjnjnccfojfghaaGreatDoorMg12
import Derived.Test.YtjnjnccfojfghaaGreatDoorMg30
import Derived.Test.YtjnjnccfojfghaaGreatDoorMg19
import Derived.Deep.CutBlock
import Derived.Deep.DeepCutAuto
set_option linter.unusedSimpArgs false
/-! append(b, c...) of bytes to owned bytes, outside of a region that draws: what grows, and where the row lies behind it; over any program. No condition. -/
namespace Go.Proofs.YtjnjnccfojfghaaGreatDoor
open Go.RowKit
set_option linter.unusedVariables false
theorem wpList_appBt {P : Program} {w : World} {ops : Array Oper} {rest : List Oper} {o : Oper} {a : Act} {Q : Exit → Act → World → Prop} {t E : TypeId} (hU : U8 P t E) (s x : Operand)
    (ho : o.op = .call { callee := .builtin .append, args := #[s, x], argTypes := #[t, t] }) (hgd : o.guard = none)
    (base : Nat) {v : Value} {l k : List UInt8} (hs : a.eval s = v) (hown : OwnB w base E v l) {B : Nat} {A : Option Addr} (m c : Nat) (hx : a.eval x = .slice A m c) (hm : m = k.length) (hr : RB w B A k)
    (hbytes : l.length + k.length ≤ 140737488355328) (hbase : base ≤ w.heap.size)
    (h : ∀ v' w', OwnB w' base E v' (l ++ k) → w.grownBy w' v.ownBlock → (v'.ownBlock = v.ownBlock ∨ v'.ownBlock = some w.heap.size) → wpList P ops Q rest (a.put o.dst v') w') : wpList P ops Q (o :: rest) a w := by
  subst hm
  refine wpList_plain hgd fun K hK => ?_
  obtain ⟨v', w', hrun, h2, h3⟩ := run_appB (P := P) w hU base o.type hown c hr (by omega) hbase
  have h4 := app_blockB hU base o.type hown c hr hbytes hbase hrun
  unfold Oper.wp execOp
  simp only [ho, resolve, invoke, builtin, Sem.run_bind, Sem.run_pure, Result.andThen_ok, List.map_toArray, List.map_cons, List.map_nil, hs, hx, hrun]
  exact hK _ _ (h v' w' h2 h3 h4)
end Go.Proofs.YtjnjnccfojfghaaGreatDoor

/-! Two clients side by side, the second fed in pieces. No condition but their own. -/
namespace Go.Proofs.YtjnjnccfojfghaaGreatDoor
open Go.RowKit
set_option linter.unusedVariables false
/-- a part of bytes -/
theorem slB_mid (A : Option Addr) (n c lo hi : Nat) (h1 : lo ≤ hi) (h2 : hi ≤ n) (hc : n ≤ c) (W : World) :
    (Instr.slice 25 (.slice A n c) (some (.int .i64 (lo : Int))) (some (.int .i64 (hi : Int))) none).run Tryz.prog W = .ok (.slice (if c = lo then A else A.map fun a => a.add lo) (hi - lo) (c - lo)) W := by
  have e1 : (lo : Int) ≤ (hi : Int) := by omega
  have e2 : (hi : Int) ≤ (c : Int) := by omega
  obtain ⟨i, hi', hz, hs, hb⟩ := u8L.hi
  by_cases hcm : c = lo
  · have : hi = lo := by omega
    cases A <;> simp [Instr.slice, run_underlying Tryz.underlying25, Instr.sliceBounds, run_sliceBound, e1, e2, hcm, this, sizeOf, typeInfo, hi', hs]
  · cases A <;> simp [Instr.slice, run_underlying Tryz.underlying25, Instr.sliceBounds, run_sliceBound, e1, e2, hcm, sizeOf, typeInfo, hi', hs]
theorem RB.part {w : World} {B : Nat} {A : Option Addr} {l : Tx} (h : RB w B A l) (c lo hi : Nat) (h1 : lo ≤ hi) (h2 : hi ≤ l.length) (hc : l.length ≤ c) : RB w B (if c = lo then A else A.map fun a => a.add lo) ((l.drop lo).take (hi - lo)) := by
  by_cases hcl : c = lo
  · exact .inl (List.eq_nil_of_length_eq_zero (by rw [List.length_take, List.length_drop]; omega))
  · rw [if_neg hcl]
    rcases h with rfl | ⟨b, off, rfl, hlt, hcell⟩
    · exact .inl (by simp)
    · have := RB.sub hlt hcell lo (hi - lo) (by omega)
      simpa [Addr.add_lit] using this
theorem take_part (l : Tx) {lo hi : Nat} (h1 : lo ≤ hi) : l.take lo ++ (l.drop lo).take (hi - lo) = l.take hi := by
  have : hi = lo + (hi - lo) := by omega
  conv => rhs; rw [this]
  rw [List.take_add]
structure CtI (w5 wr : World) (B2 cb pb : Nat) (bb : Option Nat) (c : ClM) (l : Tx) (d : ClM) (q : CPts) (two : Value) (O : Tx) (pos i : Nat) : Prop where
  cli : CliB B2 wr cb pb bb d q
  cbl : cb < w5.heap.size
  pbl : pb < w5.heap.size
  bbl : ∀ k, bb = some k → k < w5.heap.size
  tw : OwnB wr w5.heap.size 5 two O
  sep : ∀ k, two.ownBlock = some k → q.lw ≠ some k ∧ q.ov.ownBlock ≠ some k
  lwN : ∀ k, q.lw = some k → w5.heap.size ≤ k
  old : Safe (fun k => k < w5.heap.size ∧ k ≠ cb ∧ k ≠ pb) w5 wr
  inv : CutI c (l.take pos) d O
  ll : d.left.length ≤ pos
  ol : O.length ≤ i * 2000000000
theorem feedO_len {c : ClM} (h : COk c) (b : Tx) : (feedO c b).length ≤ 2000000000 := by
  unfold feedO
  split
  · simp
  · have := (feedC_ok h b).ln
    omega
/-- a piece was fed: what was sent before stands -/
theorem CtI.fed {w5 wr w' : World} {B2 cb pb : Nat} {bb : Option Nat} {c : ClM} {l : Tx} {d : ClM} {q : CPts} {two : Value} {O : Tx} {pos i : Nat} (h : CtI w5 wr B2 cb pb bb c l d q two O pos i) (hs : Safe (FdS wr cb pb q) wr w') : OwnB w' w5.heap.size 5 two O :=
  OwnB.same h.tw (fun k hk => by
    have h1 := World.ownsRow.lt h.tw k hk
    exact hs.block k ⟨h1.2, by have := h.cbl; omega, by have := h.pbl; omega, (h.sep k hk).1⟩)
theorem CtI.next {w5 wr w' w'' : World} {B2 cb pb : Nat} {bb : Option Nat} {c : ClM} {l : Tx} {d : ClM} {q q' : CPts} {two two' : Value} {O : Tx} {pos hi i : Nat} (hnew : CNew c) (h : CtI w5 wr B2 cb pb bb c l d q two O pos i) (h1 : pos ≤ hi) (h2 : hi ≤ l.length)
    (hc : CliB B2 w' cb pb bb (feedC d ((l.drop pos).take (hi - pos))) q') (hlw : ∀ j, q'.lw = some j → q.lw = some j ∨ wr.heap.size ≤ j) (hov : ∀ j, q'.ov.ownBlock = some j → q.ov.ownBlock = some j ∨ wr.heap.size ≤ j) (hs : Safe (FdS wr cb pb q) wr w')
    (ht : OwnB w'' w5.heap.size 5 two' (O ++ feedO d ((l.drop pos).take (hi - pos)))) (hg : w'.grownBy w'' two.ownBlock) (hn : two'.ownBlock = two.ownBlock ∨ two'.ownBlock = some w'.heap.size) :
    CtI w5 w'' B2 cb pb bb c l (feedC d ((l.drop pos).take (hi - pos))) q' two' (O ++ feedO d ((l.drop pos).take (hi - pos))) hi (i + 1) := by
  have hz := h.old.size
  have hz' := hs.size
  have htw : ∀ k, two.ownBlock = some k → w5.heap.size ≤ k ∧ k < wr.heap.size := fun k hk => World.ownsRow.lt h.tw k hk
  have hl2 : ∀ k, two.ownBlock = some k → q'.lw ≠ some k ∧ q'.ov.ownBlock ≠ some k := fun k hk => ⟨fun e => (hlw k e).elim (fun e2 => (h.sep k hk).1 e2) (fun e2 => by have := (htw k hk).2; omega), fun e => (hov k e).elim (fun e2 => (h.sep k hk).2 e2) (fun e2 => by have := (htw k hk).2; omega)⟩
  have hfoot : ∀ k, Foot cb pb bb q' k → w''.heap[k]? = w'.heap[k]? := fun k hk => hg.block k (hc.cl.foot hk) (fun e => by
    have e' : two.ownBlock = some k := e.symm
    have h3 := htw k e'
    rcases hk with rfl | rfl | hk | hk | hk
    · have := h.cbl; omega
    · have := h.pbl; omega
    · have := h.bbl k hk; omega
    · exact (hl2 k e').1 hk
    · exact (hl2 k e').2 hk)
  refine ⟨hc.stay hg.size hfoot, h.cbl, h.pbl, h.bbl, ht, fun k hk => ?_, fun k hk => (hlw k hk).elim (fun e => h.lwN k e) (fun e => by omega), ?_, ?_, ?_, ?_⟩
  · rcases hn with hn | hn
    · rw [hn] at hk
      exact hl2 k hk
    · rw [hn] at hk
      injection hk with hk
      subst hk
      exact ⟨fun e => by have := hc.cl.left.lt_ e; omega, fun e => by have := hc.cl.out.lt_ e; omega⟩
  · refine (h.old.trans (hs.mono fun k hk => ⟨by omega, hk.2.1, hk.2.2, fun e => by have := h.lwN k e; have := hk.1; omega⟩)).grown hg (fun k hk => ⟨by have := hk.1; omega, fun e => by have := (htw k e).1; have := hk.1; omega⟩)
  · have := h.inv.step hnew ((l.drop pos).take (hi - pos))
    rw [take_part l h1] at this
    exact this
  · refine Nat.le_trans (feedC_left _ _) ?_
    have := h.ll
    rw [List.length_take, List.length_drop]
    omega
  · have h3 := h.ol
    have h4 := feedO_len h.cli.ok ((l.drop pos).take (hi - pos))
    rw [List.length_append, Nat.add_mul]
    omega
theorem CtI.skip {w5 wr : World} {B2 cb pb : Nat} {bb : Option Nat} {c : ClM} {l : Tx} {d : ClM} {q : CPts} {two : Value} {O : Tx} {pos i : Nat} (h : CtI w5 wr B2 cb pb bb c l d q two O pos i) : CtI w5 wr B2 cb pb bb c l d q two O pos (i + 1) :=
  ⟨h.cli, h.cbl, h.pbl, h.bbl, h.tw, h.sep, h.lwN, h.old, h.inv, h.ll, Nat.le_trans h.ol (Nat.mul_le_mul_right _ (Nat.le_succ i))⟩
theorem CtI.bel {w w5 wr : World} {B2 cb pb : Nat} {bb : Option Nat} {c : ClM} {l : Tx} {d : ClM} {q : CPts} {two : Value} {O : Tx} {pos i B : Nat} (h : CtI w5 wr B2 cb pb bb c l d q two O pos i) (hb : Below B w w5) (h1 : B ≤ cb) (h2 : B ≤ pb) : Below B w wr :=
  hb.trans (h.old.to_below (fun k hk => ⟨by have := h.cbl; omega, by omega, by omega⟩))
end Go.Proofs.YtjnjnccfojfghaaGreatDoor

/-! The walk of SmtpcCuts. Conditions: the lengths, what the library's variables hold. -/
namespace Go.Proofs.YtjnjnccfojfghaaGreatDoor
open Go.RowKit
set_option linter.unusedVariables false
set_option maxRecDepth 100000 in
set_option maxHeartbeats 8000000 in
theorem cuts_lawW (w : World) (T : TabC w) (o : OrdM) (m : OrdV) (ho : OrdR w w.heap.size o m) (fit : o.Fit m 1048576) (A1 : Option Addr) (l1 : Tx) (c1 : Nat) (h1 : RB w w.heap.size A1 l1) (hl1 : l1.length ≤ 1048576) (hc1 : l1.length ≤ c1) (hm1 : c1 ≤ maxLen) (A2 : Option Addr) (zs : List Int) (c2 : Nat) (h2 : RI w w.heap.size A2 zs) (hz2 : zs.length ≤ 9223372036854775807) :
    Calls Tryz.prog 4 #[.agg (ordC o m).toArray, .slice A1 l1.length c1, .slice A2 zs.length c2] w fun e w' => Below w.heap.size w w' ∧ e = .returned (.bool true) := by
  obtain ⟨w1, hw1⟩ : ∃ w1, w.alloc (.cells #[.string (bs o.name), .bool o.frm.nul, .string (bs o.frm.loc), .string (bs o.frm.dom), .bool o.frm.lit, .slice m.Ar o.rcpts.length m.cr, .slice m.Ad o.data.length m.cd] 27) = w1 := ⟨_, rfl⟩
  have hb1 : Below w.heap.size w w1 := by rw [← hw1]; exact (Below.refl _ _).alloc (Nat.le_refl _) _
  have hx1 : Blk w1 w.heap.size 27 (ordC o m).toArray := by rw [← hw1]; exact Blk.new _ _ _
  have HB1 := Lib.hid hb1
  have HX1 := Lib.hid hx1
  have HT := Lib.hid T
  have KW := Lib.hid (awake_walk w1 (T.keep hb1))
  have KN := Lib.hid (fun W (hb : Below w.heap.size w W) => cnew_walk W (T.keep hb) o m (ho.up hb) fit)
  rw [show (Value.agg (ordC o m).toArray) = .agg #[.string (bs o.name), .bool o.frm.nul, .string (bs o.frm.loc), .string (bs o.frm.dom), .bool o.frm.lit, .slice m.Ar o.rcpts.length m.cr, .slice m.Ad o.data.length m.cd] from rfl]
  have ev : o.frm.val = .agg #[.bool o.frm.nul, .string (bs o.frm.loc), .string (bs o.frm.dom), .bool o.frm.lit] := rfl
  rw [ev] at KN
  have H1 := Lib.hid h1
  have H2 := Lib.hid h2
  have HDL := Lib.hid (Nat.le_trans ho.ld fit.cd)
  clear h1 h2
  clear T hb1 hx1 ev ho
  go_enter Tryz.func4, Tryz.ntmps4
  go_wp2_with fail
  refine KW.out.mono ?_
  rintro e w2 ⟨hb2, rfl⟩
  have HB2 := Lib.hid (HB1.out.trans (hb2.mono HB1.out.size))
  have HX2 := Lib.hid (HX1.out.keep hb2)
  obtain ⟨x0, x1, x2, x3, x4, x5, x6⟩ := ord_box HX2.out
  clear hb2 KW HX1 hw1
  go_wp2_with fail
  refine (KN.out w2 HB2.out).mono ?_
  rintro e w3 ⟨hb3, hres⟩
  have HB3 := Lib.hid (HB2.out.trans (hb3.mono HB2.out.size))
  have HX3 := Lib.hid (HX2.out.keep hb3)
  clear x0 x1 x2 x3 x4 x5 x6 HX2
  rcases hres with ⟨hok, cb, pb, bb, q, rfl, hC, hbk⟩ | ⟨hno, rfl⟩
  case inr =>
    obtain ⟨x0, x1, x2, x3, x4, x5, x6⟩ := ord_box HX3.out
    have HNO := Lib.hid hno
    clear hno hb3
    go_wp2_with fail
    refine (KN.out w3 HB3.out).mono ?_
    rintro e w4 ⟨hb4, ⟨hok, -⟩ | ⟨-, rfl⟩⟩
    case inl => exact absurd hok HNO.out
    have HB4 := Lib.hid (HB3.out.trans (hb4.mono HB3.out.size))
    clear hb4 x0 x1 x2 x3 x4 x5 x6 KN
    go_wp2_with fail
    go_ret
    exact ⟨HB4.out, rfl⟩
  case inl =>
    obtain ⟨x0, x1, x2, x3, x4, x5, x6⟩ := ord_box HX3.out
    have HOK := Lib.hid hok
    have HC3 := Lib.hid hC
    have HBB := Lib.hid hbk
    have hcw : w.heap.size ≤ cb := Nat.le_trans HB2.out.size hC.cB
    have HCW := Lib.hid hcw
    clear hok hb3 hC hbk hcw
    go_wp2_with fail
    refine (KN.out w3 HB3.out).mono ?_
    rintro e w4 ⟨hb4, ⟨-, cb2, pb2, bb2, q2, rfl, hD, hbk2⟩ | ⟨hno, -⟩⟩
    case inr => exact absurd HOK.out hno
    have HB4 := Lib.hid (HB3.out.trans (hb4.mono HB3.out.size))
    have HC4 := Lib.hid (HC3.out.same hb4)
    have HD4 := Lib.hid hD
    have HLT3 : Hid (cb < w3.heap.size ∧ pb < w3.heap.size ∧ (∀ k, bb = some k → k < w3.heap.size) ∧ (∀ k, q.lw = some k → k < w3.heap.size) ∧ (∀ k, q.ov.ownBlock = some k → k < w3.heap.size) ∧ w3.heap.size ≤ cb2 ∧ w3.heap.size ≤ pb2 ∧ ∀ k, bb2 = some k → w3.heap.size ≤ k) := Lib.hid ⟨HC3.out.cl.blk.lt, HC3.out.cl.ppl.lt, HC3.out.cl.bl, fun k e => HC3.out.cl.left.lt_ e, fun k e => HC3.out.cl.out.lt_ e, hD.cB, hD.pB, hbk2.1⟩
    have HTB : Hid (∀ x, Below w2.heap.size w4 x → TabC x) := Lib.hid fun x hx => HT.out.keep (HB4.out.trans (hx.mono HB2.out.size))
    have KF := Lib.hid (feed_law HC4.out HTB.out A1 l1 l1.length c1 rfl ((H1.out.below HB4.out).mono HB4.out.size) (H1.out.apart HCW.out) (by show 0 + l1.length ≤ _; omega))
    have HLW2 := Lib.hid hbk2.2
    clear x0 x1 x2 x3 x4 x5 x6 KN hb4 hD hbk2 HC3 HX3
    go_wp2_with fail
    refine KF.out.mono ?_
    rintro e w5 ⟨v5, q5, rfl, hC5, hO5, hlw5, hov5, hS5⟩
    obtain ⟨A5, c5, rfl, -⟩ := hO5.out
    have HB5 := Lib.hid (HB4.out.trans ((FeedL.below HC4.out hS5).mono HB2.out.size))
    have HC5 := Lib.hid hC5
    have HO5 := Lib.hid hO5
    have HS5 := Lib.hid hS5
    -- the second client is not touched by that
    have HD5 : Hid (CliB w3.heap.size w5 cb2 pb2 bb2 (newM o) q2) := Lib.hid (HD4.out.stay hS5.size (fun k hk => hS5.block k ⟨HD4.out.cl.foot hk, by
        obtain ⟨a1, a2, a3, a4, -, a5, a6, a7⟩ := HLT3.out
        have hB : w3.heap.size ≤ k := by
          rcases hk with rfl | rfl | hk | hk | hk
          · exact a5
          · exact a6
          · exact a7 k hk
          · exact HD4.out.lB k hk
          · exact HD4.out.oB k hk
        exact ⟨by omega, by omega, fun e => by have := a4 k e; omega⟩⟩))
    have HNEW : Hid (CNew (newM o)) := Lib.hid (newM_new HOK.out fit.nm HDL.out)
    have HFO : Hid (feedO (newM o) l1 = (feedC (newM o) l1).out) := Lib.hid (by unfold feedO; rw [if_neg (by rw [HNEW.out.st]; decide)])
    have HONE : Hid (∀ j, Value.ownBlock (.slice A5 (feedO (newM o) l1).length c5) = some j → w4.heap.size ≤ j ∧ j < w5.heap.size) := Lib.hid fun j hj => World.ownsRow.lt hO5 j hj
    have HFT5 : Hid (∀ k, Foot cb pb bb q5 k → k < w5.heap.size ∧ k ≠ cb2 ∧ k ≠ pb2) := Lib.hid fun k hk => by
      obtain ⟨a1, a2, a3, a4, a4', a5, a6, a7⟩ := HLT3.out
      have b1 := HD4.out.cl.blk.lt
      have b2 := HD4.out.cl.ppl.lt
      refine ⟨hC5.cl.foot hk, ?_⟩
      rcases hk with rfl | rfl | hk | hk | hk
      · omega
      · omega
      · have := a3 k hk; omega
      · rcases hlw5 k hk with h | h
        · have := a4 k h; omega
        · omega
      · rcases hov5 k hk with h | h
        · have := a4' k h; omega
        · omega
    have HI0 : Hid (CtI w5 w5 w3.heap.size cb2 pb2 bb2 (newM o) l1 (newM o) q2 (.slice none 0 0) [] 0 0) := Lib.hid ⟨HD5.out, HD5.out.cl.blk.lt, HD5.out.cl.ppl.lt, HD5.out.cl.bl, OwnB.nil _ _ _, (fun k e => by cases e), (fun k e => by rw [HLW2.out] at e; cases e), Safe.refl _ _, by rw [List.take_zero]; exact CutI.start HNEW.out, Nat.le_refl 0, Nat.zero_le _⟩
    have HCB2 : Hid (w.heap.size ≤ cb2 ∧ w.heap.size ≤ pb2) := Lib.hid (by obtain ⟨a1, a2, a3, a4, a4', a5, a6, a7⟩ := HLT3.out; have := HB3.out.size; exact ⟨by omega, by omega⟩)
    have HI00 : Hid (∃ d q O, CtI w5 w5 w3.heap.size cb2 pb2 bb2 (newM o) l1 d q (.slice none 0 0) O 0 0) := Lib.hid ⟨_, _, _, HI0.out⟩
    have HCL2 : Hid (cb2 < w4.heap.size ∧ pb2 < w4.heap.size) := Lib.hid ⟨HD4.out.cl.blk.lt, HD4.out.cl.ppl.lt⟩
    obtain ⟨n5, hn5⟩ : ∃ n5, (feedO (newM o) l1).length = n5 := ⟨_, rfl⟩
    rw [hn5] at HONE HO5 ⊢
    have HN5 := Lib.hid hn5
    obtain ⟨K, hK⟩ : ∃ K, min zs.length 200 = K := ⟨_, rfl⟩
    have HKK := Lib.hid hK
    clear KF hC5 hO5 hlw5 hov5 hS5 HS5 HD4 HD5 HC4 HLT3 HI0 HTB hK hn5
    go_wp2_with fail
    go_loopg [13, 14, 15] K (fun k two ps i wr => ∃ p j : Nat, ps = .int .i64 (p : Int) ∧ i = .int .i64 (j : Int) ∧ j + k = K ∧ p ≤ l1.length ∧ Hid (∃ d q O, CtI w5 wr w3.heap.size cb2 pb2 bb2 (newM o) l1 d q two O p j))
    case atStart => exact ⟨0, 0, rfl, rfl, by omega, by omega, HI00⟩
    case round =>
      obtain ⟨p, j, rfl, rfl, hj, hp, HI⟩ := hrel
      obtain ⟨d, q6, O, hi⟩ := HI.out
      have HI6 := Lib.hid hi
      obtain ⟨At, nt, ct, rfl⟩ := hi.tw.sl
      have hbwr := Lib.hid (hi.bel HB5.out HCB2.out.1 HCB2.out.2)
      clear HI HI00 hi
      have HKJ := HKK.out
      have HP := Lib.hid hp
      have HJ := Lib.hid hj
      have HTB : Hid (∀ x, Below w3.heap.size wr x → TabC x) := Lib.hid fun x hx => HT.out.keep (hbwr.out.trans (hx.mono HB3.out.size))
      by_cases hlt : j < K
      · have hj1 : (j : Int) < (zs.length : Int) := by omega
        have hj2 : (j : Int) < 200 := by omega
        have hj0 : (0 : Int) ≤ (j : Int) := by omega
        have HLT := Lib.hid hlt
        obtain ⟨z, hz⟩ : ∃ z, zs[j]? = some z := ⟨_, List.getElem?_eq_getElem (by omega)⟩
        rcases H2.out.below hbwr.out with h | ⟨b, off, rfl, hbl, hc⟩
        · rw [h] at hz; simp at hz
        have cz : wr.cell? ⟨b, off + j, none⟩ = some (.int .i64 z) := hc j z hz
        have HBL : Hid (∀ W, Below w.heap.size w W → W.cell? ⟨b, off + j, none⟩ = some (.int .i64 z)) := Lib.hid fun W hW => (hW.cell (show b < w.heap.size from hbl)).trans (((hbwr.out.cell (show b < w.heap.size from hbl)).symm).trans cz)
        clear hc hz hlt HKJ hj hp hbl
        by_cases hzz : (p : Int) < z ∧ z < (l1.length : Int)
        · obtain ⟨hi, rfl⟩ : ∃ hi : Nat, z = (hi : Int) := ⟨z.toNat, by omega⟩
          have hz1 : (hi : Int) > (p : Int) := hzz.1
          have hz2 : (hi : Int) < (l1.length : Int) := hzz.2
          have g1 : p ≤ hi := by omega
          have g2 : hi ≤ l1.length := by omega
          have hsl := fun W => slB_mid A1 l1.length c1 p hi g1 g2 hc1 W
          have hrp := (H1.out.below hbwr.out).part c1 p hi g1 g2 hc1
          have hpl : hi - p = ((l1.drop p).take (hi - p)).length := by rw [List.length_take, List.length_drop]; omega
          have KF := Lib.hid (feed_law HI6.out.cli HTB.out _ _ (hi - p) (c1 - p) hpl (hrp.mono hbwr.out.size) (hrp.apart HCB2.out.1) (by have := HI6.out.ll; have := HP.out; omega))
          have HNX := Lib.hid (fun w' w'' q' two' => CtI.next (w' := w') (w'' := w'') (q' := q') (two' := two') HNEW.out HI6.out g1 g2)
          have HFD := Lib.hid (fun w' => CtI.fed (w' := w') HI6.out)
          have HOL := Lib.hid HI6.out.ol
          have HFL := Lib.hid (feedO_len HI6.out.cli.ok ((l1.drop p).take (hi - p)))
          have HZW := Lib.hid HI6.out.old.size
          have HG2 := Lib.hid g2
          have hj200 : j < 200 := by omega
          generalize (l1.drop p).take (hi - p) = pc at *
          generalize (if c1 = p then A1 else A1.map fun a => a.add p) = Ap at *
          clear hzz hrp hpl g1 g2
          go_wp2_with fail
          refine KF.out.mono ?_
          rintro e w7 ⟨v7, q7, rfl, hC7, hO7, hlw7, hov7, hS7⟩
          obtain ⟨A7, c7, rfl, -, -, hr7⟩ := hO7.out
          have HTW := Lib.hid (HFD.out w7 hS7)
          have HR7 := Lib.hid hr7
          have HZ7 := Lib.hid (Nat.le_trans HZW.out hS7.size)
          have HNX7 := Lib.hid (fun w'' two' => HNX.out w7 w'' q7 two' hC7 hlw7 hov7 hS7)
          clear KF hC7 hO7 hlw7 hov7 hS7 hr7 HNX HFD
          go_wp2_with (at_builtin; refine wpList_appBt u8L (.tmp 93) (.tmp 102) rfl rfl w5.heap.size rfl HTW.out _ _ rfl rfl HR7.out (by have := HOL.out; have := HFL.out; omega) HZ7.out ?_; intro v8 w8 hO8 hg8 hn8; obtain ⟨A8, n8, c8, rfl⟩ := hO8.sl; have HN8 := Lib.hid (HNX7.out w8 _ hO8 hg8 hn8); have z8 := HBL.out w8 (HN8.out.bel HB5.out HCB2.out.1 HCB2.out.2); clear hO8 hg8 hn8)
          go_roundg (gk - 1)
          case rel => exact ⟨hi, j + 1, rfl, by go_num, by have := HJ.out; have := HLT.out; omega, HG2.out, Lib.hid ⟨_, _, _, HN8.out⟩⟩
          case measure => have := HJ.out; have := HLT.out; omega
        · have HSK := Lib.hid HI6.out.skip
          have hcase : (¬ z > (p : Int)) ∨ (z > (p : Int) ∧ ¬ z < (l1.length : Int)) := by omega
          clear hzz
          rcases hcase with h1 | ⟨h1, h2⟩
          all_goals
            go_wp2_with fail
            go_roundg (gk - 1)
            case rel => exact ⟨p, j + 1, rfl, by go_num, by have := HJ.out; have := HLT.out; omega, HP.out, Lib.hid ⟨_, _, _, HSK.out⟩⟩
            case measure => have := HJ.out; have := HLT.out; omega
      · obtain rfl : j = K := by omega
        have hjx : ¬ ((j : Int) < (zs.length : Int)) ∨ ((j : Int) < (zs.length : Int) ∧ ¬ (j : Int) < 200) := by omega
        have hsl := fun W => slB_from A1 l1.length c1 p HP.out hc1 W
        have hrp := (H1.out.below hbwr.out).part c1 p l1.length HP.out (Nat.le_refl _) hc1
        have hpl : l1.length - p = ((l1.drop p).take (l1.length - p)).length := by rw [List.length_take, List.length_drop]; omega
        have KF := Lib.hid (feed_law HI6.out.cli HTB.out _ _ (l1.length - p) (c1 - p) hpl (hrp.mono hbwr.out.size) (hrp.apart HCB2.out.1) (by have := HI6.out.ll; have := HP.out; omega))
        have HNX := Lib.hid (fun w' w'' q' two' => CtI.next (w' := w') (w'' := w'') (q' := q') (two' := two') HNEW.out HI6.out HP.out (Nat.le_refl _))
        have HFD := Lib.hid (fun w' => CtI.fed (w' := w') HI6.out)
        have HOL := Lib.hid HI6.out.ol
        have HFL := Lib.hid (feedO_len HI6.out.cli.ok ((l1.drop p).take (l1.length - p)))
        have HZW := Lib.hid HI6.out.old.size
        have hj200 : j ≤ 200 := by omega
        have hTL : l1.take l1.length = l1 := List.take_length
        have HTL := Lib.hid hTL
        obtain ⟨pc, hpc⟩ : ∃ pc, (l1.drop p).take (l1.length - p) = pc := ⟨_, rfl⟩
        rw [hpc] at KF HNX HFL
        generalize (if c1 = p then A1 else A1.map fun a => a.add p) = Ap at *
        clear hrp hpl hlt HKJ hj hp HKK hpc hTL
        rcases hjx with h1 | ⟨h1, h2⟩
        all_goals
          go_wp2_with fail
          refine KF.out.mono ?_
          rintro e w7 ⟨v7, q7, rfl, hC7, hO7, hlw7, hov7, hS7⟩
          obtain ⟨A7, c7, rfl, -, -, hr7⟩ := hO7.out
          have HTW := Lib.hid (HFD.out w7 hS7)
          have HR7 := Lib.hid hr7
          have HZ7 := Lib.hid (Nat.le_trans HZW.out hS7.size)
          have HNX7 := Lib.hid (fun w'' two' => HNX.out w7 w'' q7 two' hC7 hlw7 hov7 hS7)
          clear KF hC7 hO7 hlw7 hov7 hS7 hr7 HNX HFD hsl
          go_upto_region 18 with (at_builtin; refine wpList_appBt u8L (.tmp 108) (.tmp 113) rfl rfl w5.heap.size rfl HTW.out _ _ rfl rfl HR7.out (by have := HOL.out; have := HFL.out; omega) HZ7.out ?_; intro v8 w8 hO8 hg8 hn8; obtain ⟨A8, n8, c8, rfl⟩ := hO8.sl; have HN8 := Lib.hid (HNX7.out w8 _ hO8 hg8 hn8); clear hO8 hg8 hn8)
          have HNL : Hid (n8 = (O ++ feedO d pc).length) := Lib.hid (by
            obtain ⟨_, _, e, -⟩ := HN8.out.tw.out
            injection e)
          obtain ⟨hd1, hd2, hd3, hd4⟩ := CutI.done HNEW.out (by have := HN8.out.inv; rw [HTL.out] at this; exact this)
          have HEQ : Hid (feedO (newM o) l1 = O ++ feedO d pc) := Lib.hid (hd4.trans hd1)
          have HDD : Hid (decide ((feedC d pc).stage = 8) = decide ((feedC (newM o) l1).stage = 8)) := Lib.hid (decide_eq_decide.2 hd3.symm)
          have HPL := Lib.hid hd2
          have HC8 := Lib.hid (HC5.out.stay HN8.out.old.size (fun k hk => HN8.out.old.block k (HFT5.out k hk)))
          have HO8 : Hid (OwnB w8 w4.heap.size 5 (.slice A5 n5 c5) (feedO (newM o) l1)) := Lib.hid (OwnB.same HO5.out (fun k hk => HN8.out.old.block k ⟨(HONE.out k hk).2, by have := (HONE.out k hk).1; have := HCL2.out.1; omega, by have := (HONE.out k hk).1; have := HCL2.out.2; omega⟩))
          have HB8 := Lib.hid (HN8.out.bel HB5.out HCB2.out.1 HCB2.out.2)
          have KR8 := Lib.hid (results_law HC8.out)
          clear hd1 hd2 hd3 hd4 HNX7 HR7 HTW HZ7 HO5 HC5 HFT5 HONE HI6 HTB
          go_wp2_with fail
          refine KR8.out.mono ?_
          rintro e w9 ⟨hb9, g9, v9, rfl, hX9, -⟩
          obtain ⟨A9, n9, c9, rfl, -⟩ := hX9.sl
          have HX9 := Lib.hid hX9
          have HC9 := Lib.hid (HC8.out.same hb9)
          have HD9 := Lib.hid (HN8.out.cli.same hb9)
          have HO9 := Lib.hid (HO8.out.below hb9)
          have HT9 := Lib.hid (HN8.out.tw.below hb9)
          have HB9 := Lib.hid (HB8.out.trans (hb9.mono HB8.out.size))
          have KR9 := Lib.hid (results_law HD9.out)
          clear hb9 hX9 KR8 HO8 HC8
          go_wp2_with fail
          refine KR9.out.mono ?_
          rintro e w10 ⟨hb10, g10, v10, rfl, hX10, -⟩
          obtain ⟨A10, n10, c10, rfl, -⟩ := hX10.sl
          rw [← HPL.out] at hX10
          have HC10 := Lib.hid (HC9.out.same hb10)
          have HD10 := Lib.hid (HD9.out.same hb10)
          have HO10 := Lib.hid (HO9.out.below hb10)
          have HT10 := Lib.hid (HT9.out.below hb10)
          have HB10 := Lib.hid (HB9.out.trans (hb10.mono HB9.out.size))
          have KS := Lib.hid (sameR_walk w10 ((feedC (newM o) l1).ppl.map toldP) (HX9.out.same hb10.size (fun k hk => hb10.block k (HX9.out.lt hk))) hX10 (by rw [List.length_map]; have := HC10.out.ok.sz.n50; omega))
          clear hb10 hX10 KR9 HX9 HC9 HD9 HO9 HT9
          go_wp2_with fail
          refine KS.out.mono ?_
          rintro e w11 ⟨hb11, rfl⟩
          have HB11 := Lib.hid (HB10.out.trans (hb11.mono HB10.out.size))
          have KO1 := Lib.hid (over_law (HC10.out.same hb11))
          have KO2 := Lib.hid (over_law (HD10.out.same hb11))
          obtain ⟨A11, c11, e11, -, -, hr11⟩ := (HO10.out.below hb11).out
          obtain ⟨A12, c12, e12, -, -, hr12⟩ := (HT10.out.below hb11).out
          injection e11 with e11a e11b e11c
          injection e12 with e12a e12b e12c
          subst e11a e12a
          have hcv1 := run_convS (n := n5) hr11 c5 HN5.out.symm
          have hcv2 := run_convS (n := n8) hr12 c8 HNL.out
          rw [← HEQ.out] at hcv2
          rw [HDD.out] at KO2
          generalize decide ((feedC (newM o) l1).stage = 8) = D at *
          generalize bs (feedO (newM o) l1) = S at *
          clear hb11 KS hr11 hr12 e11b e11c e12b e12c HC10 HD10 HO10 HT10 HDD HEQ
          go_wp2_with fail
          refine KO1.out.mono ?_
          rintro e w12 ⟨rfl, rfl⟩
          clear KO1
          go_wp2_with fail
          refine KO2.out.mono ?_
          rintro e w12 ⟨rfl, rfl⟩
          clear KO2
          cases D
          all_goals
            go_wp2_with fail
            go_ret
            exact ⟨HB11.out, rfl⟩
end Go.Proofs.YtjnjnccfojfghaaGreatDoor
