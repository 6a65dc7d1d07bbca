/-
  Several texts in one (merge.py): SfRKp, SfRC0. Conditions: each part names its own.
-/
import Derived.Test.YtbpooaicmjkemaaGreatDoorSfRWr
import Derived.Test.YtbpooaicmjkemaaGreatDoorSfKeep
import Derived.Test.YtbpooaicmjkemaaGreatDoorSfRSd
import Derived.Test.YtbpooaicmjkemaaGreatDoorSfCr
/-! The walk of the document's keeps: what a crash leaves of a node. Conditions: the lengths. -/
namespace Go.Proofs.YtbpooaicmjkemaaGreatDoor
open Go.RowKit Go.Maps
set_option linter.unusedVariables false
/-- bytes whose block is new since w, or is never written again -/
def FzN (w : World) (own : Nat → Nat × Nat) (w' : World) (v : Value) (l : Tx) : Prop :=
  ∃ A c, v = .slice A l.length c ∧ l.length ≤ c ∧ c ≤ maxLen ∧ RB w' w'.heap.size A l ∧ ∀ b off, A = some ⟨b, off, none⟩ → l ≠ [] → w.heap.size ≤ b ∨ own b = frz
theorem FzV.n {w w' : World} {own : Nat → Nat × Nat} {v : Value} {l : Tx} (h : FzV w own v l) (hb : Below w.heap.size w w') : FzN w own w' v l := by
  obtain ⟨A, c, h1, h2, h3, h4⟩ := h
  refine ⟨A, c, h1, h2, h3, (h4.rb.below hb).mono hb.size, fun b off e hn => ?_⟩
  rcases h4 with h | ⟨b', off', e', ho, -⟩
  · exact absurd h hn
  · rw [e] at e'; cases e'; exact .inr ho
theorem OwnX.n {w w' : World} {own : Nat → Nat × Nat} {g : Option Nat} {v : Value} {l : Tx} (h : OwnX 1 w' g v (Lib.byteCells l)) (hg : ∀ k, g = some k → w.heap.size ≤ k) : FzN w own w' v l := by
  obtain ⟨A, n, c, rfl, h1, h2, h3⟩ := h.sl
  rw [byteCells_len, Nat.mul_one] at h1
  subst h1
  refine ⟨A, c, rfl, h2, h3, ?_, fun b off e hn => ?_⟩
  · rcases Nat.eq_zero_or_pos l.length with h0 | h0
    · exact .inl (List.eq_nil_of_length_eq_zero h0)
    · obtain ⟨g', off, e, rfl, hl, hc, -⟩ := h.at_ (by omega)
      refine .inr ⟨g', off, rfl, hl, fun i hi => ?_⟩
      rw [hc i (by rw [byteCells_len]; exact hi), bt_getElem hi]
      simp [Lib.byteCells, hi]
  · have hl0 := List.length_pos_iff.2 hn
    obtain ⟨g', off', e2, e3, -⟩ := h.at_ (by omega)
    rw [e] at e3; cases e3
    exact .inl (hg _ e2)
theorem FzN.below {w w1 w2 : World} {own : Nat → Nat × Nat} {v : Value} {l : Tx} (h : FzN w own w1 v l) (hb : Below w1.heap.size w1 w2) : FzN w own w2 v l := by
  obtain ⟨A, c, h1, h2, h3, h4, h5⟩ := h
  exact ⟨A, c, h1, h2, h3, (h4.below hb).mono hb.size, h5⟩
/-- with a mark for new blocks -/
theorem FzN.fz {w w1 w2 : World} {own own' : Nat → Nat × Nat} {v : Value} {l : Tx} (h : FzN w own w1 v l) (hs : w1.heap.size ≤ w2.heap.size) (hb : ∀ k, k < w1.heap.size → (w.heap.size ≤ k ∨ own k = frz) → w2.heap[k]? = w1.heap[k]?)
    (hm : ∀ A n c k off, v = .slice A n c → A = some ⟨k, off, none⟩ → l ≠ [] → k < w1.heap.size → (w.heap.size ≤ k ∨ own k = frz) → own' k = frz) : FzV w2 own' v l := by
  obtain ⟨A, c, h1, h2, h3, h4, h5⟩ := h
  refine ⟨A, c, h1, h2, h3, ?_⟩
  rcases h4 with h4 | ⟨b, off, rfl, hlt, hc⟩
  · exact .inl h4
  · by_cases hn : l = []
    · exact .inl hn
    · have hx := h5 b off rfl hn
      refine .inr ⟨b, off, rfl, hm _ _ _ b off h1 rfl hn hlt hx, Nat.lt_of_lt_of_le hlt hs, fun i hi => ?_⟩
      exact (World.cell?_of_block (hb b hlt hx)).trans (hc i hi)
/-! ### the walk -/
theorem keepB_stop : ∀ (ws : List Wr) (l : Tx) (n : Int), n ≤ 0 → keepB l ws n = l
  | [], l, n, h => rfl
  | y :: r, l, n, h => by
    have e : max n 0 = 0 := by omega
    have e2 : min (0 : Int) (y.b.length : Int) = 0 := by omega
    have e1 : laid l ⟨y.at_, y.b.take (max n 0).toNat⟩ = l := laid_none _ _ (by rw [e]; simp)
    show keepB (laid l ⟨y.at_, y.b.take (max n 0).toNat⟩) r (n - (min (max n 0) (y.b.length : Int))) = l
    rw [e1, e, e2]
    exact keepB_stop r l (n - 0) (by omega)
theorem KpI.stop {x : Nd} {n0 n : Int} {l : Tx} {j : Nat} (h : KpI x n0 j n l) (hj : x.waits.length ≤ j ∨ n ≤ 0) : keepN x n0 = ⟨l, l, []⟩ := by
  have e := h.eq
  have : keepB l (x.waits.drop j) n = l := by
    rcases hj with hj | hj
    · rw [List.drop_of_length_le hj]; rfl
    · exact keepB_stop _ _ _ hj
  rw [this] at e
  unfold keepN
  rw [← e]
theorem res_node {fn : Func} (hfn : fn.results = #[.cell 4 117]) {tm : Array Value} {W : World} {g : Nat} {a b c : Value} (hb : Blk W g 117 #[a, b, c]) (h2 : tm[4]?.getD undef = .pointer (some ⟨g, 0, none⟩)) :
    (results fn tm).run Tryz.prog W = .ok (.agg #[a, b, c]) W := by
  have k0 : W.cell? ⟨g, 0, none⟩ = some a := hb.cell 0
  have k1 : W.cell? ⟨g, 1, none⟩ = some b := hb.cell 1
  have k2 : W.cell? ⟨g, 2, none⟩ = some c := hb.cell 2
  simp [results, hfn, h2, k0, k1, k2, go_sem]
/-- a store into a block that holds no bytes -/
theorem FzN.far {w w1 : World} {own : Nat → Nat × Nat} {v : Value} {l : Tx} (h : FzN w own w1 v l) {g : Nat} {T : TypeId} {a b c : Value} (hB : Blk w1 g T #[a, b, c]) (ha : ∀ x, a ≠ .int .u8 x) (hb : ∀ x, b ≠ .int .u8 x) (hc : ∀ x, c ≠ .int .u8 x) (i : Nat) (u : Value) : FzN w own (w1.setCell ⟨g, i, none⟩ u) v l := by
  obtain ⟨A, cp, h1, h2, h3, h4, h5⟩ := h
  refine ⟨A, cp, h1, h2, h3, ?_, h5⟩
  rcases h4 with h4 | ⟨k, off, rfl, hlt, hcl⟩
  · exact .inl h4
  · rcases Nat.eq_zero_or_pos l.length with h0 | h0
    · exact .inl (List.eq_nil_of_length_eq_zero h0)
    · have hne : k ≠ g := by
        rintro rfl
        have h6 := hcl 0 h0
        rw [hB.cell] at h6
        have : ∀ j : Nat, (#[a, b, c] : Array Value)[j]? ≠ some (.int .u8 (bt l 0)) := fun j e => by
          match j with
          | 0 => exact ha _ (by simpa using e)
          | 1 => exact hb _ (by simpa using e)
          | 2 => exact hc _ (by simpa using e)
          | j + 3 => simp at e
        exact this _ h6
      exact .inr ⟨k, off, rfl, by simpa using hlt, fun j hj => (World.cell?_of_block (w := w1) (Below.heap_setCell w1 ⟨g, i, none⟩ u k hne)).trans (hcl j hj)⟩
def KpPost (w : World) (own : Nat → Nat × Nat) (x : Nd) (n : Int) (e : Ending) (w' : World) : Prop :=
  Below w.heap.size w w' ∧ ∃ v, e = .returned (.agg #[v, v, .slice none 0 0]) ∧ FzN w own w' v (keepN x n).now ∧ keepN x n = ⟨(keepN x n).now, (keepN x n).now, []⟩
set_option maxRecDepth 100000 in
set_option maxHeartbeats 4000000 in
theorem rkeeps_walk (z : Nat) (w : World) (own : Nat → Nat × Nat) (i : Nat) (m : NdV) (x : Nd) (h : RNd z w own i m x) {K : Nat} (hk : NdOk x K) (hK : K ≤ 100000) (n : Int) (hn1 : -9223372036854775808 ≤ n) (hn2 : n ≤ 9223372036854775807) :
    Calls Tryz.prog 104 #[.agg #[m.vn, m.vl, m.vw], .int .i64 n] w (KpPost w own x n) := by
  obtain ⟨Aw, N, cw, ew, hxw, hcw, hmw⟩ := h.wts.sl
  have hW := h.wts
  rw [ew] at hW
  obtain ⟨hN, -, -⟩ := hW.count (by decide) (wrRow_all _ _)
  rw [wrRow_len h.wrs.1] at hN
  have HAT : Hid (∀ (j : Nat) (y : Wr), x.waits[j]? = some y → ∃ bb off Ab cb, Aw = some ⟨bb, off, none⟩ ∧ bb < w.heap.size ∧ w.cell? ⟨bb, off + j * 2, none⟩ = some (.int .i64 y.at_) ∧ w.cell? ⟨bb, off + j * 2 + 1, none⟩ = some (.slice Ab y.b.length cb) ∧ y.b.length ≤ cb ∧ cb ≤ maxLen ∧ FzA w own Ab y.b) := Lib.hid fun j y hy => by
    have hj := (List.getElem?_eq_some_iff.1 hy).1
    obtain ⟨v, hv⟩ : ∃ v, m.vs[j]? = some v := ⟨_, List.getElem?_eq_getElem (by rw [h.wrs.1]; exact hj)⟩
    obtain ⟨-, -, -, -, bb, off, -, rfl, hlt, hc⟩ := hW.elem (by decide) (wrRow_all _ _) (wrRow_at hv hy)
    obtain ⟨Ab, cb, rfl, h1, h2, h3⟩ := h.wrs.2 j v y hv hy
    exact ⟨bb, off, Ab, cb, rfl, hlt, (hc 0 (by decide)).1, (hc 1 (by decide)).1, h1, h2, h3⟩
  have HN := Lib.hid hN
  have HK := Lib.hid hk
  have hKn : N ≤ 100000 := by have := hk.lw; omega
  have HST : Hid (KpI x n 0 n x.lasts) := Lib.hid (KpI.start hk hn1 hn2)
  have hb1 := (Below.refl w.heap.size w).alloc (Nat.le_refl _) (.cells #[m.vn, m.vl, .slice Aw N cw] 117)
  have hb2 := hb1.alloc hb1.size (.cells #[.slice none 0 0, .slice none 0 0, .slice none 0 0] 117)
  have HB2 := Lib.hid hb2
  have HX := Lib.hid ((Blk.new w 117 #[m.vn, m.vl, .slice Aw N cw]).alloc (.cells #[.slice none 0 0, .slice none 0 0, .slice none 0 0] 117))
  have HY := Lib.hid (Blk.new (w.alloc (.cells #[m.vn, m.vl, .slice Aw N cw] 117)) 117 #[.slice none 0 0, .slice none 0 0, .slice none 0 0])
  have hs1 : (w.alloc (.cells #[m.vn, m.vl, .slice Aw N cw] 117)).heap.size = w.heap.size + 1 := by simp
  rw [hs1] at HY
  obtain ⟨Al, cl, el, hl1, hl2, hl3⟩ := h.lasts
  have HL0 : Hid (FzN w own ((w.alloc (.cells #[m.vn, m.vl, .slice Aw N cw] 117)).alloc (.cells #[.slice none 0 0, .slice none 0 0, .slice none 0 0] 117)) m.vl x.lasts) := Lib.hid (FzV.n ⟨Al, cl, el, hl1, hl2, hl3⟩ hb2)
  obtain ⟨An, cn, en, -⟩ := h.now
  rw [ew, el, en]
  rw [el, en] at HX HY HL0 HB2
  clear hb1 hb2 hs1 h hW hN hk ew hxw hcw hmw el hl1 hl2 hl3 en hn1 hn2
  generalize x.now.length = nl at *
  generalize x.lasts.length = ll at *
  have x1 := HX.out.cell 1
  go_enter Tryz.func104, Tryz.ntmps104
  go_upto_region 3 with fail
  generalize hw2 : ((w.alloc (.cells #[.slice An nl cn, .slice Al ll cl, .slice Aw N cw] 117)).alloc (.cells #[.slice none 0 0, .slice none 0 0, .slice none 0 0] 117)) = w2 at *
  clear hw2 x1
  go_loopg [1, 5, 6, 7] N (fun k s1 s5 s6 s7 wr => ∃ (j : Nat) (n' : Int) (l : Tx), s6 = .int .i64 (j : Int) ∧ s1 = .int .i64 n' ∧ j + k = N ∧ Hid (KpI x n j n' l) ∧ Hid (FzN w own wr s5 l) ∧ Hid (Below w.heap.size w wr) ∧ Hid (Blk wr w.heap.size 117 #[.slice An nl cn, .slice Al ll cl, .slice Aw N cw]) ∧ Hid (Blk wr (w.heap.size + 1) 117 #[.slice none 0 0, .slice none 0 0, .slice none 0 0]))
  case atStart => exact ⟨0, n, x.lasts, rfl, rfl, by omega, HST, HL0, HB2, HX, HY⟩
  case round =>
    obtain ⟨j, n', l, rfl, rfl, hj, HI, HF, HB, HBx, HBy⟩ := hrel
    have z2 : wr.cell? ⟨w.heap.size, 2, none⟩ = some (.slice Aw N cw) := HBx.out.cell 2
    have hs2 : w.heap.size + 1 < wr.heap.size := HBy.out.lt
    obtain ⟨A5, c5, rfl, h51, h52, h53, -⟩ := HF.out
    by_cases hgo : j < N ∧ 0 < n'
    · obtain ⟨hlt, hn0⟩ := hgo
      have hlt1 : (j : Int) < (N : Int) := by omega
      obtain ⟨y, hy⟩ : ∃ y, x.waits[j]? = some y := ⟨_, List.getElem?_eq_getElem (by rw [← HN.out]; exact hlt)⟩
      obtain ⟨bb, off, Ab, cb, rfl, hbl, c0, c1, hyc, hcm, hfz⟩ := HAT.out j y hy
      have q0 : wr.cell? ⟨bb, off + j * 2, none⟩ = some (.int .i64 y.at_) := (HB.out.cell (p := ⟨bb, off + j * 2, none⟩) hbl).trans c0
      have q1 : wr.cell? ⟨bb, off + j * 2 + 1, none⟩ = some (.slice Ab y.b.length cb) := (HB.out.cell (p := ⟨bb, off + j * 2 + 1, none⟩) hbl).trans c1
      have hyl : y.b.length ≤ 67108864 := HK.out.lb y (List.mem_of_getElem? hy)
      obtain ⟨m, hm⟩ : ∃ m : Nat, (m : Int) = min (max n' 0) (y.b.length : Int) := ⟨(min (max n' 0) (y.b.length : Int)).toNat, by omega⟩
      obtain ⟨hnx, -, hml, htl⟩ := HI.out.next HK.out hy m hm
      have hfit : FitW l ⟨y.at_, y.b.take m⟩ := by
        have hcons : x.waits.drop j = y :: x.waits.drop (j + 1) := by
          obtain ⟨h1, h2⟩ := List.getElem?_eq_some_iff.1 hy
          rw [List.drop_eq_getElem_cons h1, h2]
        have hch : ChainW l (y :: x.waits.drop (j + 1)) x.now := by
          rcases HI.out.ch with h0 | h0
          · omega
          · rw [← hcons]; exact h0
        rcases hch.1 with hf | ⟨h1, h2⟩
        · exact .inl hf
        · refine .inr ⟨h1, ?_⟩
          show y.at_.toNat + (y.b.take m).length ≤ _
          omega
      have hlo := HI.out.lo
      have hhi := HI.out.hi
      have hw1 : IntKind.i64.wrap (n' - (m : Int)) = n' - (m : Int) := IntWalk.i64_in _ (by omega)
      have HNX := Lib.hid hnx
      have HFIT := Lib.hid hfit
      have HTL := Lib.hid htl
      have ha : max n' 0 = n' := by omega
      rw [ha] at hm
      obtain ⟨yl, hyl0⟩ : ∃ yl, y.b.length = yl := ⟨_, rfl⟩
      have HYL := Lib.hid hyl0
      rw [hyl0] at q1 hm hyl hml hyc
      have hm' : min n' (yl : Int) = (m : Int) := hm.symm
      have hml1 : (m : Int) ≤ (yl : Int) := by omega
      have hmc1 : (m : Int) ≤ (cb : Int) := by omega
      have hcb1 : (cb : Int) ≤ 9223372036854775807 := by unfold maxLen at hcm; omega
      have HCM := Lib.hid hcm
      have HLN := Lib.hid HI.out.ln
      have HRB : Hid (RB wr wr.heap.size Ab y.b) := Lib.hid ((hfz.rb.below HB.out).mono HB.out.size)
      have HBX := Lib.hid (Blk.new wr 135 #[.int .i64 y.at_, .slice Ab yl cb])
      have x1 : (wr.alloc (.cells #[.int .i64 y.at_, .slice Ab yl cb] 135)).cell? ⟨wr.heap.size, 1, none⟩ = some (.slice Ab yl cb) := HBX.out.cell 1
      have f1 : (wr.alloc (.cells #[.int .i64 y.at_, .slice Ab yl cb] 135)).frozen? ⟨wr.heap.size, 1, none⟩ = false := HBX.out.frozen 1
      have H53 := Lib.hid h53
      have H52 := Lib.hid h52
      clear c0 c1 hfz hnx hfit htl hy hm hyl0 hbl hcm hlo hhi ha h53 h52
      have hl52 : l.length ≤ c5 := h51
      go_upto_region 7 with fail
      have HBX1 := Lib.hid (Blk.new wr 135 #[.int .i64 y.at_, .slice Ab m cb])
      have HB1 : Hid (Below wr.heap.size wr (wr.alloc (.cells #[.int .i64 y.at_, .slice Ab m cb] 135))) := Lib.hid ((Below.refl wr.heap.size wr).alloc (Nat.le_refl _) _)
      clear x1 f1 HBX
      have hs1 : (wr.alloc (.cells #[.int .i64 y.at_, .slice Ab m cb] 135)).heap.size = wr.heap.size + 1 := by simp
      have HS1 := Lib.hid hs1
      clear hs1
      generalize hw1 : wr.alloc (.cells #[.int .i64 y.at_, .slice Ab m cb] 135) = w1 at *
      clear hw1
      have x0 : w1.cell? ⟨wr.heap.size, 0, none⟩ = some (.int .i64 y.at_) := HBX1.out.cell 0
      have x1 : w1.cell? ⟨wr.heap.size, 1, none⟩ = some (.slice Ab m cb) := HBX1.out.cell 1
      have KL := Lib.hid (rlaid_walk w1 A5 l.length c5 l ((H53.out.below HB1.out).mono HB1.out.size) rfl Ab m cb ⟨y.at_, y.b.take m⟩ (((HRB.out.below HB1.out).mono HB1.out.size).take m) HTL.out.symm (by
        rcases HFIT.out with hf | ⟨h1, h2⟩
        · left; have hf : y.at_ = -1 := hf; omega
        · right
          have h1 : 0 ≤ y.at_ := h1
          have h2 : y.at_.toNat + (y.b.take m).length ≤ l.length := h2
          have h3 := HTL.out
          rw [h3] at h2
          exact ⟨y.at_.toNat, (Int.toNat_of_nonneg h1).symm, h2⟩) (by have := HLN.out; omega))
      go_wp2_with fail
      refine KL.out.mono ?_
      rintro e w5 ⟨hb5, g5, v5, rfl, hX5, ho5⟩
      have HB5 := Lib.hid (HB1.out.trans (hb5.mono HB1.out.size))
      have HN5 : Hid (FzN w own w5 v5 (laid l ⟨y.at_, y.b.take m⟩)) := Lib.hid (hX5.n fun k e => Nat.le_trans HB.out.size (Nat.le_trans HB1.out.size (ho5 k e)))
      clear hb5 hX5 ho5 KL x0 x1
      go_wp2_with fail
      go_roundg (gk - 1)
      case rel =>
        refine ⟨j + 1, n' - (m : Int), laid l ⟨y.at_, y.b.take m⟩, by go_num, rfl, by omega, HNX, HN5, Lib.hid (HB.out.trans (HB5.out.mono HB.out.size)), Lib.hid (HBx.out.keep HB5.out), Lib.hid (HBy.out.keep HB5.out)⟩
      case measure => omega
    · have HD : Hid (keepN x n = ⟨l, l, []⟩) := Lib.hid (HI.out.stop (by rw [← HN.out]; omega))
      have y0 := HBy.out.cell 0
      have y1 := HBy.out.cell 1
      have y2 := HBy.out.cell 2
      have g0 := HBy.out.frozen 0
      have g1 := HBy.out.frozen 1
      have g2 := HBy.out.frozen 2
      have HF2 : Hid (FzN w own wr (.slice A5 l.length c5) l) := HF
      have fin : Hid (∀ B0 : Blk (((wr.setCell ⟨w.heap.size + 1, 0, none⟩ (.slice A5 l.length c5)).setCell ⟨w.heap.size + 1, 1, none⟩ (.slice A5 l.length c5)).setCell ⟨w.heap.size + 1, 2, none⟩ (.slice none 0 0)) (w.heap.size + 1) 117 #[.slice A5 l.length c5, .slice A5 l.length c5, .slice none 0 0], KpPost w own x n (.returned (.agg #[.slice A5 l.length c5, .slice A5 l.length c5, .slice none 0 0])) (((wr.setCell ⟨w.heap.size + 1, 0, none⟩ (.slice A5 l.length c5)).setCell ⟨w.heap.size + 1, 1, none⟩ (.slice A5 l.length c5)).setCell ⟨w.heap.size + 1, 2, none⟩ (.slice none 0 0))) := Lib.hid fun B0 => by
        have b1 := HBy.out.set_ 0 (.slice A5 l.length c5)
        have b2 := b1.set_ 1 (.slice A5 l.length c5)
        refine ⟨((HB.out.setCell (by show w.heap.size ≤ w.heap.size + 1; omega) _).setCell (by show w.heap.size ≤ w.heap.size + 1; omega) _).setCell (by show w.heap.size ≤ w.heap.size + 1; omega) _, .slice A5 l.length c5, rfl, ?_, by rw [HD.out]⟩
        rw [HD.out]
        exact ((HF2.out.far HBy.out (by simp) (by simp) (by simp) 0 _).far (show Blk _ _ _ #[.slice A5 l.length c5, .slice none 0 0, .slice none 0 0] from b1) (by simp) (by simp) (by simp) 1 _).far (show Blk _ _ _ #[.slice A5 l.length c5, .slice A5 l.length c5, .slice none 0 0] from b2) (by simp) (by simp) (by simp) 2 _
      clear h53 h52 HAT HK HST HL0
      by_cases hlt : j < N
      · have hlt1 : (j : Int) < (N : Int) := by omega
        have hn0 : ¬ 0 < n' := fun h => hgo ⟨hlt, h⟩
        clear hgo
        go_wp2_with fail
        have B0 : Blk _ (w.heap.size + 1) 117 #[.slice A5 l.length c5, .slice A5 l.length c5, .slice none 0 0] := ((HBy.out.set_ 0 (.slice A5 l.length c5)).set_ 1 (.slice A5 l.length c5)).set_ 2 (.slice none 0 0)
        refine bodyPost_ret (res_node rfl B0 rfl) rfl ?_
        exact fin.out B0
      · have hlt1 : ¬ (j : Int) < (N : Int) := by omega
        clear hgo
        go_wp2_with fail
        have B0 : Blk _ (w.heap.size + 1) 117 #[.slice A5 l.length c5, .slice A5 l.length c5, .slice none 0 0] := ((HBy.out.set_ 0 (.slice A5 l.length c5)).set_ 1 (.slice A5 l.length c5)).set_ 2 (.slice none 0 0)
        refine bodyPost_ret (res_node rfl B0 rfl) rfl ?_
        exact fin.out B0
end Go.Proofs.YtbpooaicmjkemaaGreatDoor

/-! A node's waiting bytes as they lie in the document's memory; a node that was kept. No condition. -/
namespace Go.Proofs.YtbpooaicmjkemaaGreatDoor
open Go.RowKit Go.Maps
set_option linter.unusedVariables false
/-! ### the bytes that wait, write by write -/
def wtS (x : Nd) (j : Nat) : Nat := ((x.waits.take j).map fun y => y.b.length).sum
theorem wtS_zero (x : Nd) : wtS x 0 = 0 := by unfold wtS; simp
theorem wtS_succ {x : Nd} {j : Nat} {y : Wr} (h : x.waits[j]? = some y) : wtS x (j + 1) = wtS x j + y.b.length := by
  obtain ⟨h1, h2⟩ := List.getElem?_eq_some_iff.1 h
  unfold wtS
  rw [List.take_succ_eq_append_getElem h1, h2, List.map_append, List.sum_append]
  simp
theorem wtS_full {x : Nd} : wtS x x.waits.length = waitN x := by unfold wtS waitN; rw [List.take_length]
theorem sum_bound (f : Wr → Nat) (M : Nat) : ∀ (L : List Wr), (∀ y ∈ L, f y ≤ M) → (L.map f).sum ≤ L.length * M
  | [], _ => by simp
  | y :: r, h => by
    have h1 := sum_bound f M r fun z hz => h z (List.mem_cons_of_mem _ hz)
    have h2 := h y List.mem_cons_self
    rw [List.map_cons, List.sum_cons, List.length_cons, Nat.succ_mul]
    omega
theorem wtS_le {x : Nd} {K : Nat} (h : NdOk x K) (j : Nat) : wtS x j ≤ K * 67108864 := by
  unfold wtS
  refine Nat.le_trans (sum_bound _ 67108864 _ fun y hy => h.lb y (List.mem_of_mem_take hy)) (Nat.mul_le_mul_right _ ?_)
  rw [List.length_take]
  have := h.lw
  omega
section
variable {z db : Nat} {w : World} {own : Nat → Nat × Nat} {d : Dk} {q : RParts}
/-- node i's waits, in every later world -/
theorem RSt.wtAt (h : RSt z w own db d q) {i : Nat} {x : Nd} (hx : d.nodes[i]? = some x) : ∃ g off nn cn Aw nw cw, nn = d.nodes.length ∧ nw = x.waits.length ∧ ∀ W, Below w.heap.size w W → W.cell? ⟨db, 2, none⟩ = some (.slice (some ⟨g, off, none⟩) nn cn) ∧ W.cell? ⟨g, off + i * 3 + 2, none⟩ = some (.slice Aw nw cw) ∧
    ∀ (j : Nat) (y : Wr), x.waits[j]? = some y → ∃ b o Ab cb, Aw = some ⟨b, o, none⟩ ∧ W.cell? ⟨b, o + j * 2 + 1, none⟩ = some (.slice Ab y.b.length cb) := by
  obtain ⟨m, g, off, nn, cn, hm, hg, hvn, hnn, hnc, hgl, n0, n1, n2, hN⟩ := h.rest.ndAt hx
  obtain ⟨Aw, nw, cw, ew, hxw, hcw, hmw⟩ := hN.wts.sl
  have hW := hN.wts
  rw [ew] at hW
  obtain ⟨hnw, -, -⟩ := hW.count (by decide) (wrRow_all _ _)
  rw [wrRow_len hN.wrs.1] at hnw
  refine ⟨g, off, nn, cn, Aw, nw, cw, hnn, hnw, fun W hb => ⟨by rw [← hvn]; exact (h.blk.keep hb).cell 2, by rw [← ew]; exact (hb.cell (p := ⟨g, off + i * 3 + 2, none⟩) hgl).trans n2, fun j y hy => ?_⟩⟩
  have hj := (List.getElem?_eq_some_iff.1 hy).1
  obtain ⟨v, hv⟩ : ∃ v, m.vs[j]? = some v := ⟨_, List.getElem?_eq_getElem (by rw [hN.wrs.1]; exact hj)⟩
  obtain ⟨-, -, -, -, bb, o, -, rfl, hlt, hc⟩ := hW.elem (by decide) (wrRow_all _ _) (wrRow_at hv hy)
  obtain ⟨Ab, cb, rfl, -⟩ := hN.wrs.2 j v y hv hy
  exact ⟨bb, o, Ab, cb, rfl, (hb.cell (p := ⟨bb, o + j * 2 + 1, none⟩) hlt).trans (hc 1 (by decide)).1⟩
/-- a node that was kept, put back -/
theorem rkp_end {i g off nn cn : Nat} {w4 : World} {m : NdV} {x : Nd} {v : Value} {l : Tx} (h : RSt z w own db d q) (hm : q.ms[i]? = some m) (hx : d.nodes[i]? = some x) (hg : q.gn = some g) (hvn : q.vn = .slice (some ⟨g, off, none⟩) nn cn)
    (hb4 : Below w.heap.size w w4) (hF : FzN w own w4 v l) :
    ∃ own', (∃ q', RSt z (((w4.setCell ⟨g, off + i * 3, none⟩ v).setCell ⟨g, off + i * 3 + 1, none⟩ v).setCell ⟨g, off + i * 3 + 2, none⟩ (.slice none 0 0)) own' db { d with nodes := d.nodes.set i ⟨l, l, []⟩ } q') ∧
      Turn (isD z) w (((w4.setCell ⟨g, off + i * 3, none⟩ v).setCell ⟨g, off + i * 3 + 1, none⟩ v).setCell ⟨g, off + i * 3 + 2, none⟩ (.slice none 0 0)) own own' := by
  have r := h.rest
  have hdm := h.mark
  have hgm := r.mn g hg
  have hgw := r.nodes.lt hg
  have s4 := hb4.size
  have hF0 : FzN w own w4 v l := hF
  obtain ⟨Av, cv, ev, -⟩ := hF
  have gdb : db ≠ g := fun e => by rw [e, hgm] at hdm; simp at hdm
  have st : ∀ k, k ≠ g → (((w4.setCell ⟨g, off + i * 3, none⟩ v).setCell ⟨g, off + i * 3 + 1, none⟩ v).setCell ⟨g, off + i * 3 + 2, none⟩ (.slice none 0 0)).heap[k]? = w4.heap[k]? := fun k h3 =>
    (Below.heap_setCell _ ⟨g, off + i * 3 + 2, none⟩ _ k h3).trans ((Below.heap_setCell _ ⟨g, off + i * 3 + 1, none⟩ _ k h3).trans (Below.heap_setCell w4 ⟨g, off + i * 3, none⟩ v k h3))
  have hsW : (((w4.setCell ⟨g, off + i * 3, none⟩ v).setCell ⟨g, off + i * 3 + 1, none⟩ v).setCell ⟨g, off + i * 3 + 2, none⟩ (.slice none 0 0)).heap.size = w4.heap.size := by simp
  have hi := (List.getElem?_eq_some_iff.1 hx).1
  have hS : Safe (fun k => k < w.heap.size ∧ butNode z i (own k)) w (((w4.setCell ⟨g, off + i * 3, none⟩ v).setCell ⟨g, off + i * 3 + 1, none⟩ v).setCell ⟨g, off + i * 3 + 2, none⟩ (.slice none 0 0)) :=
    ⟨hb4.os, hb4.tape, hb4.output, by rw [hsW]; omega, fun k ⟨k1, k2, k3, k4⟩ => (st k (fun e => k3 (by rw [e]; exact hgm))).trans (hb4.block k k1)⟩
  have hO := r.nodes
  rw [hvn] at hO
  have hrow : (q.ms.map ndC)[i]? = some (ndC m) := by rw [List.getElem?_map, hm]; rfl
  have hil : i < (q.ms.map ndC).length := (List.getElem?_eq_some_iff.1 hrow).1
  have hO6 := (hO.below hb4 fun k e => r.nodes.lt e).put_ (by decide) (nd_all _) hrow (j := 0) (by decide) v
  have hO7 := hO6.put_ (by decide) (set_all (nd_all _) (by rfl)) (i := i) (r := (ndC m).set 0 v) (by rw [List.getElem?_set_self hil]) (j := 1) (by decide) v
  have hO8 := hO7.put_ (by decide) (set_all (set_all (nd_all _) (by rfl)) (by rfl)) (i := i) (r := ((ndC m).set 0 v).set 1 v) (by rw [List.getElem?_set_self (by rw [List.length_set]; exact hil)]) (j := 2) (by decide) (.slice none 0 0)
  have hfz : FzV (((w4.setCell ⟨g, off + i * 3, none⟩ v).setCell ⟨g, off + i * 3 + 1, none⟩ v).setCell ⟨g, off + i * 3 + 2, none⟩ (.slice none 0 0)) (newM w own fun k => if blkOf Av = some k then frz else (0, 0)) v l := by
    refine hF0.fz (by rw [hsW]; exact Nat.le_refl _) (fun k hk hx => st k fun e => ?_) fun A n c k o e1 e2 hn hk hx => ?_
    · rcases hx with hx | hx
      · omega
      · rw [e, hgm] at hx; unfold frz at hx; simp at hx
    · rw [ev] at e1
      injection e1 with e1 _ _
      by_cases hkw : k < w.heap.size
      · rw [newM_old hkw]
        rcases hx with hx | hx
        · omega
        · exact hx
      · rw [newM_new (by omega), if_pos (by rw [e1, e2]; rfl)]
  have hfin := rnode_fin (f := fun k => if blkOf Av = some k then frz else (0, 0)) (m' := ⟨v, v, .slice none 0 0, none, []⟩) (x' := ⟨l, l, []⟩) (vn' := q.vn) (gn' := q.gn) (d' := { d with nodes := d.nodes.set i ⟨l, l, []⟩ }) h hi hS ?_ (fun k e => ?_) ⟨hfz, hfz, OwnX.nil _ none, ⟨rfl, fun j v y hv => by simp at hv⟩, fun k e => by cases e⟩ ?_ ⟨rfl, rfl, rfl, rfl, rfl, rfl⟩
  · exact ⟨_, ⟨_, hfin.1⟩, hfin.2⟩
  · rw [hvn]
    have e1 : (q.ms.set i ⟨v, v, .slice none 0 0, none, []⟩).map ndC = (((q.ms.map ndC).set i ((ndC m).set 0 v)).set i (((ndC m).set 0 v).set 1 v)).set i ((((ndC m).set 0 v).set 1 v).set 2 (.slice none 0 0)) := by
      rw [List.set_set, List.set_set, List.map_set]; rfl
    rw [e1]
    exact hO8
  · rw [newM_old (r.nodes.lt e)]; exact r.mn k e
  · exact (h.blk.keep hb4).at_ (st db gdb)
/-- all that waited is told or gone: the entries are those that last -/
theorem rcut_end (h : RSt z w own db d q) :
    ∃ own', (∃ q', RSt z ((w.setCell ⟨db, 5, none⟩ (.slice none 0 0)).setCell ⟨db, 3, none⟩ q.vl) own' db { d with waits := [], now := d.lasts } q') ∧ Turn (isD z) w ((w.setCell ⟨db, 5, none⟩ (.slice none 0 0)).setCell ⟨db, 3, none⟩ q.vl) own own' := by
  have r := h.rest
  have hdm := h.mark
  have st : ∀ k, k ≠ db → ((w.setCell ⟨db, 5, none⟩ (.slice none 0 0)).setCell ⟨db, 3, none⟩ q.vl).heap[k]? = w.heap[k]? := fun k h3 =>
    (Below.heap_setCell _ ⟨db, 3, none⟩ _ k h3).trans (Below.heap_setCell _ ⟨db, 5, none⟩ _ k h3)
  have hS : Safe (fun k => k < w.heap.size ∧ own k ≠ (10 * z + 1, 0) ∧ own k ≠ (10 * z + 1, 4)) w ((w.setCell ⟨db, 5, none⟩ (.slice none 0 0)).setCell ⟨db, 3, none⟩ q.vl) :=
    ⟨rfl, rfl, rfl, by simp, fun k ⟨k1, k2, k3⟩ => st k (fun e => k2 (by rw [e]; exact hdm))⟩
  have hg : Goes (fun t => t ≠ (10 * z + 1, 0) ∧ t ≠ (10 * z + 1, 4)) w ((w.setCell ⟨db, 5, none⟩ (.slice none 0 0)).setCell ⟨db, 3, none⟩ q.vl) own (newM w own fun _ => (0, 0)) := hS.goes fun k k1 k2 => ⟨k1, k2⟩
  have fzk : (fun t : Nat × Nat => t ≠ (10 * z + 1, 0) ∧ t ≠ (10 * z + 1, 4)) frz := by unfold frz; simp
  have hfin := rst_fin (f := fun _ => (0, 0)) (d' := { d with waits := [], now := d.lasts }) (ve := q.vl) (vl := q.vl) (vc := .slice none 0 0) (gc := none) h hS ((h.blk.set_ 5 (.slice none 0 0)).set_ 3 q.vl) rfl rfl (r.lasts.goes hg fzk) (r.lasts.goes hg fzk) (OwnX.nil _ none) (fun k e => by cases e)
  exact ⟨_, ⟨_, hfin.1⟩, hfin.2⟩
end
/-- how far the document's keeping has come -/
def RCrI (z : Nat) (w2 : World) (own2 : Nat → Nat × Nat) (db : Nat) (d1 : Dk) (kw : List Int) (i : Nat) (wr : World) : Prop :=
  ∃ ownr, (∃ q, RSt z wr ownr db { d1 with nodes := ndK d1.nodes kw i } q) ∧ Turn (isD z) w2 wr own2 ownr
end Go.Proofs.YtbpooaicmjkemaaGreatDoor
