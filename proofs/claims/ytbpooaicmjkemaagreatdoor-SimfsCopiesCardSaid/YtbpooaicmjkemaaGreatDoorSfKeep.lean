/-
  The walk of a file's keep: what a crash leaves of it. Conditions: the lengths.
-/
import Derived.Test.YtbpooaicmjkemaaGreatDoorRun9
import Derived.Test.YtbpooaicmjkemaaGreatDoorLibAll
namespace Go.Proofs.YtbpooaicmjkemaaGreatDoor
open Go.RowKit Go.Maps
set_option linter.unusedVariables false
/-! ### what is kept, write by write -/
theorem keepB_step {l : Tx} {ws : List Wr} {j : Nat} {y : Wr} {n : Int} (h : ws[j]? = some y) : keepB l (ws.drop j) n = keepB (laid l ⟨y.at_, y.b.take (max n 0).toNat⟩) (ws.drop (j + 1)) (n - min (max n 0) (y.b.length : Int)) := by
  obtain ⟨h1, h2⟩ := List.getElem?_eq_some_iff.1 h
  rw [List.drop_eq_getElem_cons h1, h2]
  rfl
/-- how far a file's keeping has come -/
structure KpI (x : Nd) (n0 : Int) (j : Nat) (n : Int) (l : Tx) : Prop where
  eq : keepB l (x.waits.drop j) n = keepB x.lasts x.waits n0
  ch : n ≤ 0 ∨ ChainW l (x.waits.drop j) x.now
  ln : l.length ≤ 67108864
  lo : -9223372036854775808 ≤ n
  hi : n ≤ 9223372036854775807
theorem KpI.start {x : Nd} {K : Nat} (hk : NdOk x K) {n : Int} (h1 : -9223372036854775808 ≤ n) (h2 : n ≤ 9223372036854775807) : KpI x n 0 n x.lasts := ⟨rfl, .inr hk.ch, hk.ll, h1, h2⟩
theorem KpI.next {x : Nd} {K : Nat} (hk : NdOk x K) {n0 n : Int} {j : Nat} {l : Tx} {y : Wr} (h : KpI x n0 j n l) (hy : x.waits[j]? = some y) (m : Nat) (hm : (m : Int) = min (max n 0) (y.b.length : Int)) :
    KpI x n0 (j + 1) (n - (m : Int)) (laid l ⟨y.at_, y.b.take m⟩) ∧ (y.b.take m = [] ∨ FitW l ⟨y.at_, y.b.take m⟩) ∧ m ≤ y.b.length ∧ (y.b.take m).length = m := by
  have hml : m ≤ y.b.length := by omega
  have htl : (y.b.take m).length = m := by rw [List.length_take]; omega
  have ht : y.b.take (max n 0).toNat = y.b.take m := by
    by_cases hc : max n 0 ≤ (y.b.length : Int)
    · have : (max n 0).toNat = m := by omega
      rw [this]
    · rw [List.take_of_length_le (by omega), List.take_of_length_le (by omega)]
  have hs := keepB_step (l := l) (n := n) hy
  rw [ht, ← hm] at hs
  have hcons : x.waits.drop j = y :: x.waits.drop (j + 1) := by
    obtain ⟨h1, h2⟩ := List.getElem?_eq_some_iff.1 hy
    rw [List.drop_eq_getElem_cons h1, h2]
  have hlo := h.lo
  have hhi := h.hi
  by_cases hn : n ≤ 0
  · obtain rfl : m = 0 := by omega
    have e0 : laid l ⟨y.at_, y.b.take 0⟩ = l := laid_none _ _ (by simp)
    rw [e0] at hs ⊢
    have e1 : n - ((0 : Nat) : Int) = n := by omega
    rw [e1] at hs ⊢
    exact ⟨⟨hs.symm.trans h.eq, .inl hn, h.ln, hlo, hhi⟩, .inl (by simp), hml, htl⟩
  · have hch : ChainW l (y :: x.waits.drop (j + 1)) x.now := by
      rcases h.ch with h0 | h0
      · exact absurd h0 hn
      · rw [← hcons]; exact h0
    obtain ⟨hf, hch2⟩ := hch
    have hfit : FitW l ⟨y.at_, y.b.take m⟩ := by
      rcases hf with hf | ⟨h1, h2⟩
      · exact .inl hf
      · refine .inr ⟨h1, ?_⟩
        show y.at_.toNat + (y.b.take m).length ≤ _
        omega
    have hll := hch2.len
    rw [laid_len hf] at hll
    have hnow := hk.ln
    refine ⟨⟨hs.symm.trans h.eq, ?_, ?_, by omega, by omega⟩, .inr hfit, hml, htl⟩
    · by_cases hm2 : m = y.b.length
      · right
        have : y.b.take m = y.b := by rw [hm2, List.take_length]
        rw [this]
        exact hch2
      · left; omega
    · rw [laid_len hfit]
      show l.length + (if y.at_ < 0 then (y.b.take m).length else 0) ≤ _
      rw [htl]
      split
      · rename_i hc; rw [if_pos hc] at hll; omega
      · exact h.ln
theorem KpI.done {x : Nd} {n0 n : Int} {l : Tx} (h : KpI x n0 x.waits.length n l) : keepN x n0 = ⟨l, l, []⟩ := by
  have e := h.eq
  rw [List.drop_length] at e
  have : keepB l [] n = l := rfl
  rw [this] at e
  unfold keepN
  rw [← e]
/-! ### the walk -/
def KeepPost (z i : Nat) (w : World) (own : Nat → Nat × Nat) (b : Nat) (x : Nd) (e : Ending) (w' : World) : Prop := ∃ own', FSt z w' own' i b x ∧ Turn (isFile z i) w w' own own' ∧ e = .returned (.tuple #[])
/-- the blocks that keep leaves -/
def kpS (z i : Nat) (w : World) (own : Nat → Nat × Nat) (b : Nat) (k : Nat) : Prop := k < w.heap.size ∧ k ≠ b ∧ own k ≠ (10 * z + 4, i)
theorem keep_end {z i b : Nat} {w wr w3 : World} {own : Nat → Nat × Nat} {x : Nd} {n : Int} {l : Tx} {vn vl vw v3 : Value} {gl g3 : Option Nat} (hm : own b = (10 * z + 2, i)) (hbw : b < w.heap.size) (hs : Safe (kpS z i w own b) w wr) (hB : Blk wr b 75 #[vn, vl, vw]) (hL : OwnQ wr 0 gl vl l)
    (hgl : ∀ k, gl = some k → (own k = (10 * z + 4, i) ∧ k < w.heap.size) ∨ w.heap.size ≤ k) (hb3 : Below wr.heap.size wr w3) (hV : OwnQ w3 wr.heap.size g3 v3 l) (he : keepN x n = ⟨l, l, []⟩) :
    KeepPost z i w own b (keepN x n) (.returned (.tuple #[])) ((w3.setCell ⟨b, 0, none⟩ v3).setCell ⟨b, 2, none⟩ (.slice none 0 0)) := by
  have s1 := hs.size
  have s2 := hb3.size
  have hsz : ((w3.setCell ⟨b, 0, none⟩ v3).setCell ⟨b, 2, none⟩ (.slice none 0 0)).heap.size = w3.heap.size := by simp
  have st : ∀ k, k < wr.heap.size → k ≠ b → ((w3.setCell ⟨b, 0, none⟩ v3).setCell ⟨b, 2, none⟩ (.slice none 0 0)).heap[k]? = wr.heap[k]? := fun k h1 h2 =>
    (Below.heap_setCell _ ⟨b, 2, none⟩ _ k h2).trans ((Below.heap_setCell _ ⟨b, 0, none⟩ _ k h2).trans (hb3.block k h1))
  have hglw : ∀ k, gl = some k → k < wr.heap.size := fun k e => (hL.base_ e).2
  have hglb : ∀ k, gl = some k → k ≠ b := fun k e e2 => by
    rcases hgl k e with ⟨h, -⟩ | h
    · rw [e2, hm] at h; injection h with h; omega
    · omega
  have hg3 : ∀ k, g3 = some k → wr.heap.size ≤ k ∧ k < w3.heap.size := fun k e => hV.base_ e
  refine ⟨newM w own fun k => if gl = some k then (10 * z + 4, i) else if g3 = some k then (10 * z + 3, i) else (0, 0), ?_, ?_, rfl⟩
  · rw [he]
    refine ⟨(newM_old hbw).trans hm, v3, g3, vl, gl, .slice none 0 0, none, [], ?_, ?_, ?_, OwnX.nil _ none, ⟨rfl, fun j v y hv => by simp at hv⟩, fun k e => ?_, fun k e => ?_, fun k e => by cases e⟩
    · exact ((hB.keep hb3).set_ 0 v3).set_ 2 (.slice none 0 0)
    · refine (hV.mono_ (Nat.zero_le _)).blocks (by omega) fun k e hk => ?_
      have := hg3 k e
      exact (Below.heap_setCell _ ⟨b, 2, none⟩ _ k (by show k ≠ b; omega)).trans (Below.heap_setCell _ ⟨b, 0, none⟩ _ k (by show k ≠ b; omega))
    · exact hL.blocks (by omega) fun k e hk => st k hk (hglb k e)
    · have h3 := hg3 k e
      rw [newM_new (by omega), if_neg (fun e4 => by have := hglw k e4; omega), if_pos e]
    · rcases hgl k e with ⟨h, h4⟩ | h
      · rw [newM_old h4]; exact h
      · rw [newM_new h, if_pos e]
  · refine ⟨hb3.os.trans hs.os, hb3.tape.trans hs.tape, hb3.output.trans hs.output, by omega, fun k h1 h2 => ?_, fun k h1 _ => newM_old h1⟩
    have hkb : k ≠ b := fun e => h2 (by rw [e, hm]; exact ⟨⟨by simp, by simp⟩, rfl⟩)
    exact (st k (by omega) hkb).trans (hs.block k ⟨h1, hkb, fun e => h2 (by rw [e]; exact ⟨⟨by simp, by simp⟩, rfl⟩)⟩)
set_option maxRecDepth 100000 in
set_option maxHeartbeats 4000000 in
theorem keep_walk {z i b K : Nat} {w : World} {own : Nat → Nat × Nat} {x : Nd} (h : FSt z w own i b x) (hk : NdOk x K) (hK : K ≤ 100000) (n : Int) (hn1 : -9223372036854775808 ≤ n) (hn2 : n ≤ 9223372036854775807) :
    Calls Tryz.prog 45 #[ptrV b, .int .i64 n] w (KeepPost z i w own b (keepN x n)) := by
  obtain ⟨mk, vn, gn, vl, gl, vw, gw, vs, hB, hN, hL, hW, hV, m1, m2, m3⟩ := h
  obtain ⟨A, N, c, rfl, -⟩ := hW.sl
  obtain ⟨hn, hc, hm, hat⟩ := wr_at hW hV
  have k2 : w.cell? ⟨b, 2, none⟩ = some (.slice A N c) := hB.cell 2
  have hbw := hB.lt
  have HAT : Hid (∀ (j : Nat) (y : Wr), x.waits[j]? = some y → ∃ bb off Ab cb, A = some ⟨bb, off, none⟩ ∧ kpS z i w own b bb ∧ w.cell? ⟨bb, off + j * 2, none⟩ = some (.int .i64 y.at_) ∧ w.cell? ⟨bb, off + j * 2 + 1, none⟩ = some (.slice Ab y.b.length cb) ∧ y.b.length ≤ cb ∧ cb ≤ maxLen ∧ FzA w own Ab y.b) := Lib.hid fun j y hy => by
    obtain ⟨bb, off, Ab, cb, e1, e2, hlt, c0, c1, A', c', ev, h1, h2, h3⟩ := hat j y hy
    injection ev with ev1 ev2 ev3
    subst ev1 ev3
    have := m3 bb e1
    exact ⟨bb, off, Ab, cb, e2, ⟨hlt, fun e => by rw [e, mk] at this; injection this with this; omega, fun e => by rw [this] at e; injection e with e; omega⟩, c0, c1, h1, h2, h3⟩
  have HN := Lib.hid hn
  have HK := Lib.hid hk
  have HMK := Lib.hid mk
  have HBW := Lib.hid hbw
  have HFZ : Hid (∀ wr, Safe (kpS z i w own b) w wr → ∀ (Ab : Option Addr) (l : Tx), FzA w own Ab l → RB wr wr.heap.size Ab l) := Lib.hid fun wr hs Ab l hf => by
    rcases hf with hf | ⟨bb, off, rfl, ho, hlt, hc⟩
    · exact .inl hf
    · refine .inr ⟨bb, off, rfl, Nat.lt_of_lt_of_le hlt hs.size, fun i' hi => ?_⟩
      rw [← hc i' hi]
      exact World.cell?_of_block (hs.block bb ⟨hlt, fun e => by rw [e, mk] at ho; unfold frz at ho; injection ho with ho; omega, fun e => by rw [ho] at e; unfold frz at e; injection e with e; omega⟩)
  have hKn : N ≤ 100000 := by have := hk.lw; omega
  have HST : Hid (KpI x n 0 n x.lasts) := Lib.hid (KpI.start hk hn1 hn2)
  have HL0 := Lib.hid hL
  have HB0 := Lib.hid hB
  have HG0 : Hid (∀ k, gl = some k → (own k = (10 * z + 4, i) ∧ k < w.heap.size) ∨ w.heap.size ≤ k) := Lib.hid fun k e => .inl ⟨m2 k e, (hL.base_ e).2⟩
  unfold ptrV
  clear hB hW hV hn hat hk hc hm hN hL m1 m2 m3 mk hn1 hn2
  go_enter Tryz.func45, Tryz.ntmps45
  go_wp2_with fail
  go_loopg [1, 5, 11] N (fun k s1 s5 s11 wr => ∃ (j : Nat) (n' : Int) (l : Tx) (vl : Value) (gl : Option Nat), s11 = .int .i64 (j : Int) ∧ s1 = .int .i64 n' ∧ j + k = N ∧ Hid (KpI x n j n' l) ∧ Hid (Blk wr b 75 #[vn, vl, .slice A N c]) ∧ Hid (OwnQ wr 0 gl vl l) ∧ Hid (∀ k, gl = some k → (own k = (10 * z + 4, i) ∧ k < w.heap.size) ∨ w.heap.size ≤ k) ∧ Hid (Safe (kpS z i w own b) w wr))
  case atStart => exact ⟨0, n, x.lasts, vl, gl, rfl, rfl, by omega, HST, HB0, HL0, HG0, Lib.hid (Safe.refl _ _)⟩
  case round =>
    obtain ⟨j, n', l, vl', gl', rfl, rfl, hj, HI, HB, HL, HG, HS⟩ := hrel
    by_cases hlt : j < N
    · have hlt1 : (j : Int) < (N : Int) := by omega
      obtain ⟨y, hy⟩ : ∃ y, x.waits[j]? = some y := ⟨_, List.getElem?_eq_getElem (by rw [← HN.out]; exact hlt)⟩
      obtain ⟨bb, off, Ab, cb, rfl, hbl, c0, c1, hyc, hcm, hfz⟩ := HAT.out j y hy
      have q0 : wr.cell? ⟨bb, off + j * 2, none⟩ = some (.int .i64 y.at_) := (World.cell?_of_block (HS.out.block bb hbl)).trans c0
      have q1 : wr.cell? ⟨bb, off + j * 2 + 1, none⟩ = some (.slice Ab y.b.length cb) := (World.cell?_of_block (HS.out.block bb hbl)).trans c1
      have hyl : y.b.length ≤ 67108864 := HK.out.lb y (List.mem_of_getElem? hy)
      obtain ⟨m, hm⟩ : ∃ m : Nat, (m : Int) = min (max n' 0) (y.b.length : Int) := ⟨(min (max n' 0) (y.b.length : Int)).toNat, by omega⟩
      obtain ⟨hnx, hfit, hml, htl⟩ := HI.out.next HK.out hy m hm
      obtain ⟨a, ha⟩ : ∃ a : Nat, max n' 0 = (a : Int) := ⟨(max n' 0).toNat, by omega⟩
      have hlo := HI.out.lo
      have hhi := HI.out.hi
      have hw1 : IntKind.i64.wrap (n' - (m : Int)) = n' - (m : Int) := IntWalk.i64_in _ (by omega)
      have HNX := Lib.hid hnx
      have HFIT := Lib.hid hfit
      have HTL := Lib.hid htl
      rw [ha] at hm
      obtain ⟨yl, hyl0⟩ : ∃ yl, y.b.length = yl := ⟨_, rfl⟩
      have HYL := Lib.hid hyl0
      rw [hyl0] at q1 hm hyl hml hyc
      have hm' : min (a : Int) (yl : Int) = (m : Int) := hm.symm
      have hml1 : (m : Int) ≤ (yl : Int) := by omega
      have hmc1 : (m : Int) ≤ (cb : Int) := by omega
      have hcb1 : (cb : Int) ≤ 9223372036854775807 := by unfold maxLen at hcm; omega
      have HRB := Lib.hid (HFZ.out wr HS.out Ab y.b hfz)
      have HCM := Lib.hid hcm
      have HLN := Lib.hid HI.out.ln
      have HBX := Lib.hid (Blk.new wr 85 #[.int .i64 y.at_, .slice Ab yl cb])
      have x1 : (wr.alloc (.cells #[.int .i64 y.at_, .slice Ab yl cb] 85)).cell? ⟨wr.heap.size, 1, none⟩ = some (.slice Ab yl cb) := HBX.out.cell 1
      have f1 : (wr.alloc (.cells #[.int .i64 y.at_, .slice Ab yl cb] 85)).frozen? ⟨wr.heap.size, 1, none⟩ = false := HBX.out.frozen 1
      have hbwr : b < wr.heap.size := HB.out.lt
      clear c0 c1 hfz hnx hfit htl hy hm hyl0 hbl hcm hlo hhi
      go_upto_region 4 with fail
      have HBX1 := Lib.hid (Blk.new wr 85 #[.int .i64 y.at_, .slice Ab m cb])
      have HB1 : Hid (Below wr.heap.size wr (wr.alloc (.cells #[.int .i64 y.at_, .slice Ab m cb] 85))) := Lib.hid ((Below.refl wr.heap.size wr).alloc (Nat.le_refl _) _)
      clear x1 f1 HBX
      have hs1 : (wr.alloc (.cells #[.int .i64 y.at_, .slice Ab m cb] 85)).heap.size = wr.heap.size + 1 := by simp
      have HS1 := Lib.hid hs1
      clear hs1
      generalize hw1 : wr.alloc (.cells #[.int .i64 y.at_, .slice Ab m cb] 85) = w1 at *
      clear hw1
      have x0 : w1.cell? ⟨wr.heap.size, 0, none⟩ = some (.int .i64 y.at_) := HBX1.out.cell 0
      have x1 : w1.cell? ⟨wr.heap.size, 1, none⟩ = some (.slice Ab m cb) := HBX1.out.cell 1
      go_upto_region 5 with fail
      have HBF := Lib.hid (HB.out.keep HB1.out)
      have HLQ := Lib.hid (HL.out.below HB1.out)
      have x0d : w1.drew.cell? ⟨wr.heap.size, 0, none⟩ = some (.int .i64 y.at_) := x0
      have x1d : w1.drew.cell? ⟨wr.heap.size, 1, none⟩ = some (.slice Ab m cb) := x1
      have kd1 : w1.drew.cell? ⟨b, 1, none⟩ = some vl' := HBF.out.cell 1
      have KD : Hid (Calls Tryz.prog 85 #[.agg #[.int .i64 y.at_, .slice Ab m cb], vl'] w1.drew (DoPost w1.drew gl' (laid l ⟨y.at_, y.b.take m⟩))) := Lib.hid (do_walk w1.drew gl' vl' l HLQ.out ⟨y.at_, y.b.take m⟩ Ab m cb HTL.out.symm (((HRB.out.below HB1.out).mono (show wr.heap.size ≤ w1.heap.size by have := HS1.out; omega)).take m) (by omega) HCM.out HFIT.out (by have h1 := HLN.out; have h2 := HTL.out; show l.length + (y.b.take m).length ≤ _; omega))
      have HNB : Hid (∀ k, gl' = some k → k ≠ b) := Lib.hid fun k e e2 => by
        rcases HG.out k e with ⟨h, -⟩ | h
        · rw [e2, HMK.out] at h; injection h with h; omega
        · have := HBW.out; omega
      obtain ⟨Al, cl, rfl, -⟩ : ∃ Al cl, vl' = .slice Al l.length cl ∧ True := by obtain ⟨A', c', h1, -⟩ := HLQ.out; exact ⟨A', c', h1, trivial⟩
      go_region_law (refine step_calls rfl #[.tmp 31, .tmp 35] #[85, 35] (by rfl) Tryz.func85 (by kernel_rfl) (by kernel_rfl) #[.agg #[.int .i64 y.at_, .slice Ab m cb], .slice Al l.length cl] (by simp [Act.eval, Act.put]) KD.out ?_; rintro e1 w5 ⟨g5, v5, rfl, hO5, hg5, hG5⟩; refine ⟨_, rfl, ?_⟩; have HO5 := Lib.hid hO5; have Hg5 := Lib.hid hg5; have HG5 := Lib.hid hG5; obtain ⟨A5, c5, rfl, -⟩ := hO5; have hB5 := (show Blk w1.drew b 75 _ from HBF.out).grown hG5 (fun e => HNB.out b e.symm rfl); have k5 := hB5.cell 1; have fk5 := hB5.frozen 1; have HB5 := Lib.hid hB5; clear hg5 hG5 hB5)
      all_goals
        go_wp2_with fail
        go_roundg (gk - 1)
        case rel =>
          have hs0 := HS.out.size
          have hs1 := HS1.out
          have hs5 : w1.heap.size ≤ w5.heap.size := HG5.out.size
          have hg5b : g5 ≠ some b := fun e => by
            rcases Hg5.out with h | ⟨k, h, hk⟩
            · exact HNB.out b (h.symm.trans e) rfl
            · rw [e] at h
              injection h with h
              have hk : w1.heap.size ≤ k := hk
              omega
          refine ⟨j + 1, n' - (m : Int), laid l ⟨y.at_, y.b.take m⟩, _, g5, by go_num, rfl, by omega, HNX, Lib.hid (HB5.out.set_ 1 _), Lib.hid (HO5.out.far (p := ⟨b, 1, none⟩) hg5b _), Lib.hid fun k e => ?_, Lib.hid ?_⟩
          · rcases Hg5.out with h | ⟨k', h, hk'⟩
            · exact HG.out k (h.symm.trans e)
            · rw [e] at h
              injection h with h
              have hk' : w1.heap.size ≤ k' := hk'
              right; omega
          · refine ⟨HG5.out.os.trans (HB1.out.os.trans HS.out.os), HG5.out.tape.trans (HB1.out.tape.trans HS.out.tape), HG5.out.output.trans (HB1.out.output.trans HS.out.output), by simp; omega, fun k hk => ?_⟩
            obtain ⟨hk1, hk2, hk3⟩ := hk
            refine (Below.heap_setCell w5 ⟨b, 1, none⟩ _ k hk2).trans ((HG5.out.block k (by show k < w1.heap.size; omega) fun e => ?_).trans ((HB1.out.block k (by omega)).trans (HS.out.block k ⟨hk1, hk2, hk3⟩)))
            rcases HG.out k e.symm with ⟨h, -⟩ | h
            · exact hk3 h
            · omega
        case measure => omega
    · have hlt1 : ¬ (j : Int) < (N : Int) := by omega
      obtain rfl : j = N := by omega
      have HD : Hid (keepN x n = ⟨l, l, []⟩) := Lib.hid (by have := HI.out; rw [HN.out] at this; exact this.done)
      have HLN := Lib.hid HI.out.ln
      have HLQ := Lib.hid HL.out
      obtain ⟨Al, cl, rfl, -⟩ : ∃ Al cl, vl' = .slice Al l.length cl ∧ True := by obtain ⟨A', c', h1, -⟩ := HLQ.out; exact ⟨A', c', h1, trivial⟩
      have HRB := Lib.hid HLQ.out.rb
      have hA0 : Al = none → l.length = 0 := fun e => by
        obtain ⟨A', c', ev, h1, h2, h3⟩ := HLQ.out
        injection ev with e1 e2 e3
        subst e1
        rcases h3 with ⟨h0, -⟩ | ⟨g, o, -, h0, -⟩
        · omega
        · rw [e] at h0; cases h0
      have HA0 := Lib.hid hA0
      have k1 : wr.cell? ⟨b, 1, none⟩ = some (.slice Al l.length cl) := HB.out.cell 1
      clear hA0
      go_wp2_with fail
      refine (clone_walk wr Al l l.length cl rfl HRB.out.1 HA0.out (by have := HLN.out; omega)).mono ?_
      rintro e w3 ⟨hb3, g3, v3, rfl, hO3⟩
      have HB3 := Lib.hid hb3
      have HV3 := Lib.hid hO3
      obtain ⟨A3, c3, rfl, -⟩ := hO3
      have HBb := Lib.hid (HB.out.keep hb3)
      clear hb3 k1
      have z0 : w3.cell? ⟨b, 0, none⟩ = some vn := HBb.out.cell 0
      have z2 : w3.cell? ⟨b, 2, none⟩ = some (.slice A j c) := HBb.out.cell 2
      have y0 := HBb.out.frozen 0
      have y2 := HBb.out.frozen 2
      go_wp2_with fail
      refine bodyPost_ret (res0 rfl _ _ _) rfl ?_
      exact keep_end HMK.out HBW.out HS.out HB.out HLQ.out HG.out HB3.out HV3.out HD.out
end Go.Proofs.YtbpooaicmjkemaaGreatDoor
