/-
  Several texts in one: ScFeed, ScFeed2, ScAwk. Conditions: each part names its own.
-/
import Derived.Test.YtjnjnccfojfghaaGreatDoorMg27
import Derived.Test.YtjnjnccfojfghaaGreatDoorMg28
import Derived.Test.YtjnjnccfojfghaaGreatDoorMg17
import Derived.Test.YtjnjnccfojfghaaGreatDoorMg20
import Derived.Deep.CutBlock
import Derived.Deep.DeepCutAuto
import Derived.Deep.RegionHeld3
import Derived.Test.YtjnjnccfojfghaaGreatDoorMg26
set_option linter.unusedSimpArgs false
/-! The walk of smtpc's Feed on the bundle. Conditions: the lengths, what the library's variables hold. -/
namespace Go.Proofs.YtjnjnccfojfghaaGreatDoor
open Go.RowKit
set_option linter.unusedVariables false
/-- what Feed may not touch -/
def FdS (w : World) (cb pb : Nat) (q : CPts) (k : Nat) : Prop := k < w.heap.size ∧ k ≠ cb ∧ k ≠ pb ∧ q.lw ≠ some k
/-- how Feed's loop stands -/
structure FdI (w wr : World) (cb pb : Nat) (bb : Option Nat) (q : CPts) (F c1 : ClM) (q1 : CPts) (k : Nat) : Prop where
  cl : CliP wr cb pb bb c1 q1
  ok : COk c1
  fd : feedL k c1 = F
  ms : rk c1 < k
  ll : c1.left.length ≤ 70368744177664
  idl : c1.idle = 0
  lw : ∀ j, q1.lw = some j → q.lw = some j ∨ w.heap.size ≤ j
  ov : ∀ j, q1.ov.ownBlock = some j → w.heap.size ≤ j
  sf : Safe (FdS w cb pb q) w wr
section
variable {w wr w' : World} {cb pb : Nat} {bb : Option Nat} {q q1 : CPts} {F c1 : ClM} {k : Nat}
theorem FdI.same (h : FdI w wr cb pb bb q F c1 q1 k) (hb : Below wr.heap.size wr w') : FdI w w' cb pb bb q F c1 q1 k :=
  ⟨h.cl.same hb, h.ok, h.fd, h.ms, h.ll, h.idl, h.lw, h.ov, h.sf.below hb (fun k hk => Nat.lt_of_lt_of_le hk.1 h.sf.size)⟩
theorem OwnB.up {w : World} {E N : Nat} {v : Value} {l : Tx} (h : OwnB w 0 E v l) (hb : ∀ j, v.ownBlock = some j → N ≤ j) : OwnB w N E v l := by
  refine ⟨h.1, ?_⟩
  rcases h.2 with h1 | ⟨g, cap, cur, rfl, hg, r⟩
  · exact .inl h1
  · exact .inr ⟨g, cap, cur, rfl, hb g rfl, r⟩
theorem FdI.stop (h : FdI w wr cb pb bb q F c1 q1 k) (hF : F = { c1 with stage := 8 }) : FdI w (wr.setCell ⟨cb, 4, none⟩ (.int .i64 8)) cb pb bb q F F q1 k := by
  subst hF
  have h1 : rk { c1 with stage := 8 } ≤ rk c1 := by
    show (8 - 8) + (c1.ppl.length - c1.pos) ≤ (8 - c1.stage) + (c1.ppl.length - c1.pos)
    omega
  have h2 := h.ms
  obtain ⟨j, rfl⟩ : ∃ j, k = j + 1 := ⟨k - 1, by omega⟩
  exact ⟨h.cl.stage_ 8, h.ok.stop, by rw [feedL, if_pos rfl], by omega, h.ll, h.idl, h.lw, h.ov, h.sf.set_ (p := ⟨cb, 4, none⟩) (fun hk => hk.2.1 rfl) _⟩
/-- what is left was cut: it lies in new memory -/
theorem FdI.cut (h : FdI w wr cb pb bb q F c1 q1 k) {w5 : World} (hb : Below wr.heap.size wr w5) {v5 : Value} {o5 : Option Nat} {l5 : Tx} (hO : OwnQ w5 0 o5 v5 l5) (hn : ∀ j, o5 = some j → wr.heap.size ≤ j) :
    CliP (w5.setCell ⟨cb, 6, none⟩ v5) cb pb bb { c1 with left := l5 } { q1 with lv := v5, lw := o5 } ∧ Safe (FdS w cb pb q) w (w5.setCell ⟨cb, 6, none⟩ v5) := by
  have h5 := h.cl.same hb
  have hk : ∀ k, k ≠ cb → (w5.setCell ⟨cb, 6, none⟩ v5).heap[k]? = w5.heap[k]? := fun k hk => Below.heap_setCell w5 ⟨cb, 6, none⟩ v5 k hk
  have hs : (w5.setCell ⟨cb, 6, none⟩ v5).heap.size = w5.heap.size := by simp
  have old : ∀ j, j < wr.heap.size → o5 ≠ some j := fun j hj e => by have := hn j e; omega
  refine ⟨h5.renew (by omega) (hk pb h5.pc) (fun k e => hk k (fun e2 => h5.bc (by rw [e, e2]))) rfl rfl rfl (h5.blk.set_ 6 _) (hO.same fun k e => hk k (fun e2 => old cb h.cl.blk.lt (by rw [e, e2]))) (h5.out.same fun k e => hk k (fun e2 => h5.oc (by rw [e, e2]))) (old cb h.cl.blk.lt) (old pb h.cl.ppl.lt) h5.oc h5.op (fun k e e2 => old k (h.cl.out.lt_ e2) e) (fun k e => old k (h.cl.bl k e)) h5.ob, ?_⟩
  exact (h.same hb).sf.set_ (p := ⟨cb, 6, none⟩) (fun hk => hk.2.1 rfl) _
/-- a reply was heard -/
theorem FdI.heard {c2 c3 : ClM} {q2 : CPts} {w6 w7 : World} (h : FdI w wr cb pb bb q F c1 q1 (k + 1)) (hs : Safe (FdS w cb pb q) w w6) (hc3 : COk c3) (hfd : feedL k c3 = F) (hmk : rk c3 < k) (hl3 : c3.left.length ≤ c1.left.length) (hi : c3.idle = 0)
    (hlw : ∀ j, q2.lw = some j → wr.heap.size ≤ j) (hov : q2.ov = q1.ov) (hsz : wr.heap.size ≤ w6.heap.size) {e : Ending} (hp : DoPost w6 cb pb bb q2 c3 e w7) : ∃ q3, FdI w w7 cb pb bb q F c3 q3 k := by
  obtain ⟨-, v', h1, h2, h3⟩ := hp
  have hz := h.sf.size
  have hov' : ∀ j, v'.ownBlock = some j → w.heap.size ≤ j := fun j hj => by
    rcases h2 with h2 | ⟨p, h2, hp⟩
    · rw [h2, hov] at hj; exact h.ov j hj
    · rw [h2] at hj; injection hj with hj; omega
  refine ⟨{ q2 with ov := v' }, h1, hc3, hfd, hmk, Nat.le_trans hl3 h.ll, hi, fun j hj => .inr (Nat.le_trans hz (hlw j hj)), hov', hs.trans (h3.mono fun k hk => ⟨⟨Nat.lt_of_lt_of_le hk.1 (Nat.le_trans hz hsz), hk.2.1, fun e => ?_⟩, hk.2.2.1⟩)⟩
  rw [hov] at e
  have := h.ov k e
  have := hk.1
  omega
def CFeedPost (B : Nat) (w : World) (cb pb : Nat) (bb : Option Nat) (c : ClM) (q : CPts) (b : Tx) (e : Ending) (w' : World) : Prop :=
  ∃ q', e = .returned q'.ov ∧ CliB B w' cb pb bb (feedC c b) q' ∧ OwnB w' w.heap.size 5 q'.ov (feedC c b).out ∧ (∀ j, q'.lw = some j → q.lw = some j ∨ w.heap.size ≤ j) ∧ Safe (FdS w cb pb q) w w'
theorem FdI.fin {B : Nat} {c : ClM} {b : Tx} (h : CliB B w cb pb bb c q) (hF : feedC c b = F) (i : FdI w wr cb pb bb q F F q1 k) : CFeedPost B w cb pb bb c q b (.returned q1.ov) wr := by
  have hB := h.lt
  subst hF
  have hlB : ∀ j, q1.lw = some j → B ≤ j := fun j hj => (i.lw j hj).elim (fun h1 => h.lB j h1) (fun h1 => by omega)
  have hoB : ∀ j, q1.ov.ownBlock = some j → B ≤ j := fun j hj => by have := i.ov j hj; omega
  have hid : (feedC c b).idle ≤ 300 := by rw [i.idl]; omega
  exact ⟨q1, rfl, ⟨i.cl, i.ok, h.cB, h.pB, hlB, hoB, hid⟩, i.cl.out.up i.ov, i.lw, i.sf⟩
end
theorem cfeed_over {B : Nat} {w : World} {cb pb : Nat} {bb : Option Nat} {c : ClM} {q : CPts} (h : CliB B w cb pb bb c q) (h8 : c.stage = 8) (v : Value) :
    Calls Tryz.prog 13 #[.pointer (some ⟨cb, 0, none⟩), v] w fun e w' => w = w' ∧ e = .returned (.slice none 0 0) := by
  have k4 : w.cell? ⟨cb, 4, none⟩ = some (.int .i64 (c.stage : Int)) := h.cl.blk.cell 4
  have h8i : ((c.stage : Int) == 8) = true := by rw [h8]; rfl
  clear h h8
  go_enter Tryz.func13, Tryz.ntmps13
  go_wp2_with fail
  go_ret
  exact ⟨rfl, rfl⟩
/-- a read reply's first line, as it lies -/
theorem first_line {w : World} {N E cp : Nat} {A : Option Addr} {L : List ByteArray} (h : OwnS w N E (.slice A L.length cp) L) (hL : 1 ≤ L.length) :
    ∃ g, A = some ⟨g, 0, none⟩ ∧ N ≤ g ∧ w.cell? ⟨g, 0, none⟩ = some (.string (bs (((L[0]?).map (·.data.toList)).getD []))) := by
  obtain ⟨g, cap, hv, h1, h2⟩ := World.ownsRow.form h (by omega)
  injection hv with hv
  subst hv
  refine ⟨g, rfl, h1, ?_⟩
  obtain ⟨s, hs⟩ : ∃ s, L[0]? = some s := ⟨_, List.getElem?_eq_getElem (by omega)⟩
  have := World.ownsRow.cells h (g := g) rfl 0 (.string s) (by simp [hs])
  rw [Addr.add_lit, Nat.zero_add] at this
  rw [this, hs]
  show some (Value.string s) = some (.string (bs s.data.toList))
  cases s
  rfl
theorem stop_cases {st : Nat} {a : RR} : (stopB st a = true ∧ ((a.e != 0) = true ∨ ((a.e != 0) = false ∧ (classP a.c == 3) = true ∧ ((st : Int) != 7) = true ∧ (((st : Int) != 5) = true ∨ (((st : Int) != 5) = false ∧ (a.c != 354) = true))))) ∨
    (stopB st a = false ∧ (a.e != 0) = false ∧ ((classP a.c == 3) = false ∨ ((classP a.c == 3) = true ∧ ((st : Int) != 7) = false) ∨ ((classP a.c == 3) = true ∧ ((st : Int) != 7) = true ∧ ((st : Int) != 5) = false ∧ (a.c != 354) = false))) := by
  have h1 : (clsN a.c == 3) = (classP a.c == 3) := by
    rw [classP_nat a.c]
    exact Bool.eq_iff_iff.2 (by rw [beq_iff_eq, beq_iff_eq]; omega)
  have h2 : (st != 7) = ((st : Int) != 7) := Bool.eq_iff_iff.2 (by rw [bne_iff_ne, bne_iff_ne]; omega)
  have h3 : (st != 5) = ((st : Int) != 5) := Bool.eq_iff_iff.2 (by rw [bne_iff_ne, bne_iff_ne]; omega)
  unfold stopB
  rw [h1, h2, h3]
  generalize (a.e != 0) = x1
  generalize (classP a.c == 3) = x2
  generalize ((st : Int) != 7) = x3
  generalize ((st : Int) != 5) = x4
  generalize (a.c != 354) = x5
  cases x1 <;> cases x2 <;> cases x3 <;> cases x4 <;> cases x5 <;> simp
end Go.Proofs.YtjnjnccfojfghaaGreatDoor

/-! The walk of smtpc's Feed. Conditions: the lengths, what the library's variables hold. -/
namespace Go.Proofs.YtjnjnccfojfghaaGreatDoor
open Go.RowKit
set_option linter.unusedVariables false
set_option maxRecDepth 100000 in
set_option maxHeartbeats 8000000 in
theorem cfeed_walk {B : Nat} {w : World} {cb pb : Nat} {bb : Option Nat} {c : ClM} {q : CPts} (h : CliB B w cb pb bb c q) (h8 : c.stage ≠ 8) (HT0 : ∀ x, Below B w x → TabC x) (A : Option Addr) (b : Tx) (n cap : Nat) (hn : n = b.length) (hr : RB w w.heap.size A b) (hrc : b = [] ∨ ∀ a, A = some a → a.block ≠ cb) (hll : c.left.length + b.length ≤ 70368744177664) :
    Calls Tryz.prog 13 #[.pointer (some ⟨cb, 0, none⟩), .slice A n cap] w (CFeedPost B w cb pb bb c q b) := by
  have hF : feedC c b = feedL (rk c + 1) { c with idle := 0, out := [], left := c.left ++ b } := by unfold feedC; rw [if_neg h8]
  have HFIN : Hid (∀ wr q1 k, FdI w wr cb pb bb q (feedC c b) (feedC c b) q1 k → CFeedPost B w cb pb bb c q b (.returned q1.ov) wr) := Lib.hid fun wr q1 k i => FdI.fin h rfl i
  obtain ⟨F, hFF⟩ : ∃ F, feedC c b = F := ⟨_, rfl⟩
  rw [hFF] at HFIN
  generalize CFeedPost B w cb pb bb c q b = Post at *
  have hcl := h.cl
  have k4 : w.cell? ⟨cb, 4, none⟩ = some (.int .i64 (c.stage : Int)) := hcl.blk.cell 4
  have k8 : w.cell? ⟨cb, 8, none⟩ = some (.int .i64 (c.idle : Int)) := hcl.blk.cell 8
  have k7 : w.cell? ⟨cb, 7, none⟩ = some q.ov := hcl.blk.cell 7
  have f8 := hcl.blk.frozen 8
  have f7 := hcl.blk.frozen 7
  have h8i : ((c.stage : Int) == 8) = false := beq_eq_false_iff_ne.2 (by omega)
  obtain ⟨w1, hw1⟩ : ∃ w1, (w.setCell ⟨cb, 8, none⟩ (.int .i64 0)).setCell ⟨cb, 7, none⟩ (.slice none 0 0) = w1 := ⟨_, rfl⟩
  have hs1 : w1.heap.size = w.heap.size := by rw [← hw1]; simp
  have hk1 : ∀ k, k ≠ cb → w1.heap[k]? = w.heap[k]? := fun k hk => by rw [← hw1]; exact (Below.heap_setCell _ ⟨cb, 7, none⟩ _ k hk).trans (Below.heap_setCell _ ⟨cb, 8, none⟩ _ k hk)
  have HC1 : Hid (CliP w1 cb pb bb { c with idle := 0, out := [] } { q with ov := .slice none 0 0 }) := Lib.hid (hcl.renew (by omega) (hk1 pb hcl.pc) (fun k e => hk1 k (fun e2 => hcl.bc (by rw [e, e2]))) rfl rfl rfl (by rw [← hw1]; exact (hcl.blk.set_ 8 _).set_ 7 _)
    (hcl.left.same fun k e => hk1 k (fun e2 => hcl.lc (by rw [e, e2]))) (OwnB.nil _ _ _) hcl.lc hcl.lp (fun e => by cases e) (fun e => by cases e) (fun k _ e => by cases e) hcl.lb (fun k _ e => by cases e))
  have HS1 : Hid (Safe (FdS w cb pb q) w w1) := Lib.hid (by rw [← hw1]; exact ((Safe.refl _ w).set_ (p := ⟨cb, 8, none⟩) (fun hk => hk.2.1 rfl) _).set_ (p := ⟨cb, 7, none⟩) (fun hk => hk.2.1 rfl) _)
  have HR1 : Hid (RB w1 w1.heap.size A b) := Lib.hid (hrc.elim (fun e => .inl e) (fun hrc => hr.same (by omega) (fun a ha _ => hk1 _ (hrc a ha))))
  have HW1 := Lib.hid hw1
  have hlf : ∃ Al cl', q.lv = .slice Al c.left.length cl' := by
    obtain ⟨Al, cl', e, -⟩ := hcl.left
    exact ⟨Al, cl', e⟩
  obtain ⟨Al, cl', hlv⟩ := hlf
  have k6 : w1.cell? ⟨cb, 6, none⟩ = some (.slice Al c.left.length cl') := by rw [← hlv]; exact HC1.out.blk.cell 6
  have HL1 : Hid (OwnQ w1 0 q.lw (.slice Al c.left.length cl') c.left) := Lib.hid (by rw [← hlv]; exact HC1.out.left)
  obtain ⟨Ao, no, co, hov⟩ := hcl.out.sl
  have hpost : ∀ e w', Post e w' → Post e w' := fun _ _ h => h
  rw [hov] at k7
  have HH := Lib.hid h
  have HT := Lib.hid HT0
  have HFE : Hid (F = feedL (rk c + 1) { c with idle := 0, out := [], left := c.left ++ b }) := Lib.hid (hFF.symm.trans hF)
  have HN := Lib.hid hn
  have HLL := Lib.hid hll
  clear h HT0 hn hr hrc hll hF hFF hcl hw1 hk1 hs1 hlv hov hpost
  have h80 := Lib.hid h8
  clear h8
  go_enter Tryz.func13, Tryz.ntmps13
  go_upto_region 4 with fail
  rw [HW1.out]
  clear k4 k7 k8 f7 f8 HW1 h8i
  go_wp2_with (at_builtin; refine wpList_appQ _ u8L (.tmp 24) (.tmp 25) rfl rfl 0 rfl HL1.out _ _ rfl HN.out HR1.out (by have := HLL.out; omega) (Nat.zero_le _) ?_; intro v2 own2 w2 hO2 hg2 ho2; obtain ⟨A2, cc2, rfl, -⟩ := hO2.out; have HO2 := Lib.hid hO2; have HG2 := Lib.hid hg2; have HW2 := Lib.hid ho2; have HB2 : Hid (Blk w2 cb 72 (cliC c.name c.frm (.slice (some ⟨pb, 0, none⟩) c.ppl.length q.cpp) (.slice q.Ab c.body.length q.cbb) c.stage c.pos q.lv (.slice none 0 0) 0 c.well)) := Lib.hid (HC1.out.blk.grown hg2 (fun e => HC1.out.lc e.symm)); have z6 : w2.cell? ⟨cb, 6, none⟩ = some q.lv := HB2.out.cell 6; have g6 := HB2.out.frozen 6; clear hO2 hg2 ho2)
  have hne2 : ∀ k, k < w1.heap.size → q.lw ≠ some k → own2 ≠ some k := fun k hk hne => by
    rcases HW2.out with e | e
    · rw [e]; exact hne
    · rw [e]; intro e2; injection e2 with e2; omega
  have hk2 : ∀ k, k < w1.heap.size → k ≠ cb → q.lw ≠ some k → (w2.setCell ⟨cb, 6, none⟩ (.slice A2 (c.left ++ b).length cc2)).heap[k]? = w1.heap[k]? := fun k h1 h2 h3 => (Below.heap_setCell _ ⟨cb, 6, none⟩ _ k h2).trans (HG2.out.block k h1 (fun e => h3 e.symm))
  have HI0 : Hid (FdI w (w2.setCell ⟨cb, 6, none⟩ (.slice A2 (c.left ++ b).length cc2)) cb pb bb q F { c with idle := 0, out := [], left := c.left ++ b } { q with ov := .slice none 0 0, lv := .slice A2 (c.left ++ b).length cc2, lw := own2 } (rk c + 1)) := Lib.hid ⟨
    HC1.out.renew (by simp; exact HG2.out.size) (hk2 pb HC1.out.ppl.lt HC1.out.pc HC1.out.lp) (fun k e => hk2 k (HC1.out.bl k e) (fun e2 => HC1.out.bc (by rw [e, e2])) (HC1.out.lb k e)) rfl rfl rfl (HB2.out.set_ 6 _)
      (HO2.out.same fun k e => Below.heap_setCell _ ⟨cb, 6, none⟩ _ k (fun e2 => hne2 cb HC1.out.blk.lt HC1.out.lc (by rw [e, e2]))) (OwnB.nil _ _ _) (hne2 cb HC1.out.blk.lt HC1.out.lc) (hne2 pb HC1.out.ppl.lt HC1.out.lp) (fun e => by cases e) (fun e => by cases e) (fun k _ e => by cases e) (fun k e => hne2 k (HC1.out.bl k e) (HC1.out.lb k e)) (fun k _ e => by cases e),
    HH.out.ok.start b, HFE.out.symm, Nat.lt_succ_self _, by show (c.left ++ b).length ≤ _; rw [List.length_append]; exact HLL.out, rfl, fun j hj => by
      rcases HW2.out with e | e
      · exact .inl (e.symm.trans hj)
      · have h1 := HS1.out.size
        have h2 : some w1.heap.size = some j := e.symm.trans hj
        injection h2 with h2
        exact .inr (by omega), (fun j hj => by cases hj),
    (HS1.out.grown HG2.out (fun k hk => ⟨Nat.lt_of_lt_of_le hk.1 HS1.out.size, hk.2.2.2⟩)).set_ (p := ⟨cb, 6, none⟩) (fun hk => hk.2.1 rfl) _⟩
  have HI1 : Hid (∃ c1 q1, FdI w (w2.setCell ⟨cb, 6, none⟩ (.slice A2 (c.left ++ b).length cc2)) cb pb bb q F c1 q1 (rk c + 1)) := Lib.hid ⟨_, _, HI0.out⟩
  rw [List.length_append] at HI1
  clear hne2 hk2 HI0 HO2 HG2 HW2 HB2 HC1 HR1 HL1 HS1 HFE HLL HN k6 z6 g6
  go_loopg [5, 6, 7, 8] (rk c + 1) (fun k s5 s6 s7 s8 wr => Hid (∃ c1 q1, FdI w wr cb pb bb q F c1 q1 k))
  case atStart => exact HI1
  case round =>
    obtain ⟨c1, q1, hi⟩ := hrel.out
    have HI := Lib.hid hi
    clear hrel HI1 hi
    have k4 : wr.cell? ⟨cb, 4, none⟩ = some (.int .i64 (c1.stage : Int)) := HI.out.cl.blk.cell 4
    obtain ⟨gj, hgj⟩ : ∃ gj, gk = gj + 1 := ⟨gk - 1, by have := HI.out.ms; omega⟩
    have HGJ := Lib.hid hgj
    have HFD := Lib.hid HI.out.fd
    obtain ⟨Ao, no, co, hov⟩ := HI.out.cl.out.sl
    have HOV := Lib.hid hov
    clear hgj hov
    by_cases h18 : c1.stage = 8
    · have h8i : ((c1.stage : Int) != 8) = false := by rw [h18]; rfl
      have hFc : F = c1 := by rw [← HFD.out, HGJ.out, feedL, if_pos h18]
      have HD := Lib.hid (HFIN.out wr q1 gk (by have h := HI.out; rw [← hFc] at h; exact h))
      rw [HOV.out] at HD
      have k7 : wr.cell? ⟨cb, 7, none⟩ = some (.slice Ao no co) := by rw [← HOV.out]; exact HI.out.cl.blk.cell 7
      clear h18 hFc
      go_wp2_with fail
      exact HD.out
    · have h8i : ((c1.stage : Int) != 8) = true := bne_iff_ne.2 (by omega)
      obtain ⟨Al, cl1, hlv⟩ : ∃ Al cl1, q1.lv = .slice Al c1.left.length cl1 := by
        obtain ⟨a, b, e, -⟩ := HI.out.cl.left
        exact ⟨a, b, e⟩
      have hL : OwnQ wr 0 q1.lw (.slice Al c1.left.length cl1) c1.left := by rw [← hlv]; exact HI.out.cl.left
      have k6 : wr.cell? ⟨cb, 6, none⟩ = some (.slice Al c1.left.length cl1) := by rw [← hlv]; exact HI.out.cl.blk.cell 6
      obtain ⟨hrl, -, hle, hmx⟩ := hL.rb
      have hbB : Below B w wr := HI.out.sf.to_below (fun k hk => ⟨Nat.lt_of_lt_of_le hk (Nat.le_of_lt HH.out.lt), by have := HH.out.cB; omega, by have := HH.out.pB; omega, fun e => by have := HH.out.lB k e; omega⟩)
      have KR := Lib.hid (readN_walk Al c1.left cl1 wr hrl hle (by have := HI.out.ll; omega) hmx (HT.out wr hbB).errs)
      obtain ⟨a, ha⟩ : ∃ a, readP c1.left = a := ⟨_, rfl⟩
      rw [ha] at KR
      have HA := Lib.hid ha
      have HLV := Lib.hid hlv
      have H18 := Lib.hid h18
      have HLE := Lib.hid hle
      have HMX := Lib.hid hmx
      clear hL hrl hle hmx hbB ha hlv h18
      go_wp2_with fail
      refine KR.out.mono ?_
      rintro e w3 ⟨hb3, A3, cp3, rfl, hO3⟩
      have HB4 : Hid (Below wr.heap.size wr (w3.alloc (.cells #[.int .i64 a.c, .slice A3 a.L.length cp3] 57))) := Lib.hid (hb3.alloc hb3.size _)
      have HO3 := Lib.hid hO3
      have HB3 := Lib.hid hb3
      clear hb3 hO3 KR k4 k6
      go_upto_region 7 with fail
      obtain ⟨w4, hw4⟩ : ∃ w4, w3.alloc (.cells #[.int .i64 a.c, .slice A3 a.L.length cp3] 57) = w4 := ⟨_, rfl⟩
      have hbr : Blk w4 w3.heap.size 57 #[.int .i64 a.c, .slice A3 a.L.length cp3] := by rw [← hw4]; exact Blk.new _ _ _
      have HO4 : Hid (OwnS w4 wr.heap.size 9 (.slice A3 a.L.length cp3) a.L) := Lib.hid (by rw [← hw4]; exact HO3.out.alloc _)
      rw [hw4] at HB4
      rw [hw4]
      have HI4 := Lib.hid (HI.out.same HB4.out)
      have HBR := Lib.hid hbr
      have r0 : w4.cell? ⟨w3.heap.size, 0, none⟩ = some (.int .i64 a.c) := hbr.cell 0
      have k4 : w4.cell? ⟨cb, 4, none⟩ = some (.int .i64 (c1.stage : Int)) := HI4.out.cl.blk.cell 4
      have k7 : w4.cell? ⟨cb, 7, none⟩ = some (.slice Ao no co) := by rw [← HOV.out]; exact HI4.out.cl.blk.cell 7
      clear hw4 hbr HO3
      by_cases h140 : a.e = 140
      · have he : (a.e == 140) = true := beq_iff_eq.2 h140
        have hFc : F = c1 := by rw [← HFD.out, HGJ.out, feedL, if_neg H18.out, HA.out, if_pos h140]
        have HD := Lib.hid (HFIN.out w4 q1 gk (by have h := HI4.out; rw [← hFc] at h; exact h))
        rw [HOV.out] at HD
        clear h140 hFc
        go_wp2_with fail
        exact HD.out
      · have he : (a.e == 140) = false := beq_eq_false_iff_ne.2 h140
        have H140 := Lib.hid h140
        have KC := Lib.hid (class_walk a.c)
        clear h140
        go_wp2_with fail
        refine (KC.out _).mono ?_
        rintro e w5 ⟨rfl, rfl⟩
        clear KC
        go_upto_region 9 with fail
        go_cut [72] from 48 to 72 (fun t w' => w4 = w' ∧ t = .bool (stopB c1.stage a))
        case first =>
          rcases (stop_cases (st := c1.stage) (a := a)) with ⟨hs, h1 | ⟨h1, h2, h3, h4 | ⟨h4, h5⟩⟩⟩ | ⟨hs, h1, h2 | ⟨h2, h3⟩ | ⟨h2, h3, h4, h5⟩⟩
          all_goals
            have HSB := Lib.hid hs
            clear hs
            go_wp2_with fail
            go_meet
            exact ⟨rfl, by rw [HSB.out]⟩
        case rest =>
          obtain ⟨rfl, rfl⟩ := hcut
          have HST : Hid (∀ sb, stopB c1.stage a = sb → stopB c1.stage (readP c1.left) = sb) := Lib.hid fun sb h => by rw [HA.out]; exact h
          cases hsb : stopB c1.stage a with
          | true =>
            have hFc : F = { c1 with stage := 8 } := by rw [← HFD.out, HGJ.out, feedL, if_neg H18.out, HA.out, if_neg H140.out, if_pos hsb]
            have HI5 := Lib.hid (HI4.out.stop hFc)
            have HD := Lib.hid (HFIN.out _ q1 gk HI5.out)
            rw [HOV.out] at HD
            have f4 := HI4.out.cl.blk.frozen 4
            clear hsb hFc
            go_wp2_with fail
            exact HD.out
          | false =>
            have hae := stop_e hsb
            obtain ⟨hR1, hR2, hR3⟩ := readP_right (l := c1.left) (by rw [HA.out]; exact hae)
            rw [HA.out] at hR1 hR2 hR3
            obtain ⟨m, hm⟩ : ∃ m : Nat, a.n = (m : Int) := ⟨a.n.toNat, by omega⟩
            have hml : m ≤ c1.left.length := by omega
            have hm1 : 1 ≤ m := by omega
            obtain ⟨hL1, -, -⟩ : 1 ≤ a.L.length ∧ a.L.length ≤ 50 ∧ True := by
              obtain ⟨q1, q2, q3, q4⟩ := rightOk_parts hR1
              exact ⟨by omega, by omega, trivial⟩
            have HFN : Hid (F = feedL gj (heardC { c1 with left := c1.left.drop m } (clsN a.c) (repOf a))) := Lib.hid (by
              have h := feed_one (k := gj) (c := c1) H18.out (by rw [HA.out]; exact H140.out) (by rw [HA.out]; exact hsb)
              rw [HA.out, hm, Int.toNat_natCast] at h
              rw [← HFD.out, HGJ.out, h])
            have hL4 : OwnQ w4 0 q1.lw (.slice Al c1.left.length cl1) c1.left := by rw [← HLV.out]; exact HI4.out.cl.left
            have k6 : w4.cell? ⟨cb, 6, none⟩ = some (.slice Al c1.left.length cl1) := by rw [← HLV.out]; exact HI4.out.cl.blk.cell 6
            obtain ⟨own', -, ht⟩ := hL4.tail m hml
            obtain ⟨b0, o0, hAl, -⟩ := hL4.rb.1.at_ (show 0 < c1.left.length by omega)
            have hsl := fun W => slB_from Al c1.left.length cl1 m hml HLE.out W
            have KCl := Lib.hid (cloneB_walk w4 _ (c1.left.drop m) (c1.left.length - m) (cl1 - m) (by rw [List.length_drop]) ht.rb.1 (fun e => by rw [hAl] at e; split at e <;> cases e) (by have := HI.out.ll; omega))
            generalize (if cl1 = m then Al else Al.map fun a => a.add m) = Ad at *
            rw [hm]
            have HML := Lib.hid hml
            have HM1 := Lib.hid hm1
            have HR1 := Lib.hid hR1
            have HL1 := Lib.hid hL1
            clear hae hR1 hR2 hR3 hm hml hm1 hL1 hL4 ht hAl hsb
            go_wp2_with fail
            refine KCl.out.mono ?_
            rintro e w5 ⟨hb5, v5, o5, rfl, hO5, hn5⟩
            obtain ⟨A5, c5, rfl, -⟩ := hO5.out
            have HO5 := Lib.hid hO5
            have HN5 := Lib.hid hn5
            have HB5 := Lib.hid (HB4.out.trans (hb5.mono HB4.out.size))
            have z6 : w5.cell? ⟨cb, 6, none⟩ = some (.slice Al c1.left.length cl1) := by rw [← HLV.out]; exact (HI.out.cl.same HB5.out).blk.cell 6
            have g6 := (HI.out.cl.same HB5.out).blk.frozen 6
            have HBR5 := Lib.hid (HBR.out.keep hb5)
            have HO45 := Lib.hid (HO4.out.below hb5)
            clear hb5 hO5 hn5 KCl k6 k4 k7 r0 hsl
            go_upto_region 12 with fail
            obtain ⟨hC6, hS6⟩ := HI.out.cut HB5.out HO5.out (fun j hj => Nat.le_trans HB4.out.size (HN5.out j hj))
            have HSZ6 : Hid (wr.heap.size ≤ (w5.setCell ⟨cb, 6, none⟩ (.slice A5 (c1.left.drop m).length c5)).heap.size) := Lib.hid (by simp; exact HB5.out.size)
            have hcl0 := HI.out.cl.blk.lt
            have hpl0 := HI.out.cl.ppl.lt
            obtain ⟨lb, hA3, hlb, hlc⟩ := first_line HO45.out HL1.out
            have HBR6 : Hid (Blk (w5.setCell ⟨cb, 6, none⟩ (.slice A5 (c1.left.drop m).length c5)) w3.heap.size 57 #[.int .i64 a.c, .slice A3 a.L.length cp3]) := Lib.hid (HBR5.out.far (p := ⟨cb, 6, none⟩) (by show w3.heap.size ≠ cb; have := HB3.out.size; omega) _)
            have hlc6 : (w5.setCell ⟨cb, 6, none⟩ (.slice A5 (c1.left.drop m).length c5)).cell? ⟨lb, 0, none⟩ = some (.string (bs (((a.L[0]?).map (·.data.toList)).getD []))) := (World.cell?_setCell_far w5 ⟨cb, 6, none⟩ ⟨lb, 0, none⟩ _ (by show cb ≠ lb; omega)).trans hlc
            have HNO : Hid (∀ j, o5 = some j → wr.heap.size ≤ j) := Lib.hid fun j hj => Nat.le_trans HB4.out.size (HN5.out j hj)
            subst hA3
            rw [List.length_drop] at hC6 hS6 HSZ6 HBR6 hlc6
            generalize w5.setCell ⟨cb, 6, none⟩ (.slice A5 (c1.left.length - m) c5) = w6 at *
            have hok6 : COk { c1 with left := c1.left.drop m } := ⟨⟨HI.out.ok.sz.nm, HI.out.ok.sz.fr, HI.out.ok.sz.an, HI.out.ok.sz.bd, HI.out.ok.sz.n50⟩, HI.out.ok.st, HI.out.ok.pos, HI.out.ok.ln⟩
            have hst8 : c1.stage < 8 := by have := HI.out.ok.st; have := H18.out; omega
            obtain ⟨fid, hfid⟩ := doArr_at hst8
            have hRep : RepAt w6 pb ⟨a.c, lb, 0, a.L.length, cp3, ((a.L[0]?).map (·.data.toList)).getD []⟩ := ⟨HL1.out, hlc6, by show lb ≠ pb; omega⟩
            have KH := Lib.hid (fun (W : World) (hW : Below w6.heap.size w6 W) => (heard_calls (hC6.same hW) hok6 hst8 hfid (clsN a.c) (hRep.same hW) (show lb ≠ cb by omega)).mono (fun e w' hd => (⟨hd.1, DoPost.from_ hW hd⟩ : e = .returned (.tuple #[]) ∧ DoPost w6 cb pb bb _ _ e w')))
            have hix := fun W => doArr_idx hfid W
            have hcf := fun args W => doArr_enter hfid args W
            have HCN : Hid (classP a.c = ((clsN a.c : Nat) : Int)) := Lib.hid (classP_nat a.c)
            rw [HCN.out]
            have hS0 : ∀ W, Below w6.heap.size w6 W → W.cell? ⟨cb, 4, none⟩ = some (.int .i64 (c1.stage : Int)) ∧ W.cell? ⟨w3.heap.size, 0, none⟩ = some (.int .i64 a.c) ∧ W.cell? ⟨w3.heap.size, 1, none⟩ = some (.slice (some ⟨lb, 0, none⟩) a.L.length cp3) := fun W hW => ⟨(hC6.same hW).blk.cell 4, (HBR6.out.keep hW).cell 0, (HBR6.out.keep hW).cell 1⟩
            have HS := Lib.hid hS0
            obtain ⟨p4, p0, p1⟩ := hS0 w6 (Below.refl _ _)
            have hnx := Nx.heard hok6.po hst8 (clsN a.c) ⟨a.c, lb, 0, a.L.length, cp3, ((a.L[0]?).map (·.data.toList)).getD []⟩
            have hrk6 : rk { c1 with left := c1.left.drop m } = rk c1 := rfl
            have HFI : Hid (∀ e w7, DoPost w6 cb pb bb _ (heardC { c1 with left := c1.left.drop m } (clsN a.c) ⟨a.c, lb, 0, a.L.length, cp3, ((a.L[0]?).map (·.data.toList)).getD []⟩) e w7 → ∃ c3 q3, FdI w w7 cb pb bb q F c3 q3 gj) := Lib.hid fun e w7 hp => by
              have h0 := HI.out
              rw [HGJ.out] at h0
              have hms := h0.ms
              have hrk := hnx.rk
              exact ⟨_, FdI.heard (c2 := c1) (q2 := { q1 with lv := .slice A5 (c1.left.length - m) c5, lw := o5 }) h0 hS6 (hok6.next hnx) (by rw [HFN.out]; exact congrArg (feedL gj) (heardC_rep _ _ rfl rfl)) (by omega) (by rw [heardC_left]; show (c1.left.drop m).length ≤ _; rw [List.length_drop]; omega) (by rw [heardC_idle]; exact h0.idl) HNO.out rfl HSZ6.out hp⟩
            have HGM : Hid (gj < gk) := Lib.hid (by have := HGJ.out; omega)
            generalize DoPost w6 cb pb bb _ (heardC { c1 with left := c1.left.drop m } (clsN a.c) ⟨a.c, lb, 0, a.L.length, cp3, ((a.L[0]?).map (·.data.toList)).getD []⟩) = DP at *
            generalize clsN a.c = cls at *
            generalize c1.stage = stg at *
            generalize a.c = acode at *
            generalize a.L.length = aln at *
            generalize a.e = aer at *
            clear hC6 hS6 HSZ6 hcl0 hpl0 hlb hlc HBR6 hlc6 HNO hok6 hst8 hfid hRep HCN hS0 hnx hrk6 HFN HI4 HBR HO4 HB4 HO5 HN5 HB5 HBR5 HO45 HR1 HL1 HM1 HML HST H140 HMX HLE H18 HLV HA HB3 HFD HOV HI HH HT h80 z6 g6 he h8i
            obtain ⟨d4, d0, d1⟩ := HS.out _ (bdrewN (Below.refl _ _) 1)
            go_region_with (first
              | (go_at_call 35; refine (doings_walk _).mono ?_; rintro e wa ⟨hba, rfl⟩; have B1 : Hid (Below w6.heap.size w6 wa) := Lib.hid ⟨hba.os, hba.tape, hba.output, hba.size, hba.block⟩; have a4 := (HS.out _ B1.out).1; have a0 := (HS.out _ B1.out).2.1; have a1 := (HS.out _ B1.out).2.2; clear hba)
              | (refine (KH.out _ (by first | exact B1.out | exact bdrewN B1.out 1)).mono ?_; rintro e wb ⟨rfl, hp⟩; have HP := Lib.hid hp; clear hp))
            all_goals
              obtain ⟨c3, q3, hi3⟩ := HFI.out _ _ HP.out
              have HI3 := Lib.hid hi3
              clear hi3 HP KH HFI HS HFIN p4 p0 p1 hix hcf d4 d0 d1
              go_wp2_with fail
              go_roundg gj
              case rel => exact Lib.hid ⟨c3, q3, HI3.out⟩
              case measure => exact HGM.out
end Go.Proofs.YtjnjnccfojfghaaGreatDoor

/-! The walk of the law's awake: a client greets. Conditions: what the library's variables hold. -/
namespace Go.Proofs.YtjnjnccfojfghaaGreatDoor
open Go.RowKit
set_option linter.unusedVariables false
def awkO : OrdM := ⟨[109, 120, 46, 101, 120, 97, 109, 112, 108, 101], ⟨true, [], [], false⟩, [⟨false, [98], [121, 46, 101, 120, 97, 109, 112, 108, 101], false⟩], [97, 13, 10]⟩
def awkB : Tx := [50, 50, 48, 32, 104, 105, 13, 10]
theorem awk_ok : newOk awkO := by
  refine ⟨by kernel_rfl, by decide, by decide, by kernel_rfl, fun p hp => ?_, by kernel_rfl⟩
  obtain rfl : p = ⟨false, [98], [121, 46, 101, 120, 97, 109, 112, 108, 101], false⟩ := by simpa [awkO] using hp
  exact ⟨by kernel_rfl, rfl⟩
theorem awk_out : (feedC (newM awkO) awkB).out = [69, 72, 76, 79, 32, 109, 120, 46, 101, 120, 97, 109, 112, 108, 101, 13, 10] := by kernel_rfl
/-- Feed as the laws hold it -/
def FeedL (B : Nat) (w : World) (cb pb : Nat) (bb : Option Nat) (c : ClM) (q : CPts) (b : Tx) (e : Ending) (w' : World) : Prop :=
  ∃ v q', e = .returned v ∧ CliB B w' cb pb bb (feedC c b) q' ∧ OwnB w' w.heap.size 5 v (feedO c b) ∧ (∀ j, q'.lw = some j → q.lw = some j ∨ w.heap.size ≤ j) ∧ (∀ j, q'.ov.ownBlock = some j → q.ov.ownBlock = some j ∨ w.heap.size ≤ j) ∧ Safe (FdS w cb pb q) w w'
theorem feed_law {B : Nat} {w : World} {cb pb : Nat} {bb : Option Nat} {c : ClM} {q : CPts} (h : CliB B w cb pb bb c q) (HT : ∀ x, Below B w x → TabC x) (A : Option Addr) (b : Tx) (n cap : Nat) (hn : n = b.length) (hr : RB w w.heap.size A b) (hrc : b = [] ∨ ∀ a, A = some a → a.block ≠ cb) (hll : c.left.length + b.length ≤ 70368744177664) :
    Calls Tryz.prog 13 #[.pointer (some ⟨cb, 0, none⟩), .slice A n cap] w (FeedL B w cb pb bb c q b) := by
  by_cases h8 : c.stage = 8
  · refine (cfeed_over h h8 _).mono ?_
    rintro e w' ⟨rfl, rfl⟩
    have e1 : feedC c b = c := by unfold feedC; rw [if_pos h8]
    have e2 : feedO c b = [] := by unfold feedO; rw [if_pos h8]
    exact ⟨_, q, rfl, by rw [e1]; exact h, by rw [e2]; exact OwnB.nil _ _ _, fun j hj => .inl hj, fun j hj => .inl hj, Safe.refl _ _⟩
  · refine (cfeed_walk h h8 HT A b n cap hn hr hrc hll).mono ?_
    rintro e w' ⟨q', rfl, h1, h2, h3, h4⟩
    have e2 : feedO c b = (feedC c b).out := by unfold feedO; rw [if_neg h8]
    exact ⟨_, q', rfl, h1, by rw [e2]; exact h2, h3, fun j hj => .inr (World.ownsRow.lt h2 j hj).1, h4⟩
theorem FeedL.below {B : Nat} {w w' : World} {cb pb : Nat} {bb : Option Nat} {c : ClM} {q : CPts} (h : CliB B w cb pb bb c q) (hs : Safe (FdS w cb pb q) w w') : Below B w w' :=
  hs.to_below (fun k hk => ⟨Nat.lt_of_lt_of_le hk (Nat.le_of_lt h.lt), by have := h.cB; omega, by have := h.pB; omega, fun e => by have := h.lB k e; omega⟩)
theorem run_convS {w : World} {A : Option Addr} {l : Tx} {n : Nat} (h : RB w w.heap.size A l) (c : Nat) (hn : n = l.length) : (convert 25 9 (.slice A n c)).run Tryz.prog w = .ok (.string (bs l)) w :=
  run_convRB 25 9 5 Tryz.underlying25 Tryz.underlying5 Tryz.underlying9 h n c hn
set_option maxRecDepth 100000 in
set_option maxHeartbeats 4000000 in
theorem awake_walk (w : World) (T : TabC w) : Calls Tryz.prog 11 #[] w fun e w' => Below w.heap.size w w' ∧ e = .returned (.bool true) := by
  obtain ⟨w1, hw1⟩ : ∃ w1, (w.alloc (.cells #[.bool false, .string ⟨#[98]⟩, .string ⟨#[121, 46, 101, 120, 97, 109, 112, 108, 101]⟩, .bool false] 23)).alloc (.cells #[.int .u8 97, .int .u8 13, .int .u8 10] 5 (3, 4)) = w1 := ⟨_, rfl⟩
  have hb1 : Below w.heap.size w w1 := by rw [← hw1]; exact ((Below.refl _ _).alloc (Nat.le_refl _) _).alloc (by simp) _
  have hs1 : w1.heap.size = w.heap.size + 2 := by rw [← hw1]; simp
  have hx1 : Blk w1 w.heap.size 23 #[.bool false, .string ⟨#[98]⟩, .string ⟨#[121, 46, 101, 120, 97, 109, 112, 108, 101]⟩, .bool false] := by rw [← hw1]; exact (Blk.new _ _ _).alloc _
  have hcv1 : (convert 25 25 (.slice (some ⟨w.heap.size + 1, 0, none⟩) 3 3)).run Tryz.prog ((w.alloc (.cells #[.bool false, .string ⟨#[98]⟩, .string ⟨#[121, 46, 101, 120, 97, 109, 112, 108, 101]⟩, .bool false] 23)).alloc (.cells #[.int .u8 97, .int .u8 13, .int .u8 10] 5)) = .ok (.slice (some ⟨w.heap.size + 1, 0, none⟩) 3 3) w1 := by
    rw [← hw1]
    exact conv_at _ _ _ _ _ _ _ (by simp) Tryz.underlying25 Tryz.underlying5
  have hx2 : RB w1 w1.heap.size (some ⟨w.heap.size + 1, 0, none⟩) [97, 13, 10] := by
    have := RB.mark (w.alloc (.cells #[.bool false, .string ⟨#[98]⟩, .string ⟨#[121, 46, 101, 120, 97, 109, 112, 108, 101]⟩, .bool false] 23)) 5 #[.int .u8 97, .int .u8 13, .int .u8 10] (3, 4) [97, 13, 10] rfl
    rw [hw1] at this
    have h2 : (w.alloc (.cells #[.bool false, .string ⟨#[98]⟩, .string ⟨#[121, 46, 101, 120, 97, 109, 112, 108, 101]⟩, .bool false] 23)).heap.size = w.heap.size + 1 := by simp
    rw [h2] at this
    rw [hs1]
    exact this
  have hord : OrdR w1 w1.heap.size awkO ⟨some ⟨w.heap.size, 0, none⟩, 1, some ⟨w.heap.size + 1, 0, none⟩, 3⟩ := by
    refine ⟨.inr ⟨_, _, rfl, by omega, fun i p hp k v hv => ?_⟩, hx2, Nat.le_refl 1, by simp [maxLen], Nat.le_refl 3, by simp [maxLen], fun e => by cases e⟩
    · have hi := (List.getElem?_eq_some_iff.1 hp).1
      obtain rfl : i = 0 := by have : i < 1 := hi; omega
      obtain rfl : p = ⟨false, [98], [121, 46, 101, 120, 97, 109, 112, 108, 101], false⟩ := (Option.some.inj hp).symm
      rw [show 0 + 0 * 4 + k = k by omega, hx1.cell k]
      rw [← hv]
      have hk : k < 4 := (List.getElem?_eq_some_iff.1 hv).1
      have : k = 0 ∨ k = 1 ∨ k = 2 ∨ k = 3 := by omega
      rcases this with rfl | rfl | rfl | rfl <;> rfl
  have hfit : awkO.Fit ⟨some ⟨w.heap.size, 0, none⟩, 1, some ⟨w.heap.size + 1, 0, none⟩, 3⟩ 1048576 := by
    refine ⟨by decide, by decide, by decide, fun p hp => ?_, show 1 ≤ 1048576 by decide, show 3 ≤ 1048576 by decide⟩
    obtain rfl : p = ⟨false, [98], [121, 46, 101, 120, 97, 109, 112, 108, 101], false⟩ := by simpa [awkO] using hp
    exact ⟨by decide, by decide⟩
  have K : Hid (Calls Tryz.prog 12 #[.string ⟨#[109, 120, 46, 101, 120, 97, 109, 112, 108, 101]⟩, .agg #[.bool true, .string ⟨#[]⟩, .string ⟨#[]⟩, .bool false], .slice (some ⟨w.heap.size, 0, none⟩) 1 1, .slice (some ⟨w.heap.size + 1, 0, none⟩) 3 3] w1 (CNewPost w1 awkO)) := Lib.hid (cnew_walk w1 (T.keep hb1) awkO ⟨some ⟨w.heap.size, 0, none⟩, 1, some ⟨w.heap.size + 1, 0, none⟩, 3⟩ hord hfit)
  have HB1 := Lib.hid hb1
  have HT := Lib.hid T
  have HOK := Lib.hid awk_ok
  clear hord hfit hx1 hx2 hb1 T hw1 hs1
  go_enter Tryz.func11, Tryz.ntmps11
  go_wp2_with fail
  refine K.out.mono ?_
  rintro e w3 ⟨hb3, ⟨-, cb, pb, bb, q, rfl, hC, hbk⟩ | ⟨hno, -⟩⟩
  case inr => exact absurd HOK.out hno
  have hB3 := HB1.out.trans (hb3.mono HB1.out.size)
  have HB3 := Lib.hid hB3
  obtain ⟨w4, hw4⟩ : ∃ w4, w3.alloc (.cells #[.int .u8 50, .int .u8 50, .int .u8 48, .int .u8 32, .int .u8 104, .int .u8 105, .int .u8 13, .int .u8 10] 5 (8, 9)) = w4 := ⟨_, rfl⟩
  have hcv4 : (convert 25 25 (.slice (some ⟨w3.heap.size, 0, none⟩) 8 8)).run Tryz.prog (w3.alloc (.cells #[.int .u8 50, .int .u8 50, .int .u8 48, .int .u8 32, .int .u8 104, .int .u8 105, .int .u8 13, .int .u8 10] 5)) = .ok (.slice (some ⟨w3.heap.size, 0, none⟩) 8 8) w4 := by
    rw [← hw4]
    exact conv_at _ _ _ _ _ _ _ rfl Tryz.underlying25 Tryz.underlying5
  have hal : Below w3.heap.size w3 w4 := by rw [← hw4]; exact (Below.refl _ _).alloc (Nat.le_refl _) _
  have hC4 := hC.same hal
  have hr4 : RB w4 w4.heap.size (some ⟨w3.heap.size, 0, none⟩) awkB := by
    have := RB.mark w3 5 #[.int .u8 50, .int .u8 50, .int .u8 48, .int .u8 32, .int .u8 104, .int .u8 105, .int .u8 13, .int .u8 10] (8, 9) awkB rfl
    have h2 : w4.heap.size = w3.heap.size + 1 := by rw [← hw4]; simp
    rw [hw4] at this
    rw [h2]
    exact this
  have hcl3 := hC.cl.blk.lt
  have HC4 := Lib.hid hC4
  have HAL := Lib.hid hal
  have KF := Lib.hid (feed_law hC4 (fun x hx => HT.out.keep (((hB3.trans (hal.mono hB3.size))).trans (hx.mono HB1.out.size))) (some ⟨w3.heap.size, 0, none⟩) awkB 8 8 rfl hr4 (.inr fun a ha => by cases ha; show w3.heap.size ≠ cb; omega) (by decide))
  have hcw : cb ≠ w3.heap.size := by omega
  clear hb3 hB3 hC hC4 hr4 hal K hbk hcl3 hw4
  go_wp2_with fail
  refine KF.out.mono ?_
  rintro e w5 ⟨v, q5, rfl, hC5, hO5, -, -, hS5⟩
  obtain ⟨A5, c5, rfl, hc5, hm5, hr5⟩ := hO5.out
  have hB5 : Below w1.heap.size _ w5 := FeedL.below HC4.out hS5
  have HB5 := Lib.hid ((HB3.out.trans (HAL.out.mono HB3.out.size)).trans (hB5.mono HB1.out.size))
  have e5 : feedO (newM awkO) awkB = [69, 72, 76, 79, 32, 109, 120, 46, 101, 120, 97, 109, 112, 108, 101, 13, 10] := awk_out
  have hcv := run_convS (n := 17) hr5 c5 (by rw [e5]; rfl)
  rw [e5] at hcv ⊢
  have hbs : bs [69, 72, 76, 79, 32, 109, 120, 46, 101, 120, 97, 109, 112, 108, 101, 13, 10] = ⟨#[69, 72, 76, 79, 32, 109, 120, 46, 101, 120, 97, 109, 112, 108, 101, 13, 10]⟩ := rfl
  rw [hbs] at hcv
  clear hC5 hO5 hS5 hr5 hB5 KF
  go_wp2_with fail
  go_ret
  exact ⟨HB5.out, rfl⟩
end Go.Proofs.YtjnjnccfojfghaaGreatDoor
