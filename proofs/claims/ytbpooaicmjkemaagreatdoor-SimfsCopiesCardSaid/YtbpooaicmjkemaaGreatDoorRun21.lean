/-
  Several texts in one (merge.py): SfMade, SfPly, SfTab, SfOpS. Conditions: each part names its own.
-/
import Derived.Test.YtbpooaicmjkemaaGreatDoorSfRNw
import Derived.Test.YtbpooaicmjkemaaGreatDoorSfLLk
import Derived.Test.YtbpooaicmjkemaaGreatDoorSfShow
import Derived.Test.YtbpooaicmjkemaaGreatDoorLibAll
import Derived.OwnWalk
import Derived.Test.YtbpooaicmjkemaaGreatDoorRun19
import Derived.Test.YtbpooaicmjkemaaGreatDoorRun20
import Derived.Test.YtbpooaicmjkemaaGreatDoorRun2
import Derived.PinnedBridge
import Derived.Test.YtbpooaicmjkemaaGreatDoorRun3
import Derived.Test.YtbpooaicmjkemaaGreatDoorRun10
/-! The walk of the law's made: both disks of the same directories, whose names are then overwritten. Conditions: the lengths. -/
namespace Go.Proofs.YtbpooaicmjkemaaGreatDoor
open Go.RowKit Go.Maps
set_option linter.unusedVariables false
def MadePost (W : World) (r : Option Dk) (e : Ending) (w' : World) : Prop :=
  Below W.heap.size W w' ∧ match r with
  | none => e = .returned (.tuple #[.pointer none, .pointer none, .bool true])
  | some d => ∃ db rb own', Disk 0 w' own' db d ∧ RDisk 1 w' own' rb d ∧ (∀ k, k < W.heap.size → own' k = (0, 0)) ∧ e = .returned (.tuple #[ptrV db, ptrV rb, .bool true])
theorem bytes16 : ∀ i, Tryz.prog.info? 9 = some i → i.bytes = 16 := by
  have h : (Tryz.prog.info? 9).map (·.bytes) = some 16 := by kernel_rfl
  intro i hi
  rw [hi] at h
  exact Option.some.inj h
/-- a store into a block of no mark -/
theorem goes0 {w : World} {own : Nat → Nat × Nat} {g : Nat} (hg : own g = (0, 0)) (p : Addr) (hp : p.block = g) (v : Value) : Goes (fun t => t ≠ (0, 0)) w (w.setCell p v) own own :=
  ⟨by simp, fun k hk h => ⟨Below.heap_setCell w p v k (by rw [hp]; rintro rfl; exact h hg), rfl⟩⟩
theorem goes0_d {z db g : Nat} {w : World} {own : Nat → Nat × Nat} {d : Dk} (h : Disk z w own db d) (hg : own g = (0, 0)) (p : Addr) (hp : p.block = g) (v : Value) : Disk z (w.setCell p v) own db d :=
  h.goes (goes0 hg p hp v) (by unfold frz; simp) fun t ht e => not_isD0 z (e ▸ ht)
theorem goes0_r {z db g : Nat} {w : World} {own : Nat → Nat × Nat} {d : Dk} (h : RDisk z w own db d) (hg : own g = (0, 0)) (p : Addr) (hp : p.block = g) (v : Value) : RDisk z (w.setCell p v) own db d := by
  obtain ⟨q, h⟩ := h
  exact ⟨q, h.goes (goes0 hg p hp v) (by unfold frz; simp) fun t ht e => not_isD0 z (e ▸ ht)⟩
set_option maxRecDepth 100000 in
set_option maxHeartbeats 4000000 in
theorem made_walk (W : World) (quota : Int) (A : Option Addr) (n c : Nat) (ds : List Tx) (hn : n = ds.length) (hr : RSx W A ds) (hnb : n * 16 ≤ 140737488351232) (hlen : ∀ p ∈ ds, p.length ≤ maxLen) :
    Calls Tryz.prog 16 #[.int .i64 quota, .slice A n c] W (MadePost W (initM quota ds)) := by
  have HN := Lib.hid hn
  have HLEN := Lib.hid hlen
  have hba := (Below.refl W.heap.size W).alloc (Nat.le_refl _) (.cells #[] 9)
  have HBA := Lib.hid hba
  have HR0 := Lib.hid hr
  have HR := Lib.hid (hr.below hba)
  have HA0 : Hid (A = none → n = 0) := Lib.hid fun e => by
    rcases hr with h | ⟨b, off, h, -⟩
    · rw [hn, h]; rfl
    · rw [h] at e; cases e
  have HNB := Lib.hid hnb
  have hn64 : (n : Int) ≤ 9223372036854775807 := by omega
  obtain ⟨r, hri⟩ : ∃ r, initM quota ds = r := ⟨_, rfl⟩
  have HRI := Lib.hid hri
  rw [hri]
  clear hn hr hnb hlen hba hri
  go_enter Tryz.func16, Tryz.ntmps16
  go_wp2_with (at_builtin; refine wpList_appY _ uxS (.tmp 13) (.tmp 14) rfl rfl rfl A n c rfl (ds.map stV) (by rw [List.length_map, ← HN.out, Nat.mul_one]) HA0.out HR.out.news (oneS _) (fun i hi => by rw [bytes16 i hi]; have := HNB.out; omega) (by have := HNB.out; omega) ?_; intro v3 g3 w3 hX3 hG3 ho3; have HX3 := Lib.hid hX3; have HB3 := Lib.hid (belowX HBA.out hG3 (fun k h => by cases h) HBA.out.size); have HO3 : Hid (∀ k, g3 = some k → W.heap.size ≤ k ∧ k < w3.heap.size) := Lib.hid (fun k hk => ⟨by rcases ho3 with h | h <;> (rw [h] at hk; cases hk); exact HBA.out.size, hX3.lt hk⟩); obtain ⟨A3, n3, c3, rfl, -⟩ := hX3.sl; clear hX3 hG3 ho3)
  have HF3 := Lib.hid HX3.out.rsx
  have hn3 : n3 = ds.length := HX3.out.rsx.1
  have hnn : n3 = n := by rw [HN.out]; exact hn3
  subst hnn
  have KN := Lib.hid (new_walk 0 w3 (fun _ => (0, 0)) quota A3 n3 c3 ds hn3 HF3.out.2.2.2 (by have := HNB.out; unfold maxLen; omega) (by have := HNB.out; omega) HLEN.out)
  rw [HRI.out] at KN
  clear hn3
  cases r with
  | none =>
    go_wp2_with fail
    refine KN.out.mono ?_
    rintro e w4 ⟨hb4, rfl⟩
    have HB34 := Lib.hid hb4
    have HB4 := Lib.hid (HB3.out.trans (hb4.mono HB3.out.size))
    have KR := Lib.hid (rnew_walk 1 w4 (fun _ => (0, 0)) quota A n3 c ds HN.out (HR0.out.below HB4.out) (by have := HNB.out; unfold maxLen; omega) HLEN.out)
    rw [HRI.out] at KR
    clear hb4 KN
    go_wp2_with fail
    refine KR.out.mono ?_
    rintro e w5 ⟨hb5, rfl⟩
    have HB5 := Lib.hid (HB4.out.trans (hb5.mono HB4.out.size))
    have HX5 := Lib.hid (HX3.out.below (HB34.out.trans (hb5.mono HB34.out.size)) (fun k hk => (HO3.out k hk).2))
    clear hb5 KR HX3 HB3 HB4 HB34
    go_upto_region 5 with fail
    go_loopg [12] n3 (fun k s12 wr => ∃ (i : Nat) (xs : List Value), s12 = .int .i64 (i : Int) ∧ i + k = n3 ∧ Hid (OwnX 1 wr g3 (.slice A3 n3 c3) xs) ∧ Hid (Below W.heap.size W wr))
    case atStart => exact ⟨0, _, rfl, by omega, HX5, HB5⟩
    case round =>
      obtain ⟨i, xs, rfl, hi, HX, HB⟩ := hrel
      clear HX5 HB5
      by_cases hlt : i < n3
      · have hlt1 : (i : Int) < (n3 : Int) := by omega
        obtain ⟨hf1, hf2, hf3⟩ := HX.out.form
        rw [Nat.mul_one] at hf1
        obtain ⟨g, off, rfl, rfl, hgl, hgc, hgf⟩ := HX.out.at_ (by omega)
        obtain ⟨v0, hv0⟩ := Option.isSome_iff_exists.1 (hgf i (by omega)).1
        have hz0 : wr.frozen? ⟨g, off + i, none⟩ = false := (hgf i (by omega)).2
        have HXS := Lib.hid (HX.out.set_ (by omega) i (by omega) (.string ⟨#[55, 55]⟩))
        have HG1 := Lib.hid (HO3.out g rfl).1
        have HI := Lib.hid hi
        have HLT := Lib.hid hlt
        clear hgc hgf hf1 hf2 hf3 hi hlt
        go_wp2_with fail
        go_roundg (gk - 1)
        case rel => exact ⟨i + 1, _, by go_num, by have := HI.out; have := HLT.out; omega, HXS, Lib.hid (HB.out.setCell HG1.out _)⟩
        case measure => have := HI.out; have := HLT.out; omega
      · have hlt1 : ¬ (i : Int) < (n3 : Int) := by omega
        go_wp2_with fail
        go_ret3
        exact ⟨HB.out, rfl⟩
  | some d =>
    go_wp2_with fail
    refine KN.out.mono ?_
    rintro e w4 ⟨hb4, db, own4, hdb, hD4, hm4, rfl⟩
    have HB34 := Lib.hid hb4
    have HD4 := Lib.hid hD4
    have HM4 := Lib.hid hm4
    have HB4 := Lib.hid (HB3.out.trans (hb4.mono HB3.out.size))
    have KR := Lib.hid (rnew_walk 1 w4 own4 quota A n3 c ds HN.out (HR0.out.below HB4.out) (by have := HNB.out; unfold maxLen; omega) HLEN.out)
    rw [HRI.out] at KR
    clear hb4 KN hdb hD4 hm4
    unfold ptrV
    go_wp2_with fail
    refine KR.out.mono ?_
    rintro e w5 ⟨hb5, rb, own5, hrb, hD5, hm5, rfl⟩
    have HB5 := Lib.hid (HB4.out.trans (hb5.mono HB4.out.size))
    have HX5 := Lib.hid (HX3.out.below (HB34.out.trans (hb5.mono HB34.out.size)) (fun k hk => (HO3.out k hk).2))
    have HR5 := Lib.hid hD5
    have HD5 : Hid (Disk 0 w5 own5 db d) := Lib.hid (HD4.out.goes (keep := fun _ => True) ⟨hb5.size, fun k hk _ => ⟨hb5.block k hk, hm5 k hk⟩⟩ trivial fun _ _ => trivial)
    have HM5 : Hid (∀ k, k < w3.heap.size → own5 k = (0, 0)) := Lib.hid fun k hk => (hm5 k (Nat.lt_of_lt_of_le hk HB34.out.size)).trans (HM4.out k hk)
    have HS3 : Hid (W.heap.size ≤ w3.heap.size) := Lib.hid HB3.out.size
    clear hb5 KR HX3 HB3 HB4 HB34 HD4 HM4 hrb hD5 hm5
    unfold ptrV
    go_upto_region 5 with fail
    go_loopg [12] n3 (fun k s12 wr => ∃ (i : Nat) (xs : List Value), s12 = .int .i64 (i : Int) ∧ i + k = n3 ∧ Hid (OwnX 1 wr g3 (.slice A3 n3 c3) xs) ∧ Hid (Below W.heap.size W wr) ∧ Hid (Disk 0 wr own5 db d) ∧ Hid (RDisk 1 wr own5 rb d))
    case atStart => exact ⟨0, _, rfl, by omega, HX5, HB5, HD5, HR5⟩
    case round =>
      obtain ⟨i, xs, rfl, hi, HX, HB, HD, HRD⟩ := hrel
      clear HX5 HB5 HD5 HR5
      by_cases hlt : i < n3
      · have hlt1 : (i : Int) < (n3 : Int) := by omega
        obtain ⟨hf1, hf2, hf3⟩ := HX.out.form
        rw [Nat.mul_one] at hf1
        obtain ⟨g, off, rfl, rfl, hgl, hgc, hgf⟩ := HX.out.at_ (by omega)
        obtain ⟨v0, hv0⟩ := Option.isSome_iff_exists.1 (hgf i (by omega)).1
        have hz0 : wr.frozen? ⟨g, off + i, none⟩ = false := (hgf i (by omega)).2
        have HXS := Lib.hid (HX.out.set_ (by omega) i (by omega) (.string ⟨#[55, 55]⟩))
        have HG1 := Lib.hid (HO3.out g rfl).1
        have HGM := Lib.hid (HM5.out g (HO3.out g rfl).2)
        have HI := Lib.hid hi
        have HLT := Lib.hid hlt
        clear hgc hgf hf1 hf2 hf3 hi hlt
        go_wp2_with fail
        go_roundg (gk - 1)
        case rel => exact ⟨i + 1, _, by go_num, by have := HI.out; have := HLT.out; omega, HXS, Lib.hid (HB.out.setCell HG1.out _), Lib.hid (goes0_d HD.out HGM.out _ rfl _), Lib.hid (goes0_r HRD.out HGM.out _ rfl _)⟩
        case measure => have := HI.out; have := HLT.out; omega
      · have hlt1 : ¬ (i : Int) < (n3 : Int) := by omega
        go_wp2_with fail
        go_ret3
        exact ⟨HB.out, db, rb, own5, HD.out, HRD.out, fun k hk => HM5.out k (Nat.lt_of_lt_of_le hk HS3.out), rfl⟩
end Go.Proofs.YtbpooaicmjkemaaGreatDoor

/-! The walk of the law SimfsPlays: the program's disk and the document's answer and show the same. Conditions: the lengths. -/
namespace Go.Proofs.YtbpooaicmjkemaaGreatDoor
open Go.RowKit Go.Maps
set_option linter.unusedVariables false
/-- both disks stand alike -/
structure PlI (W : World) (db rb : Nat) (w : World) (own : Nat → Nat × Nat) (d : Dk) (K : Nat) : Prop where
  p : DkI 0 w own db d K
  r : RDkI 1 w own rb d K
  b : Below W.heap.size W w
  m : ∀ k, k < W.heap.size → own k = (0, 0)
  h0 : 0 < d.dirs.length
/-- the document's disk has done a deed -/
structure PlM (W : World) (db rb : Nat) (w : World) (own : Nat → Nat × Nat) (d d' : Dk) (K : Nat) : Prop where
  p : DkI 0 w own db d K
  r : RDisk 1 w own rb d'
  b : Below W.heap.size W w
  m : ∀ k, k < W.heap.size → own k = (0, 0)
  h0 : 0 < d.dirs.length
section
variable {W w w' : World} {db rb K : Nat} {own : Nat → Nat × Nat} {d d' : Dk}
theorem below_turn {z : Nat} {own' : Nat → Nat × Nat} (hb : Below W.heap.size W w) (hm : ∀ k, k < W.heap.size → own k = (0, 0)) (ht : Turn (isD z) w w' own own') : Below W.heap.size W w' ∧ ∀ k, k < W.heap.size → own' k = (0, 0) := by
  have hs := hb.size
  have hn : ∀ k, k < W.heap.size → ¬ isD z (own k) := fun k hk => by rw [hm k hk]; exact not_isD0 z
  exact ⟨⟨ht.os.trans hb.os, ht.tape.trans hb.tape, ht.output.trans hb.output, Nat.le_trans hs ht.size, fun k hk => (ht.block k (by omega) (hn k hk)).trans (hb.block k hk)⟩, fun k hk => (ht.mark k (by omega) (hn k hk)).trans (hm k hk)⟩
theorem PlI.asked (h : PlI W db rb w own d K) {x : Dd} {e : Ending} (hp : ROpPost 1 w own rb (doesM d x) e w') :
    ∃ own', PlM W db rb w' own' d (doesM d x).1 K ∧ e = .returned (.int .i64 (doesM d x).2) := by
  obtain ⟨own', h1, h2, h3⟩ := hp
  obtain ⟨hb, hm⟩ := below_turn h.b h.m h3
  have hg := Goes.of_turn (keep := fun t => ¬ isD 1 t) h3 fun t h => h
  exact ⟨own', ⟨⟨h.p.dk.goes hg (by unfold isD frz; simp) fun t ht h => by unfold isD at ht h; omega, h.p.wf, h.p.sw⟩, h1, hb, hm, h.h0⟩, h2⟩
theorem PlM.does {x : Dd} (h : PlM W db rb w own d (doesM d x).1 K) (hx : x.n ≤ 9223372036854775807) {e : Ending} (hp : OpPost 0 w own db (doesM d x) e w') :
    ∃ own', PlI W db rb w' own' (doesM d x).1 (K + 1) ∧ e = .returned (.int .i64 (doesM d x).2) := by
  obtain ⟨own', h1, h2, h3⟩ := hp
  obtain ⟨hb, hm⟩ := below_turn h.b h.m h3
  have hg := Goes.of_turn (keep := fun t => ¬ isD 0 t) h3 fun t h => h
  obtain ⟨q, hq⟩ := h.r
  exact ⟨own', ⟨h.p.does hx h1, ⟨⟨q, hq.goes hg (by unfold isD frz; simp) fun t ht h => by unfold isD at ht h; omega⟩, h.p.wf.does x, h.p.sw.does hx⟩, hb, hm, by rw [does_dirs]; exact h.h0⟩, h2⟩
theorem PlI.below (h : PlI W db rb w own d K) (hb : Below w.heap.size w w') : PlI W db rb w' own d K :=
  ⟨h.p.same hb, h.r.below hb, h.b.trans (hb.mono h.b.size), h.m, h.h0⟩
theorem PlI.start {ds : List Tx} {q : Int} (hi : initM q ds = some d) (hb : Below W.heap.size W w) {own' : Nat → Nat × Nat} (hb2 : Below w.heap.size w w') (h1 : Disk 0 w' own' db d) (h2 : RDisk 1 w' own' rb d) (hm : ∀ k, k < w.heap.size → own' k = (0, 0)) : PlI W db rb w' own' d 0 := by
  have hw := initM_wf hi
  have hsw : SwOk d 0 ∧ 0 < d.dirs.length := by
    unfold initM at hi
    split at hi
    · rename_i hc
      obtain rfl := Option.some.inj hi
      refine ⟨⟨by show (0 : Nat) ≤ _; omega, by show (0 : Nat) ≤ _; omega, Int.le_refl _, Int.le_refl _⟩, ?_⟩
      show 0 < (sortT ds).length
      rw [sortT_len]
      exact hc.2.1.1
    · cases hi
  exact ⟨⟨h1, hw, hsw.1⟩, ⟨h2, hw, hsw.1⟩, hb.trans (hb2.mono hb.size), fun k hk => hm k (Nat.lt_of_lt_of_le hk hb.size), hsw.2⟩
end
set_option maxRecDepth 100000 in
set_option maxHeartbeats 4000000 in
theorem plays_walk (W : World) (quota : Int) (A : Option Addr) (n c : Nat) (ds : List Tx) (hn : n = ds.length) (hr : RSx W A ds) (hnb : n * 16 ≤ 140737488351232) (hlen : ∀ p ∈ ds, p.length ≤ maxLen)
    (A1 : Option Addr) (n1 c1 : Nat) (D : List Dd) (hn1 : n1 = D.length) (hc1 : n1 ≤ 140737488351232) (h1 : RDs W W.heap.size A1 D) :
    Calls Tryz.prog 4 #[.int .i64 quota, .slice A n c, .slice A1 n1 c1] W fun e W' => Below W.heap.size W W' ∧ e = .returned (.bool true) := by
  have HS := Lib.hid (shown_walk W)
  have HN1 := Lib.hid hn1
  have HRD := Lib.hid h1
  have HM : Hid (∀ w, Below W.heap.size W w → Calls Tryz.prog 16 #[.int .i64 quota, .slice A n c] w (MadePost w (initM quota ds))) := Lib.hid fun w hb => made_walk w quota A n c ds hn (hr.below hb) hnb hlen
  obtain ⟨r, hri⟩ : ∃ r, initM quota ds = r := ⟨_, rfl⟩
  have HRI := Lib.hid hri
  clear hn1 h1 hn hr hnb hlen
  go_enter Tryz.func4, Tryz.ntmps4
  go_wp2_with fail
  refine HS.out.mono ?_
  rintro e w2 ⟨hb2, rfl⟩
  have HB2 := Lib.hid hb2
  have KM := Lib.hid (HM.out w2 hb2)
  rw [hri] at KM
  clear hb2 HS HM hri
  cases r with
  | none =>
    go_wp2_with fail
    refine KM.out.mono ?_
    rintro e w3 ⟨hb3, rfl⟩
    have HB3 := Lib.hid (HB2.out.trans (hb3.mono HB2.out.size))
    clear hb3 KM HB2
    go_upto_region 6 with fail
    go_loopg [11, 12, 13, 14] 1 (fun k s11 s12 s13 s14 wr => s11 = .int .i64 0 ∧ Hid (Below W.heap.size W wr))
    case atStart => exact ⟨rfl, HB3⟩
    case round =>
      obtain ⟨rfl, HB⟩ := hrel
      clear HB3
      by_cases h0 : 0 < n1
      · have h01 : (0 : Int) < (n1 : Int) := by omega
        go_wp2_with fail
        go_ret
        exact ⟨HB.out, rfl⟩
      · have h01 : ¬ (0 : Int) < (n1 : Int) := by omega
        go_wp2_with fail
        go_ret
        exact ⟨HB.out, rfl⟩
  | some d =>
    go_wp2_with fail
    refine KM.out.mono ?_
    rintro e w3 ⟨hb3, db, rb, own3, hd3, hr3, hm3, rfl⟩
    have HI3 : Hid (PlI W db rb w3 own3 d 0) := Lib.hid (PlI.start HRI.out HB2.out hb3 hd3 hr3 hm3)
    clear hb3 hd3 hr3 hm3 KM HB2
    unfold ptrV
    go_upto_region 6 with fail
    go_loopg [11, 12, 13, 14] 200 (fun k s11 s12 s13 s14 wr => ∃ (i : Nat) (own' : Nat → Nat × Nat) (d' : Dk), s11 = .int .i64 (i : Int) ∧ i + k = 200 ∧ Hid (PlI W db rb wr own' d' i))
    case atStart => exact ⟨0, _, _, rfl, by omega, HI3⟩
    case round =>
      obtain ⟨i, own', d', rfl, hi, HI⟩ := hrel
      by_cases hlt : i < n1
      · have hlt1 : (i : Int) < (n1 : Int) := by omega
        by_cases h200 : i < 200
        · have h201 : (i : Int) < 200 := by omega
          obtain ⟨x, hx⟩ : ∃ x, D[i]? = some x := ⟨_, List.getElem?_eq_getElem (by rw [← HN1.out]; exact hlt)⟩
          obtain ⟨b, off, m', rfl, hc, hd⟩ := HRD.out.get (Below.refl _ _) hx
          have hbl : b < W.heap.size := World.block_lt_of_cell? _ _ (hc 0 _ rfl)
          have HC : Hid (∀ w, Below W.heap.size W w → ∀ k v, (ddC x m')[k]? = some v → w.cell? ⟨b, off + i * 8 + k, none⟩ = some v) := Lib.hid fun w hb k v hv => (hb.cell (p := ⟨b, off + i * 8 + k, none⟩) hbl).trans (hc k v hv)
          have HD := Lib.hid hd
          have HXN : Hid (x.n ≤ 9223372036854775807) := Lib.hid hd.n0.2
          have KA := Lib.hid (asked_walk HI.out.r (by omega) x m' (hd.below HI.out.b) HI.out.b.size (fun k hk => by rw [HI.out.m k hk]; exact not_isD0 1))
          have hq := HC.out _ HI.out.b
          have HII := Lib.hid hi
          have h20 := Lib.hid h200
          unfold ddC at hq KA
          unfold ptrV at KA
          have q0 := hq 0 _ rfl
          have q1 := hq 1 _ rfl
          have q2 := hq 2 _ rfl
          have q3 := hq 3 _ rfl
          have q4 := hq 4 _ rfl
          have q5 := hq 5 _ rfl
          have q6 := hq 6 _ rfl
          have q7 := hq 7 _ rfl
          rw [Nat.add_zero] at q0
          clear hq hc hd hx hi hbl h200
          go_wp2_with fail
          refine KA.out.mono ?_
          intro e w8 hp
          obtain ⟨own8, hi8, rfl⟩ := HI.out.asked hp
          have HI8 := Lib.hid hi8
          have KD := Lib.hid (does_walk hi8.p (by have := h20.out; omega) x m' (HD.out.below hi8.b) hi8.b.size (fun k hk => by rw [hi8.m k hk]; exact not_isD0 0))
          have hq := HC.out _ hi8.b
          unfold ddC at hq KD
          unfold ptrV at KD
          clear hp hi8 KA q0 q1 q2 q3 q4 q5 q6 q7
          have q0 := hq 0 _ rfl
          have q1 := hq 1 _ rfl
          have q2 := hq 2 _ rfl
          have q3 := hq 3 _ rfl
          have q4 := hq 4 _ rfl
          have q5 := hq 5 _ rfl
          have q6 := hq 6 _ rfl
          have q7 := hq 7 _ rfl
          rw [Nat.add_zero] at q0
          clear hq
          go_wp2_with fail
          refine KD.out.mono ?_
          intro e w9 hp
          obtain ⟨own9, hi9, rfl⟩ := HI8.out.does HXN.out hp
          have HI9 := Lib.hid hi9
          have KL := Lib.hid (looks_walk hi9.p hi9.r (by have := h20.out; omega) hi9.h0 x.path HD.out.lp)
          have hq := HC.out _ hi9.b
          unfold ddC at hq
          unfold ptrV at KL
          clear hp hi9 KD q0 q1 q2 q3 q4 q5 q6 q7
          have q1 := hq 1 _ rfl
          clear hq
          generalize (doesM d' x).2 = cd at *
          go_wp2_with fail
          refine KL.out.mono ?_
          rintro e w10 ⟨rfl, hb10⟩
          have HI10 := Lib.hid (HI9.out.below hb10)
          clear hb10 KL q1
          go_wp2_with fail
          go_roundg (gk - 1)
          case rel => exact ⟨i + 1, own9, _, by go_num, by have := HII.out; have := h20.out; omega, HI10⟩
          case measure => have := HII.out; have := h20.out; omega
        · have h201 : ¬ (i : Int) < 200 := by omega
          go_wp2_with fail
          go_ret
          exact ⟨HI.out.b, rfl⟩
      · have hlt1 : ¬ (i : Int) < (n1 : Int) := by omega
        go_wp2_with fail
        go_ret
        exact ⟨HI.out.b, rfl⟩
end Go.Proofs.YtbpooaicmjkemaaGreatDoor

/-! The disks' laws ask nothing of the library's variables. No condition. -/
namespace Go.Proofs.YtbpooaicmjkemaaGreatDoor
open Go.RowKit
def TabsS (_ : World) : Prop := True
theorem tabsS_of {W : World} {laid : List (String × DataW Unit)} (_ : laidMet Tryz.prog laid W) : TabsS W := trivial
end Go.Proofs.YtbpooaicmjkemaaGreatDoor

/-! Opening an argument that is a row of strings: with the bound of its bytes. No condition. -/
namespace Go.Proofs.YtbpooaicmjkemaaGreatDoor
open Go.ChangeShapes Go.WideShapes Go.ChangeAt Go.RowKit Go.Deep
set_option linter.unusedVariables false
section
variable {H : Type} {enc : TypeId × Value → H} {P : Program}
theorem rsx_of {W : World} {A : Option Addr} {L : List ByteArray} (h : RS W W.heap.size A L) : RSx W A (L.map fun s => s.data.toList) := by
  rcases h with rfl | ⟨b, off, rfl, hb, hc⟩
  · exact .inl rfl
  · refine .inr ⟨b, off, rfl, hb, fun i l hl => ?_⟩
    rw [List.getElem?_map] at hl
    by_cases hi : i < L.length
    · rw [List.getElem?_eq_getElem hi] at hl
      obtain rfl : L[i].data.toList = l := by simpa using hl
      rw [hc i hi, st_getElem hi, bs_of]
    · rw [List.getElem?_eq_none (by omega)] at hl
      cases hl
theorem open_txs {W : World} {r : Reach} {base0 : Nat} {T e : TypeId} {v : Value} {d : DataW H} {p : List MemPlace} {ts : List TypeId} {ds : List (DataW H)} {j : Nat} (hT : P.underlying T = some (.slice e)) (he : P.underlying e = some .string) (hC : P.cellsOf e = 1) (hB : P.bytesOf e = 16)
    (hval : Value.okWide P W r base0 T v) (h : DataW.Trod enc P W 0 (fun _ => true) true T v d p) (hsz : (DataW.weightsEach P ts ds).all (· ≤ reachBytes) = true) (hts : ts[j]? = some T) (hds : ds[j]? = some d) :
    ∃ (A : Option Addr) (L : List Tx) (cp : Nat), v = .slice A L.length cp ∧ L.length ≤ cp ∧ cp * 16 ≤ 140737488351232 ∧ RSx W A L ∧ ∀ s ∈ L, s.length ≤ maxLen := by
  obtain ⟨a0, len0, cap0, rfl⟩ := okWide_slice hT hval
  obtain ⟨fuel, hf⟩ := h
  obtain ⟨A, L, cp, e1, hl, hm, hr, hs⟩ := open_strs hT he hC hf
  have hcp : cp * 16 ≤ 140737488351232 := by
    rcases open_slice hT hf with ⟨hcs, hx⟩ | ⟨a, len, cap, m, n', D, Pl, hcs, hb, hl, hm, hmm, hx, hi⟩
    · simp [Value.cells] at hcs
      obtain ⟨rfl, rfl, rfl⟩ := hcs
      injection e1 with _ _ e2
      omega
    · simp [Value.cells] at hcs
      obtain ⟨rfl, rfl, rfl⟩ := hcs
      simp only [if_true] at hmm
      subst hmm
      obtain rfl : d = _ := congrArg Prod.fst hx
      have hs := sized_slice hsz hts hds hT
      simp only [List.length_map, List.length_range] at hs
      unfold reachBytes at hs
      rw [hB] at hs
      injection e1 with _ _ e2
      omega
  refine ⟨A, L.map fun s => s.data.toList, cp, by rw [List.length_map]; exact e1, by rw [List.length_map]; exact hl, hcp, rsx_of hr, fun s hs2 => ?_⟩
  obtain ⟨x, hx, rfl⟩ := List.mem_map.1 hs2
  exact hs x hx
end
end Go.Proofs.YtbpooaicmjkemaaGreatDoor
