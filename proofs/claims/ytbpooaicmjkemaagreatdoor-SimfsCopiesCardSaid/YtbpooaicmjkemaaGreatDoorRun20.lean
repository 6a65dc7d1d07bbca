/-
  Several texts in one (merge.py): SfLw, SfLSn, SfLRd. Conditions: each part names its own.
-/
import Derived.Test.YtbpooaicmjkemaaGreatDoorSfShow
import Derived.Test.YtbpooaicmjkemaaGreatDoorSfAp
import Derived.Test.YtbpooaicmjkemaaGreatDoorRun19
import Derived.Test.YtbpooaicmjkemaaGreatDoorSfRWt
/-! Disks in the laws: what the laws' walks share. No condition. -/
namespace Go.Proofs.YtbpooaicmjkemaaGreatDoor
open Go.RowKit Go.Maps
set_option linter.unusedVariables false
theorem EntPost.below {z db : Nat} {w wb w' : World} {own : Nat → Nat × Nat} {d' : Dk} {e : Ending} (hb : Below w.heap.size w wb) (h : EntPost z wb (cutM w own) db d' e w') : EntPost z w own db d' e w' := by
  obtain ⟨own', h1, h2, h3⟩ := h
  exact ⟨own', h1, (Turn.of_below hb fun k hk => cutM_old hk).trans h2, h3⟩
theorem bs_neq {p q : Tx} (h : ¬ p = q) : ¬ (bs p).toList = (bs q).toList := bs_ne h
theorem does_dirs (d : Dk) (x : Dd) : (doesM d x).1.dirs = d.dirs := by
  obtain ⟨s1, -⟩ := step_same d
  have wr : ∀ (n : Nat) (v : Wr), (writeM d n v).1.dirs = d.dirs := fun n v => by
    unfold writeM
    split
    · exact s1
    · exact s1
  unfold doesM
  split
  · unfold createM
    repeat' split
    all_goals first | rfl | exact s1
  split
  · unfold appendM
    repeat' split
    all_goals first | rfl | exact wr _ _
  split
  · unfold writeAtM
    repeat' split
    all_goals first | rfl | exact wr _ _
  split
  · unfold syncM
    repeat' split
    all_goals first | rfl | exact s1
  split
  · unfold renameM
    repeat' split
    all_goals first | rfl | exact s1
  split
  · unfold unlinkM
    repeat' split
    all_goals first | rfl | exact s1
  split
  · unfold syncDirM
    repeat' split
    all_goals first | rfl | exact s1
  split
  · unfold failM
    repeat' split
    all_goals rfl
  split
  · unfold armM
    repeat' split
    all_goals rfl
  split <;> rfl
theorem LwI.mono {W w : World} {z db K K' : Nat} {own : Nat → Nat × Nat} {d : Dk} (h : LwI W z db w own d K) (hk : K ≤ K') : LwI W z db w own d K' := ⟨⟨h.dk.dk, h.dk.wf.mono hk, h.dk.sw.mono hk⟩, h.b, h.m⟩
/-- a deed of a row, in a later world -/
theorem RDs.get {w w' : World} {B : Nat} {A : Option Addr} {D : List Dd} (h : RDs w B A D) (hb : Below B w w') {i : Nat} {x : Dd} (hx : D[i]? = some x) : ∃ b off m, A = some ⟨b, off, none⟩ ∧ (∀ k v, (ddC x m)[k]? = some v → w'.cell? ⟨b, off + i * 8 + k, none⟩ = some v) ∧ DdR w' B x m := by
  rcases h with rfl | ⟨b, off, rfl, hlt, hc⟩
  · simp at hx
  · obtain ⟨m, h1, h2⟩ := hc i x hx
    exact ⟨b, off, m, rfl, fun k v hv => by rw [hb.cell (show b < B from hlt)]; exact h1 k v hv, h2.below hb⟩
theorem LwI.entG {W w w' : World} {z db K K' : Nat} {own : Nat → Nat × Nat} {d d' : Dk} (h : LwI W z db w own d K) {e : Ending} (hp : EntPost z w own db d' e w') (hw : Wf d' K') (hs : SwOk d' K') :
    ∃ own', LwI W z db w' own' d' K' ∧ e = .returned (.tuple #[]) := by
  obtain ⟨own', h1, h2, h3⟩ := hp
  exact ⟨own', h.turn h2 ⟨h1, hw, hs⟩, h3⟩
end Go.Proofs.YtbpooaicmjkemaaGreatDoor

/-! The walks of the laws' sameNames, reads. Conditions: the lengths. -/
namespace Go.Proofs.YtbpooaicmjkemaaGreatDoor
open Go.RowKit Go.Maps
set_option linter.unusedVariables false
theorem grown_trans {w w1 w2 : World} {g : Option Nat} (h : w.grownBy w1 g) (h2 : w1.grownBy w2 g) : w.grownBy w2 g :=
  ⟨h2.os.trans h.os, h2.tape.trans h.tape, h2.output.trans h.output, Nat.le_trans h.size h2.size, fun k hk hne => (h2.block k (Nat.lt_of_lt_of_le hk h.size) hne).trans (h.block k hk hne)⟩
theorem RSx.grown {w w' : World} {g : Option Nat} {A : Option Addr} {L : List Tx} (h : RSx w A L) (hg : w.grownBy w' g) (hne : ∀ b off, A = some ⟨b, off, none⟩ → L ≠ [] → g ≠ some b) : RSx w' A L := by
  by_cases hn : L = []
  · exact .inl hn
  · rcases h with h | ⟨b, off, rfl, hlt, hc⟩
    · exact absurd h hn
    · exact .inr ⟨b, off, rfl, Nat.lt_of_lt_of_le hlt hg.size, fun i l hl => (World.cell?_of_block (hg.block b hlt (fun e => hne b off rfl hn e.symm))).trans (hc i l hl)⟩
set_option maxRecDepth 100000 in
set_option maxHeartbeats 2000000 in
theorem same_walk (w : World) (g : Option Nat) (A : Option Addr) (n c : Nat) (Ab : Option Addr) (nb cb : Nat) (L : List Tx) (hX : OwnX 1 w g (.slice A n c) (L.map stV)) (hb : RSx w Ab L) (hnb : nb = L.length) (hne : ∀ b off, Ab = some ⟨b, off, none⟩ → L ≠ [] → g ≠ some b) :
    Calls Tryz.prog 62 #[.slice A n c, .slice Ab nb cb] w fun e w' => e = .returned (.bool true) ∧ w.grownBy w' g := by
  obtain ⟨hn, hc, hm, -⟩ := hX.rsx
  obtain rfl : nb = n := by omega
  have HX := Lib.hid hX
  have HB := Lib.hid hb
  have HNE := Lib.hid hne
  have HN := Lib.hid hnb
  have hn64 : (nb : Int) ≤ 9223372036854775807 := by unfold maxLen at hm; omega
  have HAT : Hid (∀ j, j < nb → ∃ g1 o1, A = some ⟨g1, o1, none⟩ ∧ g = some g1 ∧ g1 < w.heap.size ∧ ∀ i, i < nb → (∀ l, L[i]? = some l → w.cell? ⟨g1, o1 + i, none⟩ = some (.string (bs l))) ∧ w.frozen? ⟨g1, o1 + i, none⟩ = false) := Lib.hid fun j hj => by
    obtain ⟨g1, o1, e1, rfl, hl, hcl, hf⟩ := hX.at_ (by omega)
    refine ⟨g1, o1, rfl, e1, hl, fun i hi => ⟨fun l hl => ?_, (hf i (by omega)).2⟩⟩
    rw [hcl i (by rw [List.length_map]; omega), List.getElem?_map, hl]
    rfl
  clear hX hb hnb hne hn hc hm
  go_enter Tryz.func62, Tryz.ntmps62
  go_upto_region 4 with fail
  go_loopg [5] nb (fun k s5 wr => ∃ j : Nat, s5 = .int .i64 (j : Int) ∧ j + k = nb ∧ Hid (w.grownBy wr g) ∧ Hid (∀ g1 o1, A = some ⟨g1, o1, none⟩ → ∀ i l, j ≤ i → L[i]? = some l → wr.cell? ⟨g1, o1 + i, none⟩ = some (.string (bs l)) ∧ wr.frozen? ⟨g1, o1 + i, none⟩ = false))
  case atStart =>
    refine ⟨0, rfl, by omega, Lib.hid (World.grownBy.refl w _), Lib.hid fun g1 o1 e i l _ hl => ?_⟩
    have hi : i < nb := by rw [HN.out]; exact (List.getElem?_eq_some_iff.1 hl).1
    obtain ⟨g2, o2, e2, -, -, h⟩ := HAT.out i hi
    rw [e] at e2; cases e2
    exact ⟨(h i hi).1 l hl, (h i hi).2⟩
  case round =>
    obtain ⟨j, rfl, hj, HG, HC⟩ := hrel
    by_cases hlt : j < nb
    · have hlt1 : (j : Int) < (nb : Int) := by omega
      obtain ⟨l, hl⟩ : ∃ l, L[j]? = some l := ⟨_, List.getElem?_eq_getElem (by rw [← HN.out]; exact hlt)⟩
      obtain ⟨g1, o1, rfl, rfl, hg1, -⟩ := HAT.out j hlt
      obtain ⟨c0, f0⟩ := HC.out g1 o1 rfl j l (Nat.le_refl _) hl
      obtain ⟨b2, o2, rfl, d0⟩ : ∃ b2 o2, Ab = some ⟨b2, o2, none⟩ ∧ wr.cell? ⟨b2, o2 + j, none⟩ = some (.string (bs l)) := by
        rcases HB.out.grown HG.out HNE.out with h | ⟨b2, o2, h1, -, h3⟩
        · rw [h] at hl; cases hl
        · exact ⟨b2, o2, h1, h3 j l hl⟩
      have HJ := Lib.hid hj
      clear hl hj
      go_upto_region 6 with fail
      go_quiet (fail)
      have c1 : (wr.drewN nq).cell? ⟨g1, o1 + j, none⟩ = some (.string (bs l)) := c0
      have f1 : (wr.drewN nq).frozen? ⟨g1, o1 + j, none⟩ = false := f0
      have HG1 : Hid (w.grownBy (wr.drewN nq) (some g1)) := Lib.hid (by have h := HG.out; exact ⟨h.os, h.tape, h.output, h.size, h.block⟩)
      have HC1 : Hid (∀ g2 o3, (some ⟨g1, o1, none⟩ : Option Addr) = some ⟨g2, o3, none⟩ → ∀ i l, j ≤ i → L[i]? = some l → (wr.drewN nq).cell? ⟨g2, o3 + i, none⟩ = some (.string (bs l)) ∧ (wr.drewN nq).frozen? ⟨g2, o3 + i, none⟩ = false) := Lib.hid HC.out
      generalize wr.drewN nq = w2 at *
      clear c0 f0 d0 HG HC
      go_wp2_with fail
      go_roundg (gk - 1)
      case rel =>
        refine ⟨j + 1, by go_num, by have := HJ.out; omega, Lib.hid ?_, Lib.hid fun g2 o3 e i l hi hl => ?_⟩
        · have h := HG1.out
          exact ⟨h.os, h.tape, h.output, by simpa using h.size, fun k hk hne => (Below.heap_setCell w2 ⟨g1, o1 + j, none⟩ _ k (fun e => hne (by rw [e]))).trans (h.block k hk hne)⟩
        · cases e
          obtain ⟨h1, h2⟩ := HC1.out g1 o1 rfl i l (by omega) hl
          exact ⟨(World.cell?_setCell_other _ _ _ _ (by intro e2; injection e2 with e3 e4; omega)).trans h1, by rw [World.frozen?_setCell]; exact h2⟩
      case measure => have := HJ.out; omega
    · have hlt1 : ¬ (j : Int) < (nb : Int) := by omega
      go_wp2_with fail
      go_ret
      exact ⟨rfl, HG.out⟩
end Go.Proofs.YtbpooaicmjkemaaGreatDoor

/-! The walk of the laws' reads. Conditions: the lengths. -/
namespace Go.Proofs.YtbpooaicmjkemaaGreatDoor
open Go.RowKit Go.Maps
set_option linter.unusedVariables false
theorem OwnQ.x {w : World} {base : Nat} {g : Option Nat} {v : Value} {l : Tx} (h : OwnQ w base g v l) : OwnX 1 w g v (Lib.byteCells l) := by
  obtain ⟨A, c, rfl, h1, h2, h3⟩ := h
  refine ⟨A, l.length, c, rfl, by rw [byteCells_len, Nat.mul_one], h1, h2, ?_⟩
  rcases h3 with h3 | ⟨g', off, rfl, rfl, -, hl, hc, hf⟩
  · exact .inl h3
  · refine .inr ⟨g', off, rfl, rfl, hl, fun i hi => ?_, fun i hi => ?_⟩
    · rw [byteCells_len] at hi
      rw [hc i hi, bt_getElem hi]
      simp [Lib.byteCells, hi]
    · rw [Nat.mul_one] at hi
      have := hf i hi
      exact ⟨by first | exact this.1 | (rw [this.1]; rfl), this.2⟩
theorem DkI.same {z db K : Nat} {w w' : World} {own : Nat → Nat × Nat} {d : Dk} (h : DkI z w own db d K) (hb : Below w.heap.size w w') : DkI z w' own db d K := by
  obtain ⟨⟨q, hq⟩, h2, h3⟩ := h
  exact ⟨⟨q, hq.below hb⟩, h2, h3⟩
section
variable {z db K zr rb : Nat} {w : World} {own : Nat → Nat × Nat} {d : Dk}
theorem rread_op (h : RDkI z w own db d K) (hK : K ≤ 8000) (p : Tx) : Calls Tryz.prog 107 #[ptrV db, .string (bs p)] w fun e w' => Below w.heap.size w w' ∧ ∃ g v, e = .returned (.tuple #[v, .int .i64 (missM d p)]) ∧ OwnX 1 w' g v (Lib.byteCells (rdM d p)) ∧ (∀ k, g = some k → w.heap.size ≤ k) := by
  obtain ⟨q, hq⟩ := h.dk
  have h2 := h.wf.cpn
  have h3 := h.wf.nk
  refine rRead_walk hq h.wf.sn h.wf.iln (by omega) p ?_
  unfold rdM
  split
  · have := (h.wf.node (fileM d p)).ln; omega
  · simp
theorem rlen_op (h : RDkI z w own db d K) (hK : K ≤ 8000) (p : Tx) : Calls Tryz.prog 108 #[ptrV db, .string (bs p)] w fun e w' => e = .returned (.tuple #[.int .i64 (lenM d p : Int), .bool (missM d p == 0)]) ∧ Below w.heap.size w w' := by
  obtain ⟨q, hq⟩ := h.dk
  have h2 := h.wf.cpn
  have h3 := h.wf.nk
  exact rLen_walk hq h.wf.sn h.wf.iln (by omega) p
theorem bt_conv {w : World} {g : Option Nat} {A : Option Addr} {n c : Nat} {l : Tx} (h : OwnX 1 w g (.slice A n c) (Lib.byteCells l)) : n = l.length ∧ n ≤ c ∧ c ≤ maxLen ∧ RB w w.heap.size A l := by
  obtain ⟨h1, h2, h3⟩ := h.form
  rw [byteCells_len, Nat.mul_one] at h1
  refine ⟨h1.symm, h2, h3, ?_⟩
  rcases Nat.eq_zero_or_pos l.length with h0 | h0
  · exact .inl (List.eq_nil_of_length_eq_zero h0)
  · obtain ⟨g', off, -, rfl, hl, hc, -⟩ := h.at_ (by omega)
    refine .inr ⟨g', off, rfl, hl, fun i hi => ?_⟩
    rw [hc i (by rw [byteCells_len]; exact hi), bt_getElem hi]
    simp [Lib.byteCells, hi]
set_option maxRecDepth 100000 in
set_option maxHeartbeats 4000000 in
theorem reads_walk (hd : DkI z w own db d K) (hr : RDkI zr w own rb d K) (hK : K ≤ 8000) (p : Tx) (hp : p.length ≤ maxLen) :
    Calls Tryz.prog 71 #[ptrV db, ptrV rb, .string (bs p)] w fun e w' => e = .returned (.bool true) ∧ Below w.heap.size w w' := by
  have HD := Lib.hid hd
  have HR := Lib.hid hr
  have KR := Lib.hid (read_op hd p hp)
  have hln : (readM d p).length ≤ 67108864 := by
    unfold readM
    split
    · exact (hd.wf.node _).ln
    · simp
  have hrd : rdM d p = readM d p := rfl
  obtain ⟨l, hl⟩ : ∃ l, readM d p = l := ⟨_, rfl⟩
  have HLD : Hid (rdM d p = l) := Lib.hid (hrd.trans hl)
  rw [hl] at KR hln
  have HLN := Lib.hid hln
  have HP := Lib.hid hp
  unfold ptrV at KR ⊢
  clear hd hr hrd hl hp
  go_enter Tryz.func71, Tryz.ntmps71
  go_wp2_with fail
  refine KR.out.mono ?_
  rintro e w1 ⟨hb1, g, A, rfl, hQ⟩
  have HB1 := Lib.hid hb1
  have HX1 := Lib.hid hQ.x
  have HG : Hid (∀ k, g = some k → w.heap.size ≤ k) := Lib.hid fun k e => (hQ.base_ e).1
  clear hb1 hQ KR
  have K2 := Lib.hid (rread_op (HR.out.below HB1.out) hK p)
  rw [HLD.out] at K2
  unfold ptrV at K2
  go_wp2_with fail
  refine K2.out.mono ?_
  rintro e w2 ⟨hb2, g2, v2, rfl, hX2, -⟩
  obtain ⟨A2, n2, c2, rfl, -⟩ := hX2.sl
  obtain ⟨hn2, -, -, hrb2⟩ := bt_conv hX2
  have HN2 := Lib.hid hn2
  have HRB2 := Lib.hid hrb2
  have HB2 := Lib.hid (HB1.out.trans (hb2.mono HB1.out.size))
  have HX2 := Lib.hid (HX1.out.below hb2 fun k e => HX1.out.lt e)
  clear hX2 hn2 hrb2 K2 HX1
  have K3 := Lib.hid (len_op (HD.out.same HB2.out) p HP.out)
  unfold ptrV at K3
  go_wp2_with fail
  refine K3.out.mono ?_
  rintro e w3 ⟨rfl, rfl⟩
  have K4 := Lib.hid (rlen_op (HR.out.below HB2.out) hK p)
  unfold ptrV at K4
  clear K3
  go_wp2_with fail
  refine K4.out.mono ?_
  rintro e w4 ⟨rfl, hb4⟩
  have HB4 := Lib.hid (HB2.out.trans (hb4.mono HB2.out.size))
  have HX4 := Lib.hid (HX2.out.below hb4 fun k e => HX2.out.lt e)
  have cv1 := run_convRB (P := Tryz.prog) 35 9 5 Tryz.underlying35 Tryz.underlying5 Tryz.underlying9 (bt_conv HX4.out).2.2.2 l.length l.length rfl
  have cv2 := run_convRB (P := Tryz.prog) 35 9 5 Tryz.underlying35 Tryz.underlying5 Tryz.underlying9 (HRB2.out.below (hb4.mono (Nat.le_refl _))) n2 c2 HN2.out
  obtain ⟨n, hn⟩ : ∃ n, l.length = n := ⟨_, rfl⟩
  rw [hn] at HX4 cv1 hln
  clear hb4 K4 HX2 HRB2 HR HD
  generalize missM d p = E at *
  generalize (E == 0) = Eb at *
  generalize lenM d p = lm at *
  rw [hn]
  have HNL := Lib.hid hn
  clear hn
  go_upto_region 7 with fail
  clear cv1 cv2
  go_loopg [16] n (fun k s16 wr => ∃ (j : Nat) (xs : List Value), s16 = .int .i64 (j : Int) ∧ j + k = n ∧ Hid (OwnX 1 wr g (.slice A n n) xs) ∧ Hid (xs.length = n) ∧ Hid (Below w.heap.size w wr))
  case atStart => exact ⟨0, Lib.byteCells l, rfl, by omega, HX4, Lib.hid (by rw [byteCells_len]; exact HNL.out), HB4⟩
  case round =>
    obtain ⟨j, xs, rfl, hj, HX, HL, HB⟩ := hrel
    clear HX4 HB4
    by_cases hlt : j < n
    · have hlt1 : (j : Int) < (n : Int) := by omega
      obtain ⟨g1, o1, e1, rfl, hl, -, hf⟩ := HX.out.at_ (by omega)
      obtain ⟨c0, f0⟩ := hf j (by omega)
      obtain ⟨u0, c0⟩ := Option.isSome_iff_exists.1 c0
      have HXS := Lib.hid (HX.out.set_ (by omega) j (by rw [HL.out]; exact hlt) (.int .u8 77))
      have HG1 : Hid (w.heap.size ≤ g1) := Lib.hid (HG.out g1 e1)
      clear hf hl
      go_wp2_with fail
      go_roundg (gk - 1)
      case rel => exact ⟨j + 1, xs.set j (.int .u8 77), by go_num, by omega, HXS, Lib.hid (by rw [List.length_set]; exact HL.out), Lib.hid (HB.out.setCell HG1.out _)⟩
      case measure => omega
    · have hlt1 : ¬ (j : Int) < (n : Int) := by omega
      obtain rfl : j = n := by omega
      have hba := (Below.refl wr.heap.size wr).alloc (Nat.le_refl _) (.cells #[.int .u8 78] 5)
      have HA := Lib.hid (HX.out.below hba fun k e => HX.out.lt e)
      have HBA := Lib.hid (HB.out.trans (hba.mono HB.out.size))
      have hw1 : IntKind.i64.wrap (((j + 1 : Nat) : Int) - 1) = (j : Int) := by rw [IntWalk.i64_in _ (by omega)]; omega
      have hw2 : (j : Int) < ((j + 1 : Nat) : Int) := by omega
      clear hba hj
      go_wp2_with (at_builtin; refine wpList_appX _ uxB (.tmp 55) (.tmp 56) rfl rfl rfl HA.out (some ⟨wr.heap.size, 0, none⟩) 1 1 rfl [.int .u8 78] rfl (fun h => by cases h) (news_of wr 5 [.int .u8 78]) (fun u hu => by obtain rfl := List.mem_singleton.1 hu; rfl) (by have := HL.out; omega) ?_; intro v5 g5 w5 hX5 hG5 ho5; obtain ⟨A5, n5, c5, rfl, hx5, hn5, hm5⟩ := hX5.sl; have h55 : n5 = j + 1 := (by have := HL.out; rw [List.length_append] at hx5; simp only [List.length_cons, List.length_nil] at hx5; omega); subst h55; have HB5 := Lib.hid (belowX HBA.out hG5 HG.out HBA.out.size); obtain ⟨g6, o6, -, rfl, -, hc6, -⟩ := hX5.at_ (by omega); have z6 : w5.cell? ⟨g6, o6 + j, none⟩ = some (.int .u8 78) := (by rw [hc6 j (by have := HL.out; rw [List.length_append]; simp; omega), List.getElem?_append_right (by rw [HL.out]; exact Nat.le_refl _), HL.out, Nat.sub_self]; rfl); clear hX5 hG5 ho5 hx5 hn5 hm5 hc6)
      go_ret
      exact ⟨rfl, HB5.out⟩
end
end Go.Proofs.YtbpooaicmjkemaaGreatDoor
