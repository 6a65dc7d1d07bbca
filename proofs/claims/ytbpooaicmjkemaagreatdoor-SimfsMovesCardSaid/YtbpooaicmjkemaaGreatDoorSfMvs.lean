/-
  The walk of SimfsMoves. Conditions: the sizes.
-/
import Derived.Test.YtbpooaicmjkemaaGreatDoorSfShow
import Derived.Test.YtbpooaicmjkemaaGreatDoorSfMo
import Derived.Deep.CutBlock
import Derived.Deep.DeepCutAuto
namespace Go.Proofs.YtbpooaicmjkemaaGreatDoor
open Go.RowKit Go.Maps
set_option linter.unusedVariables false
def pam : Tx := [97, 47, 109]
def pbn : Tx := [98, 47, 110]
def apM (d : Dk) (x : Dd) : Dk := if x.kind < 7 ∧ ¬ (x.path = pam ∨ x.path = pbn) ∧ ¬ (x.tt = pam ∨ x.tt = pbn) then (doesM d x).1 else d
theorem EntPost.below {z db : Nat} {w wb w' : World} {own : Nat → Nat × Nat} {d' : Dk} {e : Ending} (hb : Below w.heap.size w wb) (h : EntPost z wb (cutM w own) db d' e w') : EntPost z w own db d' e w' := by
  obtain ⟨own', h1, h2, h3⟩ := h
  exact ⟨own', h1, (Turn.of_below hb fun k hk => cutM_old hk).trans h2, h3⟩
theorem bs_neq {p q : Tx} (h : ¬ p = q) : ¬ (bs p).toList = (bs q).toList := bs_ne h
set_option maxRecDepth 100000 in
set_option maxHeartbeats 2000000 in
theorem apart_walk {z db K B : Nat} {w : World} {own : Nat → Nat × Nat} {d : Dk} (h : DkI z w own db d K) (hK : K ≤ 8000) (x : Dd) (m : DdV) (hx : DdR w B x m) (hB : B ≤ w.heap.size) (hz : ∀ k, k < B → own k = (0, 0)) :
    Calls Tryz.prog 12 #[ptrV db, .agg (ddC x m).toArray] w (EntPost z w own db (apM d x)) := by
  have hb := (Below.refl w.heap.size w).alloc (Nat.le_refl _) (.cells (ddC x m).toArray 38)
  have HX := Lib.hid (Blk.new w 38 (ddC x m).toArray)
  have HB := Lib.hid hb
  have KD := Lib.hid (does_walk (h.below hb) hK x m (hx.below (hb.mono hB)) (Nat.le_trans hB hb.size) (fun k hk => by rw [cutM_old (Nat.lt_of_lt_of_le hk hB), hz k hk]; exact not_isD0 z))
  have HD : Hid (Disk z (w.alloc (.cells (ddC x m).toArray 38)) (cutM w own) db d) := Lib.hid (h.below hb).dk
  have no : ¬ (x.kind < 7 ∧ ¬ (x.path = pam ∨ x.path = pbn) ∧ ¬ (x.tt = pam ∨ x.tt = pbn)) → Hid (EntPost z w own db (apM d x) (.returned (.tuple #[])) (w.alloc (.cells (ddC x m).toArray 38))) := fun hn => Lib.hid (by
    unfold apM
    rw [if_neg hn]
    exact EntPost.below hb ⟨_, (h.below hb).dk, Turn.refl _ _ _, rfl⟩)
  have yes : (x.kind < 7 ∧ ¬ (x.path = pam ∨ x.path = pbn) ∧ ¬ (x.tt = pam ∨ x.tt = pbn)) → Hid (apM d x = (doesM d x).1) := fun hn => Lib.hid (by unfold apM; rw [if_pos hn])
  obtain ⟨kind, path, tt, b, n, e, kc, kw⟩ := x
  obtain ⟨A, c, Ac, cc, Aw, cw⟩ := m
  unfold ddC at *
  simp only [] at *
  have x0 := HX.out.cell 0
  have x1 := HX.out.cell 1
  have x2 := HX.out.cell 2
  have x3 := HX.out.cell 3
  have x4 := HX.out.cell 4
  have x5 := HX.out.cell 5
  have x6 := HX.out.cell 6
  have x7 := HX.out.cell 7
  unfold ptrV at *
  clear h hx hb hz
  by_cases c0 : kind < 7
  · by_cases c1 : path = pam
    · have HNO := no (fun hh => hh.2.1 (.inl c1))
      have q1 : bs path = ⟨#[97, 47, 109]⟩ := by rw [c1]; rfl
      clear no yes c1 KD
      go_enter Tryz.func12, Tryz.ntmps12
      go_wp2_with fail
      refine bodyPost_ret (res0 rfl _ _ _) rfl ?_
      have hh := HNO.out
      rw [q1] at hh
      exact hh
    have q1 : ¬ (bs path).toList = [97, 47, 109] := by rw [bs_nil]; exact c1
    have q1b : ((bs path).toList == [97, 47, 109]) = false := beq_eq_false_iff_ne.2 q1
    by_cases c2 : tt = pam
    · have HNO := no (fun hh => hh.2.2 (.inl c2))
      have q2 : bs tt = ⟨#[97, 47, 109]⟩ := by rw [c2]; rfl
      clear no yes c1 c2 KD
      go_enter Tryz.func12, Tryz.ntmps12
      go_wp2_with fail
      refine bodyPost_ret (res0 rfl _ _ _) rfl ?_
      have hh := HNO.out
      rw [q2] at hh
      exact hh
    have q2 : ¬ (bs tt).toList = [97, 47, 109] := by rw [bs_nil]; exact c2
    have q2b : ((bs tt).toList == [97, 47, 109]) = false := beq_eq_false_iff_ne.2 q2
    by_cases c3 : path = pbn
    · have HNO := no (fun hh => hh.2.1 (.inr c3))
      have q3 : bs path = ⟨#[98, 47, 110]⟩ := by rw [c3]; rfl
      clear no yes c1 c2 c3 KD
      go_enter Tryz.func12, Tryz.ntmps12
      go_wp2_with fail
      refine bodyPost_ret (res0 rfl _ _ _) rfl ?_
      have hh := HNO.out
      rw [q3] at hh
      exact hh
    have q3 : ¬ (bs path).toList = [98, 47, 110] := by rw [bs_nil]; exact c3
    have q3b : ((bs path).toList == [98, 47, 110]) = false := beq_eq_false_iff_ne.2 q3
    by_cases c4 : tt = pbn
    · have HNO := no (fun hh => hh.2.2 (.inr c4))
      have q4 : bs tt = ⟨#[98, 47, 110]⟩ := by rw [c4]; rfl
      clear no yes c1 c2 c3 c4 KD
      go_enter Tryz.func12, Tryz.ntmps12
      go_wp2_with fail
      refine bodyPost_ret (res0 rfl _ _ _) rfl ?_
      have hh := HNO.out
      rw [q4] at hh
      exact hh
    have q4 : ¬ (bs tt).toList = [98, 47, 110] := by rw [bs_nil]; exact c4
    have q4b : ((bs tt).toList == [98, 47, 110]) = false := beq_eq_false_iff_ne.2 q4
    have HY := yes ⟨c0, fun h => h.elim c1 c3, fun h => h.elim c2 c4⟩
    clear no yes c1 c2 c3 c4
    go_enter Tryz.func12, Tryz.ntmps12
    go_wp2_with fail
    refine KD.out.mono ?_
    rintro e' w2 hp
    have HP := Lib.hid hp
    obtain ⟨-, -, rfl, -⟩ := hp
    generalize hg : doesM d ⟨kind, path, tt, b, n, e, kc, kw⟩ = rr at *
    go_wp2_with fail
    refine bodyPost_ret (res0 rfl _ _ _) rfl ?_
    obtain ⟨own2, h1, -, h2⟩ := HP.out
    rw [HY.out]
    exact EntPost.below HB.out ⟨own2, h1, h2, rfl⟩
  · have HNO := no (fun hh => c0 hh.1)
    clear no yes KD
    go_enter Tryz.func12, Tryz.ntmps12
    go_wp2_with fail
    refine bodyPost_ret (res0 rfl _ _ _) rfl ?_
    exact HNO.out
/-! ### the first deeds -/
def mv1 : Dk := (createM (ini 100000) pam).1
def mv2 : Dk := (appendM mv1 pam [109]).1
def mv3 : Dk := (syncM mv2 pam).1
def mv4 : Dk := (syncDirM mv3 [97]).1
theorem mv_1 : createM (ini 100000) pam = (mv1, 0) := by kernel_rfl
theorem mv_2 : appendM mv1 pam [109] = (mv2, 0) := by kernel_rfl
theorem mv_3 : syncM mv2 pam = (mv3, 0) := by kernel_rfl
theorem mv_4 : syncDirM mv3 [97] = (mv4, 0) := by kernel_rfl
theorem mv_0 : Mo0 pam pbn mv4 := ⟨⟨by kernel_rfl, by kernel_rfl, by kernel_rfl⟩, by rw [show getE mv4.now pam = some 0 by kernel_rfl]; simp, by kernel_rfl, by rw [show getE mv4.lasts pam = some 0 by kernel_rfl]; simp, by kernel_rfl, by kernel_rfl⟩
theorem mv_d : mv4.dirs = [[97], [98]] := by kernel_rfl
theorem does_dirs (d : Dk) (x : Dd) : (doesM d x).1.dirs = d.dirs := by
  obtain ⟨s1, -⟩ := step_same d
  have wr : ∀ (n : Nat) (v : Wr), (writeM d n v).1.dirs = d.dirs := fun n v => by
    unfold writeM
    split
    · exact s1
    · exact s1
  unfold doesM
  split
  · unfold createM
    repeat' split
    all_goals first | rfl | exact s1
  split
  · unfold appendM
    repeat' split
    all_goals first | rfl | exact wr _ _
  split
  · unfold writeAtM
    repeat' split
    all_goals first | rfl | exact wr _ _
  split
  · unfold syncM
    repeat' split
    all_goals first | rfl | exact s1
  split
  · unfold renameM
    repeat' split
    all_goals first | rfl | exact s1
  split
  · unfold unlinkM
    repeat' split
    all_goals first | rfl | exact s1
  split
  · unfold syncDirM
    repeat' split
    all_goals first | rfl | exact s1
  split
  · unfold failM
    repeat' split
    all_goals rfl
  split
  · unfold armM
    repeat' split
    all_goals rfl
  split <;> rfl
theorem apM_dirs {d : Dk} (x : Dd) : (apM d x).dirs = d.dirs := by
  unfold apM
  split
  · exact does_dirs d x
  · rfl
theorem pam_ne : pam ≠ [] ∧ pbn ≠ [] ∧ pam ≠ pbn := by unfold pam pbn; decide
theorem ap_wf {d : Dk} {K : Nat} (h : Wf d K) (x : Dd) : Wf (apM d x) (K + 1) := by
  unfold apM
  split
  · exact h.does x
  · exact h.mono (Nat.le_succ _)
theorem ap_r {d : Dk} {K : Nat} (h : Wf d K) (hc : Calm d) (x : Dd) : ApR (fun r => r = pam ∨ r = pbn) d (apM d x) := by
  unfold apM
  split
  · rename_i hh
    exact apart_does (fun p hp => by rcases hp with rfl | rfl; exact pam_ne.1; exact pam_ne.2.1) h hc hh.1 hh.2.1 hh.2.2
  · exact .same hc rfl rfl rfl rfl
theorem LwI.mono {W w : World} {z db K K' : Nat} {own : Nat → Nat × Nat} {d : Dk} (h : LwI W z db w own d K) (hk : K ≤ K') : LwI W z db w own d K' := ⟨⟨h.dk.dk, h.dk.wf.mono hk, h.dk.sw.mono hk⟩, h.b, h.m⟩
theorem LwI.ap {W w w' : World} {z db K : Nat} {own : Nat → Nat × Nat} {d : Dk} (h : LwI W z db w own d K) (x : Dd) (hx : x.n ≤ 9223372036854775807) {e : Ending} (hp : EntPost z w own db (apM d x) e w') :
    ∃ own', LwI W z db w' own' (apM d x) (K + 1) ∧ e = .returned (.tuple #[]) := by
  obtain ⟨own', h1, h2, h3⟩ := hp
  refine ⟨own', h.turn h2 ⟨h1, ap_wf h.dk.wf x, ?_⟩, h3⟩
  unfold apM
  split
  · exact h.dk.sw.does hx
  · exact h.dk.sw.mono (Nat.le_succ _)
/-- a deed of a row, in a later world -/
theorem RDs.get {w w' : World} {B : Nat} {A : Option Addr} {D : List Dd} (h : RDs w B A D) (hb : Below B w w') {i : Nat} {x : Dd} (hx : D[i]? = some x) : ∃ b off m, A = some ⟨b, off, none⟩ ∧ (∀ k v, (ddC x m)[k]? = some v → w'.cell? ⟨b, off + i * 8 + k, none⟩ = some v) ∧ DdR w' B x m := by
  rcases h with rfl | ⟨b, off, rfl, hlt, hc⟩
  · simp at hx
  · obtain ⟨m, h1, h2⟩ := hc i x hx
    exact ⟨b, off, m, rfl, fun k v hv => by rw [hb.cell (show b < B from hlt)]; exact h1 k v hv, h2.below hb⟩
set_option maxRecDepth 100000 in
set_option maxHeartbeats 4000000 in
theorem moves_walk (W : World) (A0 A1 : Option Addr) (D0 D1 : List Dd) (n0 c0 n1 c1 : Nat) (hn0 : n0 = D0.length) (hn1 : n1 = D1.length) (hc0 : n0 ≤ 140737488351232) (hc1 : n1 ≤ 140737488351232) (h0 : RDs W W.heap.size A0 D0) (h1 : RDs W W.heap.size A1 D1) (m : DdV) (kc : List Bool) (kw : List Int) (hk : KeepR W W.heap.size kc kw m) :
    Calls Tryz.prog 3 #[.slice A0 n0 c0, .slice A1 n1 c1, .agg #[.slice m.Ac kc.length m.cc, .slice m.Aw kw.length m.cw]] W fun e W' => Below W.heap.size W W' ∧ e = .returned (.bool true) := by
  obtain ⟨mA, mc, Ac, cc, Aw, cw⟩ := m
  show Calls _ _ #[.slice A0 n0 c0, .slice A1 n1 c1, .agg #[.slice Ac kc.length cc, .slice Aw kw.length cw]] W _
  have hbx := (Below.refl W.heap.size W).alloc (Nat.le_refl _) (.cells #[.slice Ac kc.length cc, .slice Aw kw.length cw] 26)
  have HBX := Lib.hid hbx
  have HK0 := Lib.hid (Blk.new W 26 #[.slice Ac kc.length cc, .slice Aw kw.length cw])
  have HKR := Lib.hid (hk.below hbx)
  have HR0 := Lib.hid (h0.below hbx)
  have HR1 := Lib.hid (h1.below hbx)
  have HN0 := Lib.hid hn0
  have HN1 := Lib.hid hn1
  have HSZ : Hid (W.heap.size ≤ (W.alloc (.cells #[.slice Ac kc.length cc, .slice Aw kw.length cw] 26)).heap.size ∧ W.heap.size < (W.alloc (.cells #[.slice Ac kc.length cc, .slice Aw kw.length cw] 26)).heap.size) := Lib.hid (by simp)
  clear hbx hk h0 h1 hn0 hn1
  go_enter Tryz.func3, Tryz.ntmps3
  go_upto_region 1 with fail
  generalize hW1 : W.alloc (.cells #[.slice Ac kc.length cc, .slice Aw kw.length cw] 26) = W1 at *
  clear hW1
  have KSh := Lib.hid (shown_walk W1)
  go_wp2_with fail
  refine KSh.out.mono ?_
  rintro e w2 ⟨hb2, rfl⟩
  have HB2 : Hid (Below W1.heap.size W1 (w2.alloc (.cells #[.string ⟨#[97]⟩, .string ⟨#[98]⟩] 9))) := Lib.hid (hb2.alloc hb2.size _)
  have KN : Hid (Calls Tryz.prog 7 #[.int .i64 100000, .slice (some ⟨w2.heap.size, 0, none⟩) 2 2] (w2.alloc (.cells #[.string ⟨#[97]⟩, .string ⟨#[98]⟩] 9)) (NewPost 0 (w2.alloc (.cells #[.string ⟨#[97]⟩, .string ⟨#[98]⟩] 9)) (fun _ => (0, 0)) (initM 100000 [[97], [98]]))) := Lib.hid (new_walk 0 _ _ 100000 (some ⟨w2.heap.size, 0, none⟩) 2 2 [[97], [98]] rfl (rsx2 w2 [97] [98]) (by unfold maxLen; omega) (by omega) (fun p hp => by
    have : p.length = 1 := by
      rcases List.mem_cons.1 hp with rfl | hp
      · rfl
      · obtain rfl := List.mem_singleton.1 hp; rfl
    rw [this]; unfold maxLen; omega))
  clear hb2 KSh
  go_wp2_with fail
  refine KN.out.mono ?_
  intro e w3 hp
  obtain ⟨db, own3, hi, rfl⟩ := LwI.start (W := W1) HB2.out init_ab hp
  have HI3 := Lib.hid hi
  clear hp hi KN HB2
  unfold ptrV
  have hpx : pam.length ≤ maxLen := by unfold maxLen pam; simp
  have HPX := Lib.hid hpx
  have hpy : pbn.length ≤ maxLen := by unfold maxLen pbn; simp
  have HPY := Lib.hid hpy
  clear hpx hpy
  have K3 : Hid (Calls Tryz.prog 8 #[.pointer (some ⟨db, 0, none⟩), .string ⟨#[97, 47, 109]⟩] w3 (OpPost 0 w3 own3 db (createM (ini 100000) pam))) := Lib.hid (create_op HI3.out.dk (by omega) pam HPX.out)
  go_wp2_with fail
  refine K3.out.mono ?_
  intro e w4 hp
  obtain ⟨own4, hi, -, rfl⟩ := HI3.out.op ⟨0, pam, [], [], 0, 0, [], []⟩ (by decide) mv_1 hp
  have HI4 := Lib.hid hi
  clear hp hi K3
  have HN4 := Lib.hid (RB.mark w4 5 #[.int .u8 109] (1, 2) [109] rfl)
  have HA4 := Lib.hid ((Below.refl w4.heap.size w4).alloc (Nat.le_refl _) (.cells #[.int .u8 109] 5 (1, 2)))
  have hcv4 := Lib.run_convert_bytes_const (P := Tryz.prog) w4 35 5 #[.int .u8 109] 1 1 Tryz.underlying35 Tryz.underlying5
  have HJ4 := Lib.hid (HI4.out.below HA4.out)
  have K4 : Hid (Calls Tryz.prog 9 #[.pointer (some ⟨db, 0, none⟩), .string ⟨#[97, 47, 109]⟩, .slice (some ⟨w4.heap.size, 0, none⟩) 1 1] (w4.alloc (.cells #[.int .u8 109] 5 (1, 2))) (OpPost 0 (w4.alloc (.cells #[.int .u8 109] 5 (1, 2))) (cutM w4 own4) db (appendM mv1 pam [109]))) := Lib.hid (append_op HJ4.out.dk (by omega) pam HPX.out [109] _ 1 1 rfl HN4.out (fun h => by cases h) (by omega) (by unfold maxLen; omega))
  go_wp2_with fail
  refine K4.out.mono ?_
  intro e w5 hp
  obtain ⟨own5, hi, -, rfl⟩ := HJ4.out.op ⟨1, pam, [], [109], 0, 0, [], []⟩ (by decide) mv_2 hp
  have HI5 := Lib.hid hi
  clear hp hi K4 hcv4
  have K5 : Hid (Calls Tryz.prog 10 #[.pointer (some ⟨db, 0, none⟩), .string ⟨#[97, 47, 109]⟩] w5 (OpPost 0 w5 own5 db (syncM mv2 pam))) := Lib.hid (sync_op HI5.out.dk (by omega) pam HPX.out)
  go_wp2_with fail
  refine K5.out.mono ?_
  intro e w6 hp
  obtain ⟨own6, hi, -, rfl⟩ := HI5.out.op ⟨3, pam, [], [], 0, 0, [], []⟩ (by decide) mv_3 hp
  have HI6 := Lib.hid hi
  clear hp hi K5
  have K6 : Hid (Calls Tryz.prog 11 #[.pointer (some ⟨db, 0, none⟩), .string ⟨#[97]⟩] w6 (OpPost 0 w6 own6 db (syncDirM mv3 [97]))) := Lib.hid (syncDir_op HI6.out.dk (by omega) [97] (by unfold maxLen; simp))
  go_wp2_with fail
  refine K6.out.mono ?_
  intro e w7 hp
  obtain ⟨own7, hi, -, rfl⟩ := HI6.out.op ⟨6, [], [97], [], 0, 0, [], []⟩ (by decide) mv_4 hp
  have HI7 : Hid (LwI W1 0 db w7 own7 mv4 4) := Lib.hid hi
  clear hp hi K6 HI3 HI4 HJ4 HI5 HI6 HN4 HA4
  go_upto_region 11 with fail
  go_upto_block 0 with fail
  go_cut [14] from 61 to 76 (fun sx wx => ∃ (own' : Nat → Nat × Nat) (d' : Dk), Hid (LwI W1 0 db wx own' d' 34) ∧ Hid (Mo0 pam pbn d') ∧ Hid (d'.dirs = [[97], [98]]))
  case first =>
    go_wp2_with fail
    go_loopg [14] 30 (fun k sx wr => ∃ (i : Nat) (own' : Nat → Nat × Nat) (d' : Dk), sx = .int .i64 (i : Int) ∧ i + k = 30 ∧ Hid (LwI W1 0 db wr own' d' (4 + i)) ∧ Hid (Mo0 pam pbn d') ∧ Hid (d'.dirs = [[97], [98]]))
    case atStart => exact ⟨0, _, _, rfl, by omega, HI7, Lib.hid mv_0, Lib.hid mv_d⟩
    case round =>
      obtain ⟨i, own', d', rfl, hi, HI, HM, HDD⟩ := hrel
      by_cases hlt : i < n0
      · have hlt1 : (i : Int) < (n0 : Int) := by omega
        by_cases h30 : i < 30
        · have h301 : (i : Int) < 30 := by omega
          obtain ⟨x, hx⟩ : ∃ x, D0[i]? = some x := ⟨_, List.getElem?_eq_getElem (by rw [← HN0.out]; exact hlt)⟩
          obtain ⟨b, off, m', rfl, hc, hd⟩ := HR0.out.get (HI.out.b.mono HSZ.out.1) hx
          have HXN : Hid (x.n ≤ 9223372036854775807) := Lib.hid hd.n0.2
          have KA := Lib.hid (apart_walk HI.out.dk (by omega) x m' hd (Nat.le_trans HSZ.out.1 HI.out.b.size) (fun k hk => HI.out.m k (Nat.lt_of_lt_of_le hk HSZ.out.1)))
          unfold ddC at hc KA
          unfold ptrV at KA
          have q0 := hc 0 _ rfl
          have q1 := hc 1 _ rfl
          have q2 := hc 2 _ rfl
          have q3 := hc 3 _ rfl
          have q4 := hc 4 _ rfl
          have q5 := hc 5 _ rfl
          have q6 := hc 6 _ rfl
          have q7 := hc 7 _ rfl
          rw [Nat.add_zero] at q0
          have HII := Lib.hid hi
          clear hc hd hx hi
          go_wp2_with fail
          refine KA.out.mono ?_
          intro e w8 hp
          obtain ⟨own8, hi8, rfl⟩ := HI.out.ap x HXN.out hp
          have HI8 := Lib.hid hi8
          clear hp hi8 KA q0 q1 q2 q3 q4 q5 q6 q7
          go_wp2_with fail
          go_roundg (gk - 1)
          case rel => exact ⟨i + 1, own8, apM d' x, by go_num, by have := HII.out; omega, HI8, Lib.hid (HM.out.apart pam_ne.1 pam_ne.2.1 HI.out.dk.wf (ap_r HI.out.dk.wf HM.out.calm x)), Lib.hid ((apM_dirs x).trans HDD.out)⟩
          case measure => have := HII.out; omega
        · have h301 : ¬ (i : Int) < 30 := by omega
          have HIX : Hid (LwI W1 0 db wr own' d' 34) := Lib.hid (HI.out.mono (by omega))
          clear hi HI
          go_wp2_with fail
          go_meet
          case rel => exact ⟨own', d', HIX, HM, HDD⟩
      · have hlt1 : ¬ (i : Int) < (n0 : Int) := by omega
        have HIX : Hid (LwI W1 0 db wr own' d' 34) := Lib.hid (HI.out.mono (by omega))
        clear hi HI
        go_wp2_with fail
        go_meet
        case rel => exact ⟨own', d', HIX, HM, HDD⟩
  case rest =>
    obtain ⟨own8, d8, HI8, HM8, HD8⟩ := hcut
    clear HI7
    have hmv := HM8.out.move HI8.out.dk.wf (by rw [HD8.out]; decide) pam_ne.2.2
    have HMV := Lib.hid hmv
    have K8 : Hid (Calls Tryz.prog 13 #[.pointer (some ⟨db, 0, none⟩), .string ⟨#[97, 47, 109]⟩, .string ⟨#[98, 47, 110]⟩] wc (OpPost 0 wc own8 db (renameM d8 pam pbn))) := Lib.hid (rename_op HI8.out.dk (by omega) pam pbn HPX.out HPY.out)
    clear hmv
    go_wp2_with fail
    refine K8.out.mono ?_
    intro e w9 hp
    obtain ⟨own9, hi, -, rfl⟩ := HI8.out.op (d' := (renameM d8 pam pbn).1) (c := 0) ⟨4, pam, pbn, [], 0, 0, [], []⟩ (by decide) (show renameM d8 pam pbn = ((renameM d8 pam pbn).1, 0) from Prod.ext rfl HMV.out.1) hp
    have HI9 : Hid (LwI W1 0 db w9 own9 (renameM d8 pam pbn).1 (35 + 0)) := Lib.hid hi
    have HM9 := Lib.hid HMV.out.2
    have HD9 : Hid ((renameM d8 pam pbn).1.dirs = [[97], [98]]) := Lib.hid ((does_dirs d8 ⟨4, pam, pbn, [], 0, 0, [], []⟩).trans HD8.out)
    clear hp hi K8 HMV
    generalize (renameM d8 pam pbn).1 = d9 at *
    go_upto_region 16 with fail
    go_upto_block 2 with fail
    go_cut [16] from 79 to 94 (fun sx wx => ∃ (own' : Nat → Nat × Nat) (d' : Dk), Hid (LwI W1 0 db wx own' d' 65) ∧ Hid (Mo1 pam pbn d') ∧ Hid (d'.dirs = [[97], [98]]))
    case first =>
      go_wp2_with fail
      go_loopg [16] 30 (fun k sx wr => ∃ (i : Nat) (own' : Nat → Nat × Nat) (d' : Dk), sx = .int .i64 (i : Int) ∧ i + k = 30 ∧ Hid (LwI W1 0 db wr own' d' (35 + i)) ∧ Hid (Mo1 pam pbn d') ∧ Hid (d'.dirs = [[97], [98]]))
      case atStart => exact ⟨0, _, _, rfl, by omega, HI9, HM9, HD9⟩
      case round =>
        obtain ⟨i, own', d', rfl, hi, HI, HM, HDD⟩ := hrel
        by_cases hlt : i < n1
        · have hlt1 : (i : Int) < (n1 : Int) := by omega
          by_cases h30 : i < 30
          · have h301 : (i : Int) < 30 := by omega
            obtain ⟨x, hx⟩ : ∃ x, D1[i]? = some x := ⟨_, List.getElem?_eq_getElem (by rw [← HN1.out]; exact hlt)⟩
            obtain ⟨b, off, m', rfl, hc, hd⟩ := HR1.out.get (HI.out.b.mono HSZ.out.1) hx
            have HXN : Hid (x.n ≤ 9223372036854775807) := Lib.hid hd.n0.2
            have KA := Lib.hid (apart_walk HI.out.dk (by omega) x m' hd (Nat.le_trans HSZ.out.1 HI.out.b.size) (fun k hk => HI.out.m k (Nat.lt_of_lt_of_le hk HSZ.out.1)))
            unfold ddC at hc KA
            unfold ptrV at KA
            have q0 := hc 0 _ rfl
            have q1 := hc 1 _ rfl
            have q2 := hc 2 _ rfl
            have q3 := hc 3 _ rfl
            have q4 := hc 4 _ rfl
            have q5 := hc 5 _ rfl
            have q6 := hc 6 _ rfl
            have q7 := hc 7 _ rfl
            rw [Nat.add_zero] at q0
            have HII := Lib.hid hi
            clear hc hd hx hi
            go_wp2_with fail
            refine KA.out.mono ?_
            intro e w8 hp
            obtain ⟨own8, hi8, rfl⟩ := HI.out.ap x HXN.out hp
            have HI8 := Lib.hid hi8
            clear hp hi8 KA q0 q1 q2 q3 q4 q5 q6 q7
            go_wp2_with fail
            go_roundg (gk - 1)
            case rel => exact ⟨i + 1, own8, apM d' x, by go_num, by have := HII.out; omega, HI8, Lib.hid (HM.out.apart pam_ne.1 pam_ne.2.1 pam_ne.2.2 HI.out.dk.wf (ap_r HI.out.dk.wf HM.out.calm x)), Lib.hid ((apM_dirs x).trans HDD.out)⟩
            case measure => have := HII.out; omega
          · have h301 : ¬ (i : Int) < 30 := by omega
            have HIX : Hid (LwI W1 0 db wr own' d' 65) := Lib.hid (HI.out.mono (by omega))
            clear hi HI
            go_wp2_with fail
            go_meet
            case rel => exact ⟨own', d', HIX, HM, HDD⟩
        · have hlt1 : ¬ (i : Int) < (n1 : Int) := by omega
          have HIX : Hid (LwI W1 0 db wr own' d' 65) := Lib.hid (HI.out.mono (by omega))
          clear hi HI
          go_wp2_with fail
          go_meet
          case rel => exact ⟨own', d', HIX, HM, HDD⟩
    case rest =>
      obtain ⟨own10, d10, HI10, HM10, HD10⟩ := hcut
      have hB := HK0.out.below HI10.out.b HSZ.out.2
      have x0 := hB.cell 0
      have x1 := hB.cell 1
      have hbk := HI10.out.b.mono HSZ.out.1
      have hzk : ∀ k, k < W.heap.size → ¬ isD 0 (own10 k) := fun k hk => by rw [HI10.out.m k (Nat.lt_of_lt_of_le hk HSZ.out.1)]; exact not_isD0 0
      have KC : Hid (Calls Tryz.prog 14 #[.pointer (some ⟨db, 0, none⟩), .agg #[.slice Ac kc.length cc, .slice Aw kw.length cw]] wc (EntPost 0 wc own10 db (crashM d10 kc kw))) := Lib.hid (crash_walk HI10.out.dk.dk HI10.out.dk.wf (by omega) kc kw Ac Aw cc cw ⟨HKR.out.lc, HKR.out.mc⟩ ⟨HKR.out.lw, HKR.out.mw⟩ (RT.rco (w0 := W) (HKR.out.rc.below hbk) (Nat.le_trans HSZ.out.1 HI10.out.b.size) hzk) (RI.rco (HKR.out.rw_.below hbk) (Nat.le_trans HSZ.out.1 HI10.out.b.size) hzk) HKR.out.zw)
      clear hB hbk hzk
      go_wp2_with fail
      refine KC.out.mono ?_
      intro e w11 hp
      obtain ⟨own11, hi, -, rfl⟩ := HI10.out.ent kc kw hp
      have HI11 := Lib.hid hi
      have HF := Lib.hid (HM10.out.crash pam_ne.1 pam_ne.2.1 pam_ne.2.2 HI10.out.dk.wf kc kw)
      have KL1 : Hid (Calls Tryz.prog 15 #[.pointer (some ⟨db, 0, none⟩), .string ⟨#[97, 47, 109]⟩] w11 fun e w' => e = .returned (.tuple #[.int .i64 (lenM (crashM d10 kc kw) pam : Int), .bool (missM (crashM d10 kc kw) pam == 0)]) ∧ w' = w11) := Lib.hid (len_op HI11.out.dk pam HPX.out)
      have KL2 : Hid (Calls Tryz.prog 15 #[.pointer (some ⟨db, 0, none⟩), .string ⟨#[98, 47, 110]⟩] w11 fun e w' => e = .returned (.tuple #[.int .i64 (lenM (crashM d10 kc kw) pbn : Int), .bool (missM (crashM d10 kc kw) pbn == 0)]) ∧ w' = w11) := Lib.hid (len_op HI11.out.dk pbn HPY.out)
      have HBF : Hid (Below W.heap.size W w11) := Lib.hid (HBX.out.trans (HI11.out.b.mono HBX.out.size))
      clear hp hi KC x0 x1 HI10 HM10 HI11
      generalize (missM (crashM d10 kc kw) pam == 0) = b1 at *
      generalize (missM (crashM d10 kc kw) pbn == 0) = b2 at *
      go_wp2_with fail
      refine KL1.out.mono ?_
      rintro e w12 ⟨rfl, rfl⟩
      go_wp2_with fail
      refine KL2.out.mono ?_
      rintro e w13 ⟨rfl, rfl⟩
      have hne : b1 ≠ b2 := HF.out
      cases b1 <;> cases b2
      · exact absurd rfl hne
      · go_wp2_with fail
        go_ret
        exact ⟨HBF.out, rfl⟩
      · go_wp2_with fail
        go_ret
        exact ⟨HBF.out, rfl⟩
      · exact absurd rfl hne
end Go.Proofs.YtbpooaicmjkemaaGreatDoor
