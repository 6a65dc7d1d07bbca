/-
  The walk of the law's shown: the document's examples. No condition.
-/
import Derived.Test.YtbpooaicmjkemaaGreatDoorSfDoes
namespace Go.Proofs.YtbpooaicmjkemaaGreatDoor
open Go.RowKit Go.Maps
set_option linter.unusedVariables false
/-! ### sorted names are told by their elements -/
theorem sorted_ext : ∀ {l m : List Tx}, l.Pairwise (· < ·) → m.Pairwise (· < ·) → (∀ x, x ∈ l ↔ x ∈ m) → l = m
  | [], [], _, _, _ => rfl
  | [], e :: r, _, _, h => by have := (h e).2 List.mem_cons_self; cases this
  | e :: r, [], _, _, h => by have := (h e).1 List.mem_cons_self; cases this
  | e :: r, f :: s, hl, hm, h => by
    obtain ⟨l1, l2⟩ := List.pairwise_cons.1 hl
    obtain ⟨m1, m2⟩ := List.pairwise_cons.1 hm
    have hef : e = f := by
      rcases List.mem_cons.1 ((h e).1 List.mem_cons_self) with h1 | h1
      · exact h1
      · rcases List.mem_cons.1 ((h f).2 List.mem_cons_self) with h2 | h2
        · exact h2.symm
        · exact absurd (key_tr (m1 _ h1) (l1 _ h2)) (key_ir _)
    subst hef
    rw [sorted_ext l2 m2 fun x => ?_]
    constructor
    · intro hx
      rcases List.mem_cons.1 ((h x).1 (List.mem_cons_of_mem _ hx)) with h1 | h1
      · exact absurd (h1 ▸ l1 x hx) (key_ir _)
      · exact h1
    · intro hx
      rcases List.mem_cons.1 ((h x).2 (List.mem_cons_of_mem _ hx)) with h1 | h1
      · exact absurd (h1 ▸ m1 x hx) (key_ir _)
      · exact h1
theorem sortT_lt {l : List Tx} (h : l.Nodup) : (sortT l).Pairwise (· < ·) := by
  have h1 := sortT_le l
  have h2 : (sortT l).Nodup := (List.mergeSort_perm l _).nodup_iff.2 h
  refine (h1.and h2).imp fun {x y} hxy => ?_
  obtain ⟨a, b⟩ := hxy
  rcases key_tot x y with h | h | h
  · exact h
  · exact absurd h b
  · exact absurd h (List.not_lt.2 a)
theorem sortT_is {l s : List Tx} (h : l.Nodup) (hs : s.Pairwise (· < ·)) (hm : ∀ x, x ∈ s ↔ x ∈ l) : sortT l = s := sorted_ext (sortT_lt h) hs fun x => sortT_mem.trans (hm x).symm
theorem sort_ba : sortT [[98], [97]] = [[97], [98]] := sortT_is (by decide) (by decide) (fun x => by simp [or_comm])
theorem sort_ab : sortT [[97], [98]] = [[97], [98]] := sortT_is (by decide) (by decide) (fun x => Iff.rfl)
def ini (q : Int) : Dk := ⟨q, [[97], [98]], [], [], [], [], false, 0, 0, 0, 0⟩
theorem init_ba : initM 100 [[98], [97]] = some (ini 100) := by
  unfold initM
  rw [sort_ba, if_pos]
  · rfl
  · refine ⟨by decide, by decide, by decide, by decide⟩
theorem init_ab : initM 100000 [[97], [98]] = some (ini 100000) := by
  unfold initM
  rw [sort_ab, if_pos]
  · rfl
  · refine ⟨by decide, by decide, by decide, by decide⟩
/-! ### a disk in a law -/
structure LwI (W : World) (z db : Nat) (w : World) (own : Nat → Nat × Nat) (d : Dk) (K : Nat) : Prop where
  dk : DkI z w own db d K
  b : Below W.heap.size W w
  m : ∀ k, k < W.heap.size → own k = (0, 0)
section
variable {W w w' : World} {z db K : Nat} {own own' : Nat → Nat × Nat} {d d' : Dk}
theorem not_isD0 (z : Nat) : ¬ isD z (0, 0) := by unfold isD; simp
theorem LwI.below (h : LwI W z db w own d K) (hb : Below w.heap.size w w') : LwI W z db w' (cutM w own) d K :=
  ⟨h.dk.below hb, h.b.trans (hb.mono h.b.size), fun k hk => by rw [cutM_old (Nat.lt_of_lt_of_le hk h.b.size)]; exact h.m k hk⟩
theorem LwI.turn (h : LwI W z db w own d K) {K' : Nat} (ht : Turn (isD z) w w' own own') (hd : DkI z w' own' db d' K') : LwI W z db w' own' d' K' := by
  have hs := h.b.size
  have hn : ∀ k, k < W.heap.size → ¬ isD z (own k) := fun k hk => by rw [h.m k hk]; exact not_isD0 z
  exact ⟨hd, ⟨ht.os.trans h.b.os, ht.tape.trans h.b.tape, ht.output.trans h.b.output, Nat.le_trans hs ht.size, fun k hk => (ht.block k (by omega) (hn k hk)).trans (h.b.block k hk)⟩, fun k hk => (ht.mark k (by omega) (hn k hk)).trans (h.m k hk)⟩
theorem LwI.op (h : LwI W z db w own d K) (x : Dd) (hx : x.n ≤ 9223372036854775807) {c : Int} (hd : doesM d x = (d', c)) {e : Ending} (hp : OpPost z w own db (doesM d x) e w') :
    ∃ own', LwI W z db w' own' d' (K + 1) ∧ Turn (isD z) w w' own own' ∧ e = .returned (.int .i64 c) := by
  obtain ⟨own', h1, h2, h3⟩ := hp
  have h4 := h.turn h3 (h.dk.does hx h1)
  rw [hd] at h4 h2
  exact ⟨own', h4, h3, h2⟩
theorem LwI.ent (h : LwI W z db w own d K) (kc : List Bool) (kw : List Int) {e : Ending} (hp : EntPost z w own db (crashM d kc kw) e w') :
    ∃ own', LwI W z db w' own' (crashM d kc kw) (K + 1) ∧ Turn (isD z) w w' own own' ∧ e = .returned (.tuple #[]) := by
  obtain ⟨own', h1, h2, h3⟩ := hp
  exact ⟨own', h.turn h2 (h.dk.does (x := ⟨9, [], [], [], 0, 0, kc, kw⟩) (by show (0 : Int) ≤ _; omega) h1), h2, h3⟩
/-- a disk that New made -/
theorem LwI.start {q : Int} {e : Ending} {ds : List Tx} (hb : Below W.heap.size W w) (hi : initM q ds = some d) (hp : NewPost z w (fun _ => (0, 0)) (initM q ds) e w') : ∃ db own', LwI W z db w' own' d 0 ∧ e = .returned (.tuple #[ptrV db, .int .i64 0]) := by
  obtain ⟨hb2, hp⟩ := hp
  have hw := initM_wf hi
  have hsw : SwOk d 0 := by
    unfold initM at hi
    split at hi
    · obtain rfl := Option.some.inj hi
      exact ⟨by show (0 : Nat) ≤ _; omega, by show (0 : Nat) ≤ _; omega, Int.le_refl _, Int.le_refl _⟩
    · cases hi
  rw [hi] at hp
  obtain ⟨db, own', h1, h2, h3, h4⟩ := hp
  exact ⟨db, own', ⟨⟨h2, hw, hsw⟩, hb.trans (hb2.mono hb.size), fun k hk => h3 k (Nat.lt_of_lt_of_le hk hb.size)⟩, h4⟩
end
/-! ### the examples -/
def px : Tx := [97, 47, 120]
def sh1 : Dk := (createM (ini 100) px).1
def sh2 : Dk := (appendM sh1 px [104, 105]).1
def sh3 : Dk := (syncM sh2 px).1
def sh4 : Dk := (syncDirM sh3 [97]).1
def sh5 : Dk := (appendM sh4 px [121, 111]).1
def sh6 : Dk := crashM sh5 [] [1]
theorem sh_1 : createM (ini 100) px = (sh1, 0) := by kernel_rfl
theorem sh_2 : appendM sh1 px [104, 105] = (sh2, 0) := by kernel_rfl
theorem sh_3 : syncM sh2 px = (sh3, 0) := by kernel_rfl
theorem sh_4 : syncDirM sh3 [97] = (sh4, 0) := by kernel_rfl
theorem sh_5 : appendM sh4 px [121, 111] = (sh5, 0) := by kernel_rfl
theorem sh_r : readM sh6 px = [104, 105, 121] ∧ missM sh6 px = 0 ∧ sh6.dirs = [[97], [98]] := ⟨by kernel_rfl, by kernel_rfl, by kernel_rfl⟩
theorem sh_c : createM sh6 [99, 47, 120] = (sh6, 11) := by kernel_rfl
theorem sh_w : writeAtM sh6 px 3 [122] = (sh6, 1) := by kernel_rfl
section
variable {z db K : Nat} {w : World} {own : Nat → Nat × Nat} {d : Dk}
theorem create_op (h : DkI z w own db d K) (hK : K ≤ 8000) (p : Tx) (hp : p.length ≤ maxLen) : Calls Tryz.prog 8 #[ptrV db, .string (bs p)] w (OpPost z w own db (createM d p)) := by
  obtain ⟨q, hq⟩ := h.dk
  exact create_walk z w own db d q hq h.wf h.sw (by omega) p hp
theorem append_op (h : DkI z w own db d K) (hK : K ≤ 8000) (p : Tx) (hp : p.length ≤ maxLen) (b : Tx) (A : Option Addr) (n c : Nat) (hn : b.length = n) (hr : RB w w.heap.size A b) (hA : A = none → n = 0) (hc : n ≤ c) (hm : c ≤ maxLen) : Calls Tryz.prog 9 #[ptrV db, .string (bs p), .slice A n c] w (OpPost z w own db (appendM d p b)) := by
  obtain ⟨q, hq⟩ := h.dk
  exact append_walk z w own db d q hq h.wf h.sw (by omega) p hp b A n c hn hr hA hc hm
theorem writeAt_op (h : DkI z w own db d K) (hK : K ≤ 8000) (p : Tx) (hp : p.length ≤ maxLen) (at_ : Int) (ha : -9223372036854775808 ≤ at_ ∧ at_ ≤ 9223372036854775807) (b : Tx) (A : Option Addr) (n c : Nat) (hn : b.length = n) (hr : RB w w.heap.size A b) (hA : A = none → n = 0) (hc : n ≤ c) (hm : c ≤ maxLen) : Calls Tryz.prog 23 #[ptrV db, .string (bs p), .int .i64 at_, .slice A n c] w (OpPost z w own db (writeAtM d p at_ b)) := by
  obtain ⟨q, hq⟩ := h.dk
  exact writeAt_walk z w own db d q hq h.wf h.sw (by omega) p hp at_ ha b A n c hn hr hA hc hm
theorem sync_op (h : DkI z w own db d K) (hK : K ≤ 8000) (p : Tx) (hp : p.length ≤ maxLen) : Calls Tryz.prog 10 #[ptrV db, .string (bs p)] w (OpPost z w own db (syncM d p)) := by
  obtain ⟨q, hq⟩ := h.dk
  exact sync_walk z w own db d q hq h.wf h.sw (by omega) p hp
theorem unlink_op (h : DkI z w own db d K) (hK : K ≤ 8000) (p : Tx) (hp : p.length ≤ maxLen) : Calls Tryz.prog 58 #[ptrV db, .string (bs p)] w (OpPost z w own db (unlinkM d p)) := by
  obtain ⟨q, hq⟩ := h.dk
  exact unlink_walk z w own db d q hq h.wf h.sw (by omega) p hp
theorem rename_op (h : DkI z w own db d K) (hK : K ≤ 8000) (p p2 : Tx) (hp : p.length ≤ maxLen) (hp2 : p2.length ≤ maxLen) : Calls Tryz.prog 13 #[ptrV db, .string (bs p), .string (bs p2)] w (OpPost z w own db (renameM d p p2)) := by
  obtain ⟨q, hq⟩ := h.dk
  exact rename_walk z w own db d q hq h.wf h.sw (by omega) p p2 hp hp2
theorem syncDir_op (h : DkI z w own db d K) (hK : K ≤ 8000) (p : Tx) (hp : p.length ≤ maxLen) : Calls Tryz.prog 11 #[ptrV db, .string (bs p)] w (OpPost z w own db (syncDirM d p)) := by
  obtain ⟨q, hq⟩ := h.dk
  exact syncDir_walk z w own db d q hq h.wf h.sw (by omega) p hp
theorem read_op (h : DkI z w own db d K) (p : Tx) (hp : p.length ≤ maxLen) : Calls Tryz.prog 22 #[ptrV db, .string (bs p)] w (ReadPost w (readM d p) (missM d p)) := by
  obtain ⟨q, hq⟩ := h.dk
  exact read_walk hq h.wf p hp
theorem dirs_op (h : DkI z w own db d K) (h0 : 0 < d.dirs.length) : Calls Tryz.prog 24 #[ptrV db] w (RowPost w d.dirs) := by
  obtain ⟨q, hq⟩ := h.dk
  exact dirs_walk hq h.wf.dl h0
theorem len_op (h : DkI z w own db d K) (p : Tx) (hp : p.length ≤ maxLen) : Calls Tryz.prog 15 #[ptrV db, .string (bs p)] w fun e w' => e = .returned (.tuple #[.int .i64 (lenM d p : Int), .bool (missM d p == 0)]) ∧ w' = w := by
  obtain ⟨q, hq⟩ := h.dk
  exact len_walk hq h.wf p hp
/-- nobody's row stays, whatever is done to the disk -/
theorem OwnQ.turn {z : Nat} {w w' : World} {own own' : Nat → Nat × Nat} {base : Nat} {g : Option Nat} {v : Value} {l : Tx} (h : OwnQ w base g v l) (ht : Turn (isD z) w w' own own') (hg : ∀ k, g = some k → own k = (0, 0)) : OwnQ w' base g v l ∧ ∀ k, g = some k → own' k = (0, 0) :=
  ⟨h.blocks ht.size fun k e hk => ht.block k hk (by rw [hg k e]; exact not_isD0 z), fun k e => (ht.mark k (h.base_ e).2 (by rw [hg k e]; exact not_isD0 z)).trans (hg k e)⟩
end
/-- bytes in a new block, marked -/
theorem RB.mark (w : World) (E : TypeId) (C : Array Value) (fr : Nat × Nat) (l : List UInt8) (hC : C.toList = Lib.byteCells l) : RB (w.alloc (.cells C E fr)) (w.alloc (.cells C E fr)).heap.size (some ⟨w.heap.size, 0, none⟩) l := by
  refine .inr ⟨w.heap.size, 0, rfl, by simp, fun i hi => ?_⟩
  rw [Nat.zero_add, World.cell?_alloc_mark w C E fr i, ← Array.getElem?_toList, hC, bt_getElem hi]
  simp [Lib.byteCells, hi]
theorem rsx2 (w : World) (a b : Tx) : RSx (w.alloc (.cells #[.string (bs a), .string (bs b)] 9)) (some ⟨w.heap.size, 0, none⟩) [a, b] := by
  have hB := Blk.new w 9 #[.string (bs a), .string (bs b)]
  refine .inr ⟨_, 0, rfl, hB.lt, fun i l hl => ?_⟩
  rw [Nat.zero_add, hB.cell]
  match i, hl with
  | 0, hl => obtain rfl : a = l := by simpa using hl
             rfl
  | 1, hl => obtain rfl : b = l := by simpa using hl
             rfl
  | i + 2, hl => simp at hl
set_option maxRecDepth 100000 in
set_option maxHeartbeats 4000000 in
theorem shown_walk (w : World) : Calls Tryz.prog 6 #[] w fun e w' => Below w.heap.size w w' ∧ e = .returned (.bool true) := by
  have hb0 := (Below.refl w.heap.size w).alloc (Nat.le_refl _) (.cells #[.string (bs [98]), .string (bs [97])] 9)
  have HB0 := Lib.hid hb0
  have KN : Hid (Calls Tryz.prog 7 #[.int .i64 100, .slice (some ⟨w.heap.size, 0, none⟩) 2 2] (w.alloc (.cells #[.string ⟨#[98]⟩, .string ⟨#[97]⟩] 9)) (NewPost 0 (w.alloc (.cells #[.string ⟨#[98]⟩, .string ⟨#[97]⟩] 9)) (fun _ => (0, 0)) (initM 100 [[98], [97]]))) := Lib.hid (new_walk 0 _ _ 100 (some ⟨w.heap.size, 0, none⟩) 2 2 [[98], [97]] rfl (rsx2 w [98] [97]) (by unfold maxLen; omega) (by omega) (fun p hp => by
    have : p.length = 1 := by
      rcases List.mem_cons.1 hp with rfl | hp
      · rfl
      · obtain rfl := List.mem_singleton.1 hp; rfl
    rw [this]; unfold maxLen; omega))
  clear hb0
  go_enter Tryz.func6, Tryz.ntmps6
  go_wp2_with fail
  refine KN.out.mono ?_
  intro e w1 hp
  obtain ⟨db, own1, hi, rfl⟩ := LwI.start (W := w) HB0.out init_ba hp
  have HI1 := Lib.hid hi
  clear hp hi
  unfold ptrV
  have hpx : px.length ≤ maxLen := by unfold maxLen px; simp
  have HPX := Lib.hid hpx
  clear hpx
  have K1 : Hid (Calls Tryz.prog 8 #[.pointer (some ⟨db, 0, none⟩), .string ⟨#[97, 47, 120]⟩] w1 (OpPost 0 w1 own1 db (createM (ini 100) px))) := Lib.hid (create_op HI1.out.dk (by omega) px HPX.out)
  go_wp2_with fail
  refine K1.out.mono ?_
  intro e w2 hp
  obtain ⟨own2, hi, ht, rfl⟩ := HI1.out.op ⟨0, px, [], [], 0, 0, [], []⟩ (by decide) sh_1 hp
  have HI2 := Lib.hid hi
  have HT2 := Lib.hid ht
  clear hp hi ht K1
  have HN2 := Lib.hid (RB.mark w2 5 #[.int .u8 104, .int .u8 105] (2, 3) [104, 105] rfl)
  have HA2 := Lib.hid ((Below.refl w2.heap.size w2).alloc (Nat.le_refl _) (.cells #[.int .u8 104, .int .u8 105] 5 (2, 3)))
  have hcv2 := Lib.run_convert_bytes_const (P := Tryz.prog) w2 35 5 #[.int .u8 104, .int .u8 105] 2 2 Tryz.underlying35 Tryz.underlying5
  have HJ2 := Lib.hid (HI2.out.below HA2.out)
  have K2 : Hid (Calls Tryz.prog 9 #[.pointer (some ⟨db, 0, none⟩), .string ⟨#[97, 47, 120]⟩, .slice (some ⟨w2.heap.size, 0, none⟩) 2 2] (w2.alloc (.cells #[.int .u8 104, .int .u8 105] 5 (2, 3))) (OpPost 0 (w2.alloc (.cells #[.int .u8 104, .int .u8 105] 5 (2, 3))) (cutM w2 own2) db (appendM sh1 px [104, 105]))) := Lib.hid (append_op HJ2.out.dk (by omega) px HPX.out [104, 105] _ 2 2 rfl HN2.out (fun h => by cases h) (by omega) (by unfold maxLen; omega))
  go_wp2_with fail
  refine K2.out.mono ?_
  intro e w3 hp
  obtain ⟨own3, hi, ht, rfl⟩ := HJ2.out.op ⟨1, px, [], [104, 105], 0, 0, [], []⟩ (by decide) sh_2 hp
  have HI3 := Lib.hid hi
  have HT3 := Lib.hid ht
  clear hp hi ht K2 hcv2
  have K3 : Hid (Calls Tryz.prog 10 #[.pointer (some ⟨db, 0, none⟩), .string ⟨#[97, 47, 120]⟩] w3 (OpPost 0 w3 own3 db (syncM sh2 px))) := Lib.hid (sync_op HI3.out.dk (by omega) px HPX.out)
  go_wp2_with fail
  refine K3.out.mono ?_
  intro e w4 hp
  obtain ⟨own4, hi, ht, rfl⟩ := HI3.out.op ⟨3, px, [], [], 0, 0, [], []⟩ (by decide) sh_3 hp
  have HI4 := Lib.hid hi
  have HT4 := Lib.hid ht
  clear hp hi ht K3
  have K4 : Hid (Calls Tryz.prog 11 #[.pointer (some ⟨db, 0, none⟩), .string ⟨#[97]⟩] w4 (OpPost 0 w4 own4 db (syncDirM sh3 [97]))) := Lib.hid (syncDir_op HI4.out.dk (by omega) [97] (by unfold maxLen; simp))
  go_wp2_with fail
  refine K4.out.mono ?_
  intro e w5 hp
  obtain ⟨own5, hi, ht, rfl⟩ := HI4.out.op ⟨6, [], [97], [], 0, 0, [], []⟩ (by decide) sh_4 hp
  have HI5 := Lib.hid hi
  have HT5 := Lib.hid ht
  clear hp hi ht K4
  have HN5 := Lib.hid (RB.mark w5 5 #[.int .u8 121, .int .u8 111] (2, 3) [121, 111] rfl)
  have HA5 := Lib.hid ((Below.refl w5.heap.size w5).alloc (Nat.le_refl _) (.cells #[.int .u8 121, .int .u8 111] 5 (2, 3)))
  have hcv5 := Lib.run_convert_bytes_const (P := Tryz.prog) w5 35 5 #[.int .u8 121, .int .u8 111] 2 2 Tryz.underlying35 Tryz.underlying5
  have HJ5 := Lib.hid (HI5.out.below HA5.out)
  have K5 : Hid (Calls Tryz.prog 9 #[.pointer (some ⟨db, 0, none⟩), .string ⟨#[97, 47, 120]⟩, .slice (some ⟨w5.heap.size, 0, none⟩) 2 2] (w5.alloc (.cells #[.int .u8 121, .int .u8 111] 5 (2, 3))) (OpPost 0 (w5.alloc (.cells #[.int .u8 121, .int .u8 111] 5 (2, 3))) (cutM w5 own5) db (appendM sh4 px [121, 111]))) := Lib.hid (append_op HJ5.out.dk (by omega) px HPX.out [121, 111] _ 2 2 rfl HN5.out (fun h => by cases h) (by omega) (by unfold maxLen; omega))
  go_wp2_with fail
  refine K5.out.mono ?_
  intro e w6 hp
  obtain ⟨own6, hi, ht, rfl⟩ := HJ5.out.op ⟨1, px, [], [121, 111], 0, 0, [], []⟩ (by decide) sh_5 hp
  have HI6 := Lib.hid hi
  have HT6 := Lib.hid ht
  clear hp hi ht K5 hcv5
  have HA6 := Lib.hid ((Below.refl w6.heap.size w6).alloc (Nat.le_refl _) (.cells #[.int .i64 1] 3))
  have HJ6 := Lib.hid (HI6.out.below HA6.out)
  have HK6 : Hid (RCo 0 (w6.alloc (.cells #[.int .i64 1] 3)) (cutM w6 own6) (some ⟨w6.heap.size, 0, none⟩) (([1] : List Int).map (.int .i64))) := Lib.hid fun i v hv => by
    have hB := Blk.new w6 3 #[.int .i64 1]
    refine ⟨_, 0, rfl, hB.lt, by unfold cutM; rw [if_neg (by omega)]; exact not_isD0 0, ?_⟩
    rw [Nat.zero_add, hB.cell]
    match i, hv with
    | 0, hv => exact hv
    | i + 1, hv => simp at hv
  have K6 : Hid (Calls Tryz.prog 14 #[.pointer (some ⟨db, 0, none⟩), .agg #[.slice none 0 0, .slice (some ⟨w6.heap.size, 0, none⟩) 1 1]] (w6.alloc (.cells #[.int .i64 1] 3)) (EntPost 0 (w6.alloc (.cells #[.int .i64 1] 3)) (cutM w6 own6) db (crashM sh5 [] [1]))) := Lib.hid (crash_walk HJ6.out.dk.dk HJ6.out.dk.wf (by omega) [] [1] none (some ⟨w6.heap.size, 0, none⟩) 0 1 ⟨Nat.le_refl _, by unfold maxLen; omega⟩ ⟨Nat.le_refl _, by unfold maxLen; omega⟩ (fun i v hv => by simp at hv) HK6.out (fun x hx => by obtain rfl := List.mem_singleton.1 hx; omega))
  go_wp2_with fail
  refine K6.out.mono ?_
  intro e w7 hp
  obtain ⟨own7, hi, -, rfl⟩ := HJ6.out.ent [] [1] hp
  have HI7 : Hid (LwI w 0 db w7 own7 sh6 6) := Lib.hid hi
  clear hp hi K6
  have K7 : Hid (Calls Tryz.prog 22 #[.pointer (some ⟨db, 0, none⟩), .string ⟨#[97, 47, 120]⟩] w7 (ReadPost w7 [104, 105, 121] 0)) := Lib.hid (by
    have := read_op HI7.out.dk px HPX.out
    rw [sh_r.1, sh_r.2.1] at this
    exact this)
  go_wp2_with fail
  refine K7.out.mono ?_
  rintro e w8 ⟨hb8, g8, A8, rfl, hO8⟩
  have HI8 := Lib.hid (HI7.out.below hb8)
  have HV8 : Hid (OwnQ w8 0 g8 (.slice A8 3 3) [104, 105, 121] ∧ ∀ k, g8 = some k → cutM w7 own7 k = (0, 0)) := Lib.hid ⟨hO8.mono_ (Nat.zero_le _), fun k e => by have := hO8.base_ e; unfold cutM; rw [if_neg (by omega)]⟩
  obtain ⟨own8, ho8⟩ : ∃ own8, cutM w7 own7 = own8 := ⟨_, rfl⟩
  rw [ho8] at HI8 HV8
  clear hb8 hO8 ho8 K7
  have K8 : Hid (Calls Tryz.prog 8 #[.pointer (some ⟨db, 0, none⟩), .string ⟨#[99, 47, 120]⟩] w8 (OpPost 0 w8 own8 db (createM sh6 [99, 47, 120]))) := Lib.hid (create_op HI8.out.dk (by omega) [99, 47, 120] (by unfold maxLen; simp))
  go_wp2_with fail
  refine K8.out.mono ?_
  intro e w9 hp
  obtain ⟨own9, hi, ht, rfl⟩ := HI8.out.op ⟨0, [99, 47, 120], [], [], 0, 0, [], []⟩ (by decide) sh_c hp
  have HI9 := Lib.hid hi
  have HT9 := Lib.hid ht
  clear hp hi ht K8
  have HV9 := Lib.hid (HV8.out.1.turn HT9.out HV8.out.2)
  have HN9 := Lib.hid (RB.mark w9 5 #[.int .u8 122] (1, 2) [122] rfl)
  have HA9 := Lib.hid ((Below.refl w9.heap.size w9).alloc (Nat.le_refl _) (.cells #[.int .u8 122] 5 (1, 2)))
  have hcv9 := Lib.run_convert_bytes_const (P := Tryz.prog) w9 35 5 #[.int .u8 122] 1 1 Tryz.underlying35 Tryz.underlying5
  have HJ9 := Lib.hid (HI9.out.below HA9.out)
  have K9 : Hid (Calls Tryz.prog 23 #[.pointer (some ⟨db, 0, none⟩), .string ⟨#[97, 47, 120]⟩, .int .i64 3, .slice (some ⟨w9.heap.size, 0, none⟩) 1 1] (w9.alloc (.cells #[.int .u8 122] 5 (1, 2))) (OpPost 0 (w9.alloc (.cells #[.int .u8 122] 5 (1, 2))) (cutM w9 own9) db (writeAtM sh6 px 3 [122]))) := Lib.hid (writeAt_op HJ9.out.dk (by omega) px HPX.out 3 (by decide) [122] _ 1 1 rfl HN9.out (fun h => by cases h) (by omega) (by unfold maxLen; omega))
  go_wp2_with fail
  refine K9.out.mono ?_
  intro e w10 hp
  obtain ⟨own10, hi, ht, rfl⟩ := HJ9.out.op ⟨2, px, [], [122], 3, 0, [], []⟩ (by decide) sh_w hp
  have HI10 := Lib.hid hi
  have HT10 := Lib.hid ht
  clear hp hi ht K9 hcv9
  have HV9b : Hid (OwnQ (w9.alloc (.cells #[.int .u8 122] 5 (1, 2))) 0 g8 (.slice A8 3 3) [104, 105, 121]) := Lib.hid (HV9.out.1.alloc _)
  have HV10 := Lib.hid (HV9b.out.turn HT10.out (fun k e => by rw [cutM_old (HV9.out.1.base_ e).2]; exact HV9.out.2 k e))
  have K10 : Hid (Calls Tryz.prog 24 #[.pointer (some ⟨db, 0, none⟩)] w10 (RowPost w10 [[97], [98]])) := Lib.hid (by
    have := dirs_op HI10.out.dk (by rw [sh_r.2.2]; decide)
    rw [sh_r.2.2] at this
    exact this)
  go_wp2_with fail
  refine K10.out.mono ?_
  intro e w11 hp
  obtain ⟨hb11, A11, n11, c11, rfl, rfl, hc11, hm11, -, hr11, -⟩ := hp.rs
  have HB11 : Hid (Below w.heap.size w w11) := Lib.hid (HI10.out.b.trans (hb11.mono HI10.out.b.size))
  have HV11 := Lib.hid (HV10.out.1.below hb11)
  obtain ⟨b11, o11, rfl, -, hc⟩ : ∃ b off, A11 = some ⟨b, off, none⟩ ∧ b < w11.heap.size ∧ ∀ i l, ([[97], [98]] : List Tx)[i]? = some l → w11.cell? ⟨b, off + i, none⟩ = some (.string (bs l)) := by
    rcases hr11 with h | h
    · cases h
    · exact h
  have c0 : w11.cell? ⟨b11, o11, none⟩ = some (.string ⟨#[97]⟩) := hc 0 [97] rfl
  have cv := run_convRB (P := Tryz.prog) 35 9 5 Tryz.underlying35 Tryz.underlying5 Tryz.underlying9 HV11.out.rb.1 3 3 rfl
  clear hp hb11 hc hr11 hc11 hm11 K10
  go_wp2_with fail
  go_ret
  exact ⟨HB11.out, rfl⟩
end Go.Proofs.YtbpooaicmjkemaaGreatDoor
