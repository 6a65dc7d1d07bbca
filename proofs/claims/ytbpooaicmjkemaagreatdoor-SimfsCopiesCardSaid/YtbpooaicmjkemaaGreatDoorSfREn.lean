/-
  The walk of the document's entry: an entry change is done, and waits. Conditions: the lengths.
-/
import Derived.Test.YtbpooaicmjkemaaGreatDoorRun16
import Derived.Test.YtbpooaicmjkemaaGreatDoorLibAll
namespace Go.Proofs.YtbpooaicmjkemaaGreatDoor
open Go.RowKit Go.Maps
set_option linter.unusedVariables false
theorem uxKc : UX Tryz.prog 112 130 4 := by
  obtain ⟨i, h1, h2, h3, h4⟩ := info_parts (show (Tryz.prog.info? 130).map (fun i => (i.zero, i.size, i.bytes)) = some (some (.agg #[.int .i64 0, .string ⟨#[]⟩, .string ⟨#[]⟩, .int .i64 0]), 4, 48) by kernel_rfl)
  exact ⟨Tryz.underlying112, ⟨i, _, h1, h2, rfl, h3, by omega⟩, by omega⟩
theorem rc_one (c : Ch) : ∀ u ∈ rcV c, u.oneCell' = true := by
  intro u hu
  unfold rcV at hu
  simp only [List.mem_cons, List.not_mem_nil, or_false] at hu
  rcases hu with rfl | rfl | rfl | rfl <;> rfl
/-- which block a slice's cells lie in -/
def blkOf (A : Option Addr) : Option Nat := A.map Addr.block
/-- entries that did left: their block is new, or was never to be written again -/
def EnAt (w : World) (own : Nat → Nat × Nat) (A : Option Addr) (L : Es) : Prop := ∀ b off, A = some ⟨b, off, none⟩ → L ≠ [] → w.heap.size ≤ b ∨ own b = frz
theorem EnPost.at_ {w w1 w' : World} {own : Nat → Nat × Nat} {A A' : Option Addr} {n c : Nat} {L L0 : Es} (hs : w.heap.size ≤ w1.heap.size) (h0 : ∀ b off, A = some ⟨b, off, none⟩ → L0 ≠ [] → w.heap.size ≤ b ∨ own b = frz) (h : EnPost w1 (if L0 = [] then none else A) L (.returned (.slice A' n c)) w') :
    Below w1.heap.size w1 w' ∧ n = L.length ∧ n ≤ c ∧ c ≤ maxLen ∧ REn w' A' L ∧ EnAt w own A' L := by
  obtain ⟨h1, A2, n2, c2, e, h3, h4, h5, h6, h7⟩ := h
  injection e with e
  injection e with e1 e2 e3
  subst e1 e2 e3
  refine ⟨h1, h3, h4, h5, h6, fun b off hA hn => ?_⟩
  have hn0 : 0 < n := by rw [h3]; exact List.length_pos_iff.2 hn
  rcases h7 b off hA hn0 with h | ⟨o, h⟩
  · exact .inl (Nat.le_trans hs h)
  · by_cases hL : L0 = []
    · rw [if_pos hL] at h; cases h
    · rw [if_neg hL] at h
      exact h0 b o h hL
theorem did_walk2 (w : World) (A : Option Addr) (n c : Nat) (L : Es) (x : Ch) (hs : sortE L) (hr : REn w A L) (hn : n = L.length) (hc : n ≤ c) (hcm : c ≤ maxLen) (hm : n ≤ 1000000) :
    Calls Tryz.prog 121 #[.slice A n c, .agg #[.int .i64 x.kind, .string (bs x.fr), .string (bs x.tt), .int .i64 (x.node : Int)]] w (EnPost w (if L = [] then none else A) (didE L x)) :=
  did_walk w A (if L = [] then none else A) n c L x (by
    by_cases h : L = []
    · exact .inr h
    · rw [if_neg h]; exact .inl rfl) hs hr hn hc hcm hm
/-- a store into the disk's own block turns no entries -/
theorem REn.setd {w w5 : World} {z : Nat} {own : Nat → Nat × Nat} {A : Option Addr} {L : Es} {db : Nat} (h : REn w5 A L) (ha : EnAt w own A L) (hm : own db = (10 * z + 1, 0)) (hd : db < w.heap.size) (i : Nat) (u : Value) : REn (w5.setCell ⟨db, i, none⟩ u) A L := by
  rcases h with h | ⟨b, off, rfl, hlt, hc⟩
  · exact .inl h
  · by_cases hn : L = []
    · exact .inl hn
    · have hne : b ≠ db := by
        rintro rfl
        rcases ha b off rfl hn with h | h
        · omega
        · rw [hm] at h; unfold frz at h; simp at h
      exact .inr ⟨b, off, rfl, by simpa using hlt, fun j x hx => ⟨(World.cell?_of_block (w := w5) (Below.heap_setCell w5 ⟨db, i, none⟩ u b hne)).trans (hc j x hx).1, (World.cell?_of_block (w := w5) (Below.heap_setCell w5 ⟨db, i, none⟩ u b hne)).trans (hc j x hx).2⟩⟩
/-- the end of an entry change -/
theorem rent_end {z db : Nat} {w w6 w7 : World} {own : Nat → Nat × Nat} {d : Dk} {q : RParts} {c : Ch} {A5 : Option Addr} {n5 c5 : Nat} {v7 : Value} {g7 : Option Nat} (h : RSt z w own db d q) (hs : Safe (fun k => k < w.heap.size ∧ k ≠ db) w w6)
    (hC : Blk w6 db 114 (({ q with ve := .slice A5 n5 c5 } : RParts).cells d)) (h1 : n5 = (didE d.now c).length) (h2 : n5 ≤ c5) (h3 : c5 ≤ maxLen) (hr : REn w6 A5 (didE d.now c)) (ha : EnAt w own A5 (didE d.now c))
    (hX : OwnX 4 w7 g7 v7 ((d.waits.map rcV).flatten ++ rcV c)) (hG : (w6.alloc (.cells (rcV c).toArray 130)).drew.grownBy w7 q.gc) (ho : g7 = q.gc ∨ g7 = some (w6.alloc (.cells (rcV c).toArray 130)).drew.heap.size) :
    REntPost z w own db (enterM d c) (.returned (.tuple #[])) (w7.setCell ⟨db, 5, none⟩ v7) := by
  have r := h.rest
  have hdm := h.mark
  have hdw := h.blk.lt
  have s6 := hs.size
  have s7 : w6.heap.size + 1 ≤ w7.heap.size := by have := hG.size; simpa using this
  have hsW : (w7.setCell ⟨db, 5, none⟩ v7).heap.size = w7.heap.size := by simp
  have hgcd : q.gc ≠ some db := fun e => by have := r.mc _ e; rw [hdm] at this; simp at this
  have st7 : ∀ k, k < w6.heap.size → q.gc ≠ some k → w7.heap[k]? = w6.heap[k]? := fun k h1 h2 => (hG.block k (by show k < (w6.alloc _).heap.size; simp; omega) (fun e => h2 e.symm)).trans (Below.heap_alloc w6 _ k h1)
  have st : ∀ k, k < w6.heap.size → q.gc ≠ some k → k ≠ db → (w7.setCell ⟨db, 5, none⟩ v7).heap[k]? = w6.heap[k]? := fun k h1 h2 h3 => (Below.heap_setCell w7 ⟨db, 5, none⟩ v7 k h3).trans (st7 k h1 h2)
  have hg7 : ∀ k, g7 = some k → q.gc = some k ∨ w6.heap.size < k := fun k e => by
    rcases ho with h7 | h7
    · exact .inl (h7.symm.trans e)
    · rw [h7] at e
      injection e with e
      have e2 : (w6.alloc (.cells (rcV c).toArray 130)).drew.heap.size = w6.heap.size + 1 := by show (w6.alloc _).heap.size = _; simp
      exact .inr (by omega)
  have hS : Safe (fun k => k < w.heap.size ∧ own k ≠ (10 * z + 1, 0) ∧ own k ≠ (10 * z + 1, 4)) w (w7.setCell ⟨db, 5, none⟩ v7) :=
    ⟨hG.os.trans hs.os, hG.tape.trans hs.tape, hG.output.trans hs.output, by rw [hsW]; omega, fun k ⟨k1, k2, k3⟩ => (st k (by omega) (fun e => k3 (r.mc k e)) (fun e => k2 (by rw [e]; exact hdm))).trans (hs.block k ⟨k1, fun e => k2 (by rw [e]; exact hdm)⟩)⟩
  have hg : Goes (fun t => t ≠ (10 * z + 1, 0) ∧ t ≠ (10 * z + 1, 4)) w (w7.setCell ⟨db, 5, none⟩ v7) own (newM w own fun k => if g7 = some k then (10 * z + 1, 4) else if blkOf A5 = some k then frz else (0, 0)) := hS.goes fun k k1 k2 => ⟨k1, k2⟩
  have fzk : (fun t : Nat × Nat => t ≠ (10 * z + 1, 0) ∧ t ≠ (10 * z + 1, 4)) frz := by unfold frz; simp
  have hfin := rst_fin (f := fun k => if g7 = some k then (10 * z + 1, 4) else if blkOf A5 = some k then frz else (0, 0)) (d' := enterM d c) (ve := .slice A5 n5 c5) (vl := q.vl) (vc := v7) (gc := g7) h hS ?_ rfl rfl ?_ (r.lasts.goes hg fzk) ?_ fun k e => ?_
  · exact ⟨_, ⟨_, hfin.1⟩, hfin.2, rfl⟩
  · have h1 := (hC.at_ (st7 db (by omega) hgcd)).set_ 5 v7
    exact h1
  · have hE0 : (enterM d c).now = didE d.now c := rfl
    rw [hE0]
    by_cases hE : didE d.now c = []
    · subst h1
      exact ⟨A5, c5, rfl, h2, h3, .inl hE⟩
    · have hb6 : ∀ b off, A5 = some ⟨b, off, none⟩ → b < w6.heap.size := fun b off e => by
        rcases hr with h | ⟨b', off', e', hb', -⟩
        · exact absurd h hE
        · rw [e] at e'; cases e'; exact hb'
      refine FzE.of h1 h2 h3 (hr.kept (by omega) fun b off e hb => ?_) fun b off e hn => ?_
      · rcases ha b off e hE with h | h
        · exact st b hb (fun e2 => by have := r.chs.lt e2; omega) (by omega)
        · by_cases hbw : b < w.heap.size
          · refine st b hb (fun e2 => ?_) (fun e2 => ?_)
            · have := r.mc b e2; rw [h] at this; unfold frz at this; simp at this
            · rw [e2, hdm] at h; unfold frz at h; simp at h
          · exact st b hb (fun e2 => by have := r.chs.lt e2; omega) (by omega)
      · have hb := hb6 b off e
        by_cases hbw : b < w.heap.size
        · rw [newM_old hbw]
          rcases ha b off e hn with h | h
          · omega
          · exact h
        · rw [newM_new (by omega), if_neg (fun e2 => ?_), if_pos (by rw [e]; rfl)]
          rcases hg7 b e2 with h7 | h7
          · have := r.chs.lt h7; omega
          · omega
  · show OwnX 4 _ g7 v7 ((d.waits ++ [c]).map rcV).flatten
    rw [List.map_append, List.flatten_append]
    refine OwnX.same (xs := (d.waits.map rcV).flatten ++ ([c].map rcV).flatten) (by simpa using hX) (by rw [hsW]; exact Nat.le_refl _) fun k e => Below.heap_setCell w7 ⟨db, 5, none⟩ v7 k ?_
    rcases hg7 k e with h7 | h7
    · exact fun e2 => hgcd (by rw [h7]; exact congrArg some e2)
    · show k ≠ db; omega
  · rcases hg7 k e with h7 | h7
    · rw [newM_old (r.chs.lt h7)]; exact r.mc k h7
    · rw [newM_new (by omega), if_pos e]
set_option maxRecDepth 100000 in
set_option maxHeartbeats 4000000 in
theorem rentry_walk (z : Nat) (w : World) (own : Nat → Nat × Nat) (db : Nat) (d : Dk) (q : RParts) (h : RSt z w own db d q) {K : Nat} (hw : Wf d K) (hK : K ≤ 10000) (c : Ch) :
    Calls Tryz.prog 97 #[ptrV db, .agg (rcV c).toArray] w (REntPost z w own db (enterM d c)) := by
  obtain ⟨A, cc, hve, hc, hcm, hr, hfz⟩ := h.rest.now.en
  obtain ⟨n, hn⟩ : ∃ n, n = d.now.length := ⟨_, rfl⟩
  have hln : n ≤ 10000 := by have h1 := hw.cpn; have h2 := hw.nk; omega
  have hbox := (Below.refl w.heap.size w).alloc (Nat.le_refl _) (.cells (rcV c).toArray 130)
  have HX := Lib.hid (Blk.new w 130 (rcV c).toArray)
  have HBX := Lib.hid hbox
  have HP := Lib.hid h
  have HH := Lib.hid (h.below hbox)
  have KD : Hid (∀ W : World, W.heap = (w.alloc (.cells (rcV c).toArray 130)).heap → Calls Tryz.prog 121 #[.slice A n cc, .agg #[.int .i64 c.kind, .string (bs c.fr), .string (bs c.tt), .int .i64 (c.node : Int)]] W (EnPost W (if d.now = [] then none else A) (didE d.now c))) := Lib.hid fun W hW => by
    refine did_walk2 W A n cc d.now c hw.sn ((hr.below hbox).kept (by rw [hW]; exact Nat.le_refl _) fun b off _ _ => by rw [hW]) hn (by omega) hcm (by omega)
  have HFZ := Lib.hid hfz
  have HLW : Hid ((d.waits.map rcV).flatten.length ≤ 40000) := Lib.hid (by rw [flat_len (rc_all _), List.length_map]; have := hw.wk; omega)
  rw [← hn] at hve
  have HVE := Lib.hid hve
  unfold rcV at HX HBX HH KD
  unfold rcV
  unfold ptrV
  have hdb := h.blk.lt
  clear h hw hve hc hcm hr hfz hbox hn
  obtain ⟨kd, fr, tt, nd⟩ := c
  simp only [] at *
  generalize hw1 : w.alloc (.cells #[.int .i64 kd, .string (bs fr), .string (bs tt), .int .i64 (nd : Int)] 130) = w1 at *
  have HW1 := Lib.hid hw1
  clear hw1
  have c3 : w1.cell? ⟨db, 3, none⟩ = some (.slice A n cc) := by rw [← HVE.out]; exact HH.out.blk.cell 3
  have c3d : w1.drew.cell? ⟨db, 3, none⟩ = some (.slice A n cc) := c3
  have x0 : w1.drew.cell? ⟨w.heap.size, 0, none⟩ = some (.int .i64 kd) := HX.out.cell 0
  have x1 : w1.drew.cell? ⟨w.heap.size, 1, none⟩ = some (.string (bs fr)) := HX.out.cell 1
  have x2 : w1.drew.cell? ⟨w.heap.size, 2, none⟩ = some (.string (bs tt)) := HX.out.cell 2
  have x3 : w1.drew.cell? ⟨w.heap.size, 3, none⟩ = some (.int .i64 (nd : Int)) := HX.out.cell 3
  go_enter Tryz.func97, Tryz.ntmps97
  go_upto_region 1 with fail
  rw [HW1.out]
  go_region_law (refine step_calls rfl #[.tmp 8, .tmp 9] #[111, 130] (by rfl) Tryz.func121 (by kernel_rfl) (by kernel_rfl) #[.slice A n cc, .agg #[.int .i64 kd, .string (bs fr), .string (bs tt), .int .i64 (nd : Int)]] (by simp [Act.eval, Act.put]) (KD.out _ rfl) ?_; rintro e1 w5 ⟨hb5, A5, n5, c5, rfl, h5⟩; refine ⟨_, rfl, ?_⟩; have HQ5 : Hid (EnPost w1.drew (if d.now = [] then none else A) (didE d.now ⟨kd, fr, tt, nd⟩) (.returned (.slice A5 n5 c5)) w5) := Lib.hid ⟨hb5, A5, n5, c5, rfl, h5⟩; have hb51 : Below w1.heap.size w1 w5 := ⟨hb5.os, hb5.tape, hb5.output, hb5.size, hb5.block⟩; have HB5 := Lib.hid hb51; have p3 : w5.cell? ⟨db, 3, none⟩ = some (.slice A n cc) := (hb51.cell (p := ⟨db, 3, none⟩) HH.out.blk.lt).trans c3; have pf : w5.frozen? ⟨db, 3, none⟩ = false := (HH.out.blk.keep hb51).frozen 3; clear hb5 h5 hb51)
  all_goals
    go_upto_region 2 with fail
    have HC6 : Hid (Blk (w5.setCell ⟨db, 3, none⟩ (.slice A5 n5 c5)) db 114 (({ q with ve := .slice A5 n5 c5 } : RParts).cells d)) := Lib.hid ((HH.out.blk.keep HB5.out).set_ 3 _)
    have HX6 : Hid (Blk (w5.setCell ⟨db, 3, none⟩ (.slice A5 n5 c5)) w.heap.size 130 #[.int .i64 kd, .string (bs fr), .string (bs tt), .int .i64 (nd : Int)]) := Lib.hid ((HX.out.keep HB5.out).far (p := ⟨db, 3, none⟩) (by show w.heap.size ≠ db; omega) _)
    have HS6 : Hid (Safe (fun k => k < w.heap.size ∧ k ≠ db) w (w5.setCell ⟨db, 3, none⟩ (.slice A5 n5 c5))) := Lib.hid (((Safe.of_below HBX.out fun k hk => hk.1).below HB5.out fun k hk => Nat.lt_of_lt_of_le hk.1 HBX.out.size).set_ (p := ⟨db, 3, none⟩) (fun h => h.2 rfl) _)
    have HE6 : Hid (n5 = (didE d.now ⟨kd, fr, tt, nd⟩).length ∧ n5 ≤ c5 ∧ c5 ≤ maxLen ∧ REn (w5.setCell ⟨db, 3, none⟩ (.slice A5 n5 c5)) A5 (didE d.now ⟨kd, fr, tt, nd⟩) ∧ EnAt w own A5 (didE d.now ⟨kd, fr, tt, nd⟩)) := Lib.hid (by
      obtain ⟨-, e1, e2, e3, e4, e5⟩ := EnPost.at_ (w := w) (own := own) (show w.heap.size ≤ w1.drew.heap.size from HBX.out.size) (fun b off e hn => .inr (HFZ.out b off e hn)) HQ5.out
      exact ⟨e1, e2, e3, e4.setd e5 HP.out.mark hdb 3 _, e5⟩)
    have HWX : Hid (OwnX 4 (w5.setCell ⟨db, 3, none⟩ (.slice A5 n5 c5)) q.gc q.vc (d.waits.map rcV).flatten) := Lib.hid (((HP.out.rest.chs.below HBX.out fun k e => HP.out.rest.chs.lt e).below HB5.out fun k e => Nat.lt_of_lt_of_le (HP.out.rest.chs.lt e) HBX.out.size).same (by simp) fun k e => Below.heap_setCell w5 ⟨db, 3, none⟩ _ k (fun e2 => by have h1 := HP.out.rest.mc k e; have e2 : k = db := e2; rw [e2, HP.out.mark] at h1; simp at h1))
    have HGC : Hid (q.gc ≠ some db) := Lib.hid fun e => by have h1 := HP.out.rest.mc db e; rw [HP.out.mark] at h1; simp at h1
    clear p3 pf HQ5 x0 x1 x2 x3 c3 c3d KD
    generalize w5.setCell ⟨db, 3, none⟩ (.slice A5 n5 c5) = w6 at *
    obtain ⟨Aw, nw, cw, ew, hxw, hnw, hmw⟩ := HWX.out.sl
    have HEW := Lib.hid ew
    rw [ew] at HWX
    have c5 : w6.cell? ⟨db, 5, none⟩ = some (.slice Aw nw cw) := by rw [← ew]; exact HC6.out.cell 5
    have kd5 : (w6.alloc (.cells #[.int .i64 kd, .string (bs fr), .string (bs tt), .int .i64 (nd : Int)] 130)).drew.cell? ⟨db, 5, none⟩ = some (.slice Aw nw cw) := by rw [← ew]; exact (HC6.out.alloc _).cell 5
    have y0 : w6.cell? ⟨w.heap.size, 0, none⟩ = some (.int .i64 kd) := HX6.out.cell 0
    have y1 : w6.cell? ⟨w.heap.size, 1, none⟩ = some (.string (bs fr)) := HX6.out.cell 1
    have y2 : w6.cell? ⟨w.heap.size, 2, none⟩ = some (.string (bs tt)) := HX6.out.cell 2
    have y3 : w6.cell? ⟨w.heap.size, 3, none⟩ = some (.int .i64 (nd : Int)) := HX6.out.cell 3
    have HA6 : Hid (OwnX 4 (w6.alloc (.cells #[.int .i64 kd, .string (bs fr), .string (bs tt), .int .i64 (nd : Int)] 130)).drew q.gc (.slice Aw nw cw) (d.waits.map rcV).flatten) := Lib.hid (show OwnX 4 (w6.alloc (.cells #[.int .i64 kd, .string (bs fr), .string (bs tt), .int .i64 (nd : Int)] 130)) q.gc _ _ from HWX.out.below ((Below.refl w6.heap.size w6).alloc (Nat.le_refl _) (.cells #[.int .i64 kd, .string (bs fr), .string (bs tt), .int .i64 (nd : Int)] 130)) fun k hk => HWX.out.lt hk)
    clear ew hxw hnw hmw
    go_region_law (refine step_appX (P := Tryz.prog) _ rfl uxKc (.tmp 17) (.tmp 19) rfl (by rfl) HA6.out (some ⟨w6.heap.size, 0, none⟩) 1 1 (by rfl) [.int .i64 kd, .string (bs fr), .string (bs tt), .int .i64 (nd : Int)] rfl (fun h => by cases h) (news_of w6 130 [.int .i64 kd, .string (bs fr), .string (bs tt), .int .i64 (nd : Int)]) (rc_one ⟨kd, fr, tt, nd⟩) (by have := HLW.out; omega) ?_; intro v7 g7 w7 hX7 hG7 ho7; obtain ⟨A7, n7, c7, rfl, -⟩ := hX7.sl; have HX7 := Lib.hid hX7; have HG7 := Lib.hid hG7; have HO7 := Lib.hid ho7; have hB7 := (show Blk (w6.alloc (.cells #[.int .i64 kd, .string (bs fr), .string (bs tt), .int .i64 (nd : Int)] 130)).drew db _ _ from HC6.out.alloc _).grown hG7 (fun e => HGC.out e.symm); have k7 : w7.cell? ⟨db, 5, none⟩ = some q.vc := hB7.cell 5; have fk7 := hB7.frozen 5; clear hX7 hG7 ho7 hB7)
    all_goals
      go_wp2
      refine bodyPost_ret (res0 rfl _ _ _) rfl ?_
      obtain ⟨e1, e2, e3, e4, e5⟩ := HE6.out
      exact rent_end HP.out HS6.out HC6.out e1 e2 e3 e4 e5 HX7.out HG7.out HO7.out
end Go.Proofs.YtbpooaicmjkemaaGreatDoor
