/-
  The walk of the document's lasting: some entry changes last. Conditions: the lengths.
-/
import Derived.Test.YtbpooaicmjkemaaGreatDoorSfRCt
import Derived.Test.YtbpooaicmjkemaaGreatDoorRun9
namespace Go.Proofs.YtbpooaicmjkemaaGreatDoor
open Go.RowKit Go.Maps
set_option linter.unusedVariables false
theorem REn.kept2 {w w' : World} {A : Option Addr} {L : Es} (h : REn w A L) (hs : w.heap.size ≤ w'.heap.size) (hb : ∀ b off, A = some ⟨b, off, none⟩ → L ≠ [] → b < w.heap.size → w'.heap[b]? = w.heap[b]?) : REn w' A L := by
  by_cases hn : L = []
  · exact .inl hn
  · exact h.kept hs fun b off e hlt => hb b off e hn hlt
theorem REn.blk {w : World} {A : Option Addr} {L : Es} (h : REn w A L) {b off : Nat} (e : A = some ⟨b, off, none⟩) (hn : L ≠ []) : b < w.heap.size := by
  rcases h with h | ⟨b', off', e', hb', -⟩
  · exact absurd h hn
  · rw [e] at e'; cases e'; exact hb'
theorem rlast_end {z db : Nat} {w wr : World} {own : Nat → Nat × Nat} {d : Dk} {q : RParts} {A : Option Addr} {n c : Nat} {L' : Es} {R' : List Ch} {g4 : Option Nat} {v4 : Value} (h : RSt z w own db d q) (hs : Safe (fun k => k < w.heap.size ∧ k ≠ db) w wr)
    (hC : Blk wr db 114 (({ q with vl := .slice A n c } : RParts).cells d)) (h1 : n = L'.length) (h2 : n ≤ c) (h3 : c ≤ maxLen) (hr : REn wr A L') (ha : EnAt w own A L') (hX : OwnX 4 wr g4 v4 (R'.map rcV).flatten) (hg4 : ∀ k, g4 = some k → w.heap.size ≤ k) (hne : ∀ b off, A = some ⟨b, off, none⟩ → L' ≠ [] → g4 ≠ some b) :
    REntPost z w own db { d with lasts := L', waits := R' } (.returned (.tuple #[])) (wr.setCell ⟨db, 5, none⟩ v4) := by
  have r := h.rest
  have hdm := h.mark
  have hdw := h.blk.lt
  have hsz := hs.size
  have hsW : (wr.setCell ⟨db, 5, none⟩ v4).heap.size = wr.heap.size := by simp
  have st : ∀ k, k ≠ db → (wr.setCell ⟨db, 5, none⟩ v4).heap[k]? = wr.heap[k]? := fun k h3 => Below.heap_setCell wr ⟨db, 5, none⟩ v4 k h3
  have hS : Safe (fun k => k < w.heap.size ∧ own k ≠ (10 * z + 1, 0) ∧ own k ≠ (10 * z + 1, 4)) w (wr.setCell ⟨db, 5, none⟩ v4) :=
    ⟨hs.os, hs.tape, hs.output, by rw [hsW]; omega, fun k ⟨k1, k2, k3⟩ => (st k (fun e => k2 (by rw [e]; exact hdm))).trans (hs.block k ⟨k1, fun e => k2 (by rw [e]; exact hdm)⟩)⟩
  have hg : Goes (fun t => t ≠ (10 * z + 1, 0) ∧ t ≠ (10 * z + 1, 4)) w (wr.setCell ⟨db, 5, none⟩ v4) own (newM w own fun k => if g4 = some k then (10 * z + 1, 4) else if blkOf A = some k then frz else (0, 0)) := hS.goes fun k k1 k2 => ⟨k1, k2⟩
  have fzk : (fun t : Nat × Nat => t ≠ (10 * z + 1, 0) ∧ t ≠ (10 * z + 1, 4)) frz := by unfold frz; simp
  have hfin := rst_fin (f := fun k => if g4 = some k then (10 * z + 1, 4) else if blkOf A = some k then frz else (0, 0)) (d' := { d with lasts := L', waits := R' }) (ve := q.ve) (vl := .slice A n c) (vc := v4) (gc := g4) h hS ?_ rfl rfl (r.now.goes hg fzk) ?_ ?_ fun k e => ?_
  · exact ⟨_, ⟨_, hfin.1⟩, hfin.2, rfl⟩
  · exact hC.set_ 5 v4
  · show FzE _ _ (.slice A n c) L'
    refine FzE.of h1 h2 h3 (hr.kept2 (by omega) fun b off e hn hb => st b fun e2 => ?_) fun b off e hn => ?_
    · rcases ha b off e hn with h | h
      · omega
      · rw [e2, hdm] at h; unfold frz at h; simp at h
    · by_cases hbw : b < w.heap.size
      · rw [newM_old hbw]
        rcases ha b off e hn with h | h
        · omega
        · exact h
      · rw [newM_new (by omega), if_neg (hne b off e hn), if_pos (by rw [e]; rfl)]
  · exact OwnX.same hX (by rw [hsW]; exact Nat.le_refl _) fun k e => st k (by have := hg4 k e; omega)
  · rw [newM_new (hg4 k e)]; exact if_pos e
/-- a change as it lies in the document's row of those that wait -/
theorem rc_at {w : World} {g : Option Nat} {A : Option Addr} {n c : Nat} {cs : List Ch} (h : OwnX 4 w g (.slice A n c) (cs.map rcV).flatten) : n = cs.length ∧ n ≤ c ∧ c ≤ maxLen ∧ ∀ (j : Nat) (x : Ch), cs[j]? = some x → ∃ b off, g = some b ∧ A = some ⟨b, off, none⟩ ∧ b < w.heap.size ∧
    w.cell? ⟨b, off + j * 4, none⟩ = some (.int .i64 x.kind) ∧ w.cell? ⟨b, off + j * 4 + 1, none⟩ = some (.string (bs x.fr)) ∧ w.cell? ⟨b, off + j * 4 + 2, none⟩ = some (.string (bs x.tt)) ∧ w.cell? ⟨b, off + j * 4 + 3, none⟩ = some (.int .i64 (x.node : Int)) := by
  obtain ⟨e1, e2, e3⟩ := h.count (by decide) (rc_all cs)
  rw [List.length_map] at e1
  refine ⟨e1, e2, e3, fun j x hx => ?_⟩
  have hr : (cs.map rcV)[j]? = some (rcV x) := by rw [List.getElem?_map, hx]; rfl
  obtain ⟨-, -, -, -, b, off, rfl, rfl, hlt, hc⟩ := h.elem (by decide) (rc_all cs) hr
  exact ⟨b, off, rfl, rfl, hlt, (hc 0 (by decide)).1, (hc 1 (by decide)).1, (hc 2 (by decide)).1, (hc 3 (by decide)).1⟩
set_option maxRecDepth 100000 in
set_option maxHeartbeats 4000000 in
theorem rlasting_walk (z : Nat) (w : World) (own : Nat → Nat × Nat) (db : Nat) (d : Dk) (q : RParts) (h : RSt z w own db d q) {K : Nat} (hw : Wf d K) (hK : K ≤ 10000) (br : List Bool) (Ab : Option Addr) (nb cb : Nat) (hnb : br.length = nb) (hlen : br.length = d.waits.length)
    (hbr : ∀ i x, br[i]? = some x → ∃ b off, Ab = some ⟨b, off, none⟩ ∧ (b < w.heap.size ∧ b ≠ db) ∧ w.cell? ⟨b, off + i, none⟩ = some (.bool x)) :
    Calls Tryz.prog 103 #[ptrV db, .slice Ab nb cb] w (REntPost z w own db (lastM d br)) := by
  have HP := Lib.hid h
  have HW := Lib.hid hw
  have HLE := Lib.hid hlen
  obtain ⟨A, n, c, ev, -⟩ := h.rest.chs.sl
  have hX := h.rest.chs
  rw [ev] at hX
  obtain ⟨hn, hnc, hm, hat⟩ := rc_at hX
  have hgm : ∀ k, q.gc = some k → k ≠ db := fun k e e2 => by have h1 := h.rest.mc k e; rw [e2, h.mark] at h1; simp at h1
  have hat2 : ∀ (j : Nat) (x : Ch), d.waits[j]? = some x → ∃ b off, A = some ⟨b, off, none⟩ ∧ (b < w.heap.size ∧ b ≠ db) ∧
    w.cell? ⟨b, off + j * 4, none⟩ = some (.int .i64 x.kind) ∧ w.cell? ⟨b, off + j * 4 + 1, none⟩ = some (.string (bs x.fr)) ∧ w.cell? ⟨b, off + j * 4 + 2, none⟩ = some (.string (bs x.tt)) ∧ w.cell? ⟨b, off + j * 4 + 3, none⟩ = some (.int .i64 (x.node : Int)) := fun j x hx => by
    obtain ⟨b, off, e1, e2, e3, e4⟩ := hat j x hx
    exact ⟨b, off, e2, ⟨e3, hgm b e1⟩, e4⟩
  have HAT := Lib.hid hat2
  have HBR := Lib.hid hbr
  have HEV := Lib.hid ev
  have HN := Lib.hid hn
  obtain ⟨Al, cl, el, hcl, hml, hrl, hfl⟩ := h.rest.lasts.en
  have HEL := Lib.hid el
  have hn1 : n ≤ 10000 := by have := hw.wk; omega
  have hl1 : d.lasts.length ≤ 10000 := by have := hw.cp; have := hw.nk; omega
  have HLL := Lib.hid hl1
  have hdb := h.blk.lt
  have hF : Hid (lastM d br = { d with lasts := lastL d br n, waits := lastR d br n }) := Lib.hid (last_full hlen (by omega)).symm
  obtain rfl : nb = n := by omega
  have HSTART : Hid (Blk w db 114 (({ q with vl := .slice Al d.lasts.length cl } : RParts).cells d) ∧ (d.lasts.length = (lastL d br 0).length ∧ d.lasts.length ≤ cl ∧ cl ≤ maxLen) ∧ REn w Al (lastL d br 0) ∧ EnAt w own Al (lastL d br 0)) := Lib.hid ⟨by rw [← el]; exact h.blk, ⟨rfl, hcl, hml⟩, hrl, fun b off e hn => .inr (hfl b off e hn)⟩
  unfold ptrV
  clear h hw hnb hlen hbr ev hX hn hm hat hgm hat2 hK el hcl hml hrl hfl hl1
  go_enter Tryz.func103, Tryz.ntmps103
  go_upto_region 2 with fail
  go_loopg [4, 5] nb (fun k s4 s5 wr => ∃ (j : Nat) (g4 : Option Nat) (Al : Option Addr) (nl cl : Nat), s5 = .int .i64 (j : Int) ∧ j + k = nb ∧ Hid (OwnX 4 wr g4 s4 ((lastR d br j).map rcV).flatten) ∧ Hid (∀ k, g4 = some k → w.heap.size ≤ k) ∧ Hid (Blk wr db 114 (({ q with vl := .slice Al nl cl } : RParts).cells d)) ∧ Hid (nl = (lastL d br j).length ∧ nl ≤ cl ∧ cl ≤ maxLen ∧ nl ≤ d.lasts.length + j) ∧ Hid (REn wr Al (lastL d br j)) ∧ Hid (EnAt w own Al (lastL d br j)) ∧ Hid (∀ b off, Al = some ⟨b, off, none⟩ → lastL d br j ≠ [] → g4 ≠ some b) ∧ Hid (Safe (fun k => k < w.heap.size ∧ k ≠ db) w wr))
  case atStart => exact ⟨0, none, Al, d.lasts.length, cl, rfl, by omega, Lib.hid (OwnX.nil _ _), Lib.hid (fun k e => by cases e), Lib.hid HSTART.out.1, Lib.hid ⟨HSTART.out.2.1.1, HSTART.out.2.1.2.1, HSTART.out.2.1.2.2, Nat.le_refl _⟩, Lib.hid HSTART.out.2.2.1, Lib.hid HSTART.out.2.2.2, Lib.hid (fun _ _ _ _ e => by cases e), Lib.hid (Safe.refl _ _)⟩
  case round =>
    obtain ⟨j, g4, Al, nl, cl, rfl, hj, HX, HG, HB, HNL, HR, HE, HNE, HS⟩ := hrel
    have k5 : wr.cell? ⟨db, 5, none⟩ = some (.slice A nb c) := by rw [← HEV.out]; exact HB.out.cell 5
    clear HSTART
    by_cases hlt : j < nb
    · have hlt1 : (j : Int) < (nb : Int) := by omega
      obtain ⟨x, hx⟩ : ∃ x, d.waits[j]? = some x := ⟨_, List.getElem?_eq_getElem (by rw [← HN.out]; exact hlt)⟩
      obtain ⟨bv, hbv⟩ : ∃ bv, br[j]? = some bv := ⟨_, List.getElem?_eq_getElem (by rw [HLE.out, ← HN.out]; exact hlt)⟩
      obtain ⟨bb, off, rfl, hbl, c0, c1, c2, c3⟩ := HAT.out j x hx
      obtain ⟨b2, off2, rfl, hb2, d0⟩ := HBR.out j bv hbv
      have q0 : wr.cell? ⟨bb, off + j * 4, none⟩ = some (.int .i64 x.kind) := (World.cell?_of_block (HS.out.block bb hbl)).trans c0
      have q1 : wr.cell? ⟨bb, off + j * 4 + 1, none⟩ = some (.string (bs x.fr)) := (World.cell?_of_block (HS.out.block bb hbl)).trans c1
      have q2 : wr.cell? ⟨bb, off + j * 4 + 2, none⟩ = some (.string (bs x.tt)) := (World.cell?_of_block (HS.out.block bb hbl)).trans c2
      have q3 : wr.cell? ⟨bb, off + j * 4 + 3, none⟩ = some (.int .i64 (x.node : Int)) := (World.cell?_of_block (HS.out.block bb hbl)).trans c3
      have r0 : wr.cell? ⟨b2, off2 + j, none⟩ = some (.bool bv) := (World.cell?_of_block (HS.out.block b2 hb2)).trans d0
      clear c0 c1 c2 c3 d0 hbl hb2
      have hsw := HS.out.size
      cases bv with
      | true =>
        have HY := Lib.hid (last_yes hx hbv)
        have hnl6 : nl ≤ 1000000 := by have := HNL.out; have := HLL.out; omega
        have KD : Hid (∀ W : World, W.heap = wr.heap → Calls Tryz.prog 121 #[.slice Al nl cl, .agg #[.int .i64 x.kind, .string (bs x.fr), .string (bs x.tt), .int .i64 (x.node : Int)]] W (EnPost W (if lastL d br j = [] then none else Al) (lastL d br (j + 1)))) := Lib.hid fun W hWe => by
          rw [HY.out.1]
          exact did_walk2 W Al nl cl _ x (last_sort HW.out) (HR.out.kept (by rw [hWe]; exact Nat.le_refl _) fun b off _ _ => by rw [hWe]) HNL.out.1 HNL.out.2.1 HNL.out.2.2.1 hnl6
        have k4 : wr.drew.cell? ⟨db, 4, none⟩ = some (.slice Al nl cl) := HB.out.cell 4
        have k5d : wr.drew.cell? ⟨db, 5, none⟩ = some (.slice (some ⟨bb, off, none⟩) nb c) := k5
        have q0d : wr.drew.cell? ⟨bb, off + j * 4, none⟩ = some (.int .i64 x.kind) := q0
        have q1d : wr.drew.cell? ⟨bb, off + j * 4 + 1, none⟩ = some (.string (bs x.fr)) := q1
        have q2d : wr.drew.cell? ⟨bb, off + j * 4 + 2, none⟩ = some (.string (bs x.tt)) := q2
        have q3d : wr.drew.cell? ⟨bb, off + j * 4 + 3, none⟩ = some (.int .i64 (x.node : Int)) := q3
        clear hx hbv
        go_upto_region 5 with fail
        go_region_law (refine step_calls rfl #[.tmp 23, .tmp 30] #[111, 130] (by rfl) Tryz.func121 (by kernel_rfl) (by kernel_rfl) #[.slice Al nl cl, .agg #[.int .i64 x.kind, .string (bs x.fr), .string (bs x.tt), .int .i64 (x.node : Int)]] (by simp [Act.eval, Act.put]) (KD.out _ rfl) ?_; rintro e1 w5 ⟨hb5, A5, n5, c5, rfl, hn5, hc5, hm5, hr5, ho5⟩; refine ⟨_, rfl, ?_⟩; have hb51 : Below wr.heap.size wr w5 := ⟨hb5.os, hb5.tape, hb5.output, hb5.size, hb5.block⟩; have HB5 := Lib.hid hb51; have HE5 : Hid ((n5 = (lastL d br (j + 1)).length ∧ n5 ≤ c5 ∧ c5 ≤ maxLen) ∧ REn w5 A5 (lastL d br (j + 1)) ∧ ∀ b off, A5 = some ⟨b, off, none⟩ → 0 < n5 → wr.heap.size ≤ b ∨ ∃ off', (if lastL d br j = [] then none else Al) = some ⟨b, off', none⟩) := Lib.hid ⟨⟨hn5, hc5, hm5⟩, hr5, ho5⟩; have p4 : w5.cell? ⟨db, 4, none⟩ = some (.slice Al nl cl) := (HB.out.keep hb51).cell 4; have pf : w5.frozen? ⟨db, 4, none⟩ = false := (HB.out.keep hb51).frozen 4; clear hb5 hn5 hc5 hm5 hr5 ho5 hb51)
        all_goals
          go_wp2_with fail
          go_roundg (gk - 1)
          case rel =>
            have s5 := HB5.out.size
            obtain ⟨⟨e1, e2, e3⟩, e4, e5⟩ := HE5.out
            have hea : EnAt w own A5 (lastL d br (j + 1)) := fun b off e hn => by
              have hn0 : 0 < n5 := by rw [e1]; exact List.length_pos_iff.2 hn
              rcases e5 b off e hn0 with h | ⟨o, h⟩
              · exact .inl (by omega)
              · by_cases hL : lastL d br j = []
                · rw [if_pos hL] at h; cases h
                · rw [if_neg hL] at h
                  exact HE.out b o h hL
            have hndb : ∀ b off, A5 = some ⟨b, off, none⟩ → lastL d br (j + 1) ≠ [] → b ≠ db := fun b off e hn e2 => by
              rcases hea b off e hn with h | h
              · omega
              · rw [e2, HP.out.mark] at h; unfold frz at h; simp at h
            refine ⟨j + 1, g4, A5, n5, c5, by go_num, by omega, Lib.hid ?_, HG, Lib.hid ((HB.out.keep HB5.out).set_ 4 _), Lib.hid ⟨e1, e2, e3, ?_⟩, Lib.hid (e4.kept2 (by simp) fun b off e hn hb => Below.heap_setCell w5 ⟨db, 4, none⟩ _ b (hndb b off e hn)), Lib.hid hea, Lib.hid ?_, Lib.hid ((HS.out.below HB5.out fun k hk => by have := hk.1; omega).set_ (p := ⟨db, 4, none⟩) (fun h => h.2 rfl) _)⟩
            · rw [HY.out.2]
              exact (HX.out.below HB5.out fun k e => HX.out.lt e).same (by simp) fun k e => Below.heap_setCell w5 ⟨db, 4, none⟩ _ k (by have := HG.out k e; show k ≠ db; omega)
            · have h1 := len_didE (L := lastL d br j) (c := x)
              rw [← HY.out.1] at h1
              have h2 := HNL.out
              split at h1 <;> omega
            · intro b off e hn e6
              have hn0 : 0 < n5 := by rw [e1]; exact List.length_pos_iff.2 hn
              rcases e5 b off e hn0 with h | ⟨o, h⟩
              · have := HX.out.lt e6; omega
              · by_cases hL : lastL d br j = []
                · rw [if_pos hL] at h; cases h
                · rw [if_neg hL] at h
                  exact HNE.out b o h hL e6
          case measure => omega
      | false =>
        have HY := Lib.hid (last_no hx hbv)
        have HLR : Hid (((lastR d br j).map rcV).flatten.length ≤ 40000) := Lib.hid (by rw [flat_len (rc_all _), List.length_map]; have := lastR_le (d := d) (br := br) (j := j); have := HN.out; omega)
        have hba := (Below.refl wr.heap.size wr).alloc (Nat.le_refl _) (.cells #[.int .i64 x.kind, .string (bs x.fr), .string (bs x.tt), .int .i64 (x.node : Int)] 130)
        have HX1 := Lib.hid (HX.out.below hba fun k hk => HX.out.lt hk)
        have HNW := Lib.hid (news_of wr 130 [.int .i64 x.kind, .string (bs x.fr), .string (bs x.tt), .int .i64 (x.node : Int)])
        have HBA := Lib.hid hba
        clear hba hx hbv
        go_upto_region 6 with fail
        go_wp2_with (at_builtin; refine wpList_appX _ uxKc (.tmp 34) (.tmp 42) rfl rfl rfl HX1.out (some ⟨wr.heap.size, 0, none⟩) 1 1 rfl [.int .i64 x.kind, .string (bs x.fr), .string (bs x.tt), .int .i64 (x.node : Int)] rfl (fun h => by cases h) HNW.out (rc_one x) (by have := HLR.out; omega) ?_; intro v7 g7 w7 hX7 hG7 ho7; obtain ⟨A7, n7, c7, rfl, -⟩ := hX7.sl; have HX7 := Lib.hid hX7; have HG7 := Lib.hid hG7; have HO7 := Lib.hid ho7; clear hX7 hG7 ho7)
        go_roundg (gk - 1)
        case rel =>
          have hg47 : ∀ k, g7 = some k → g4 = some k ∨ wr.heap.size ≤ k := fun k e => by
            rcases HO7.out with h7 | h7
            · exact .inl (h7.symm.trans e)
            · rw [h7] at e
              injection e with e
              simp at e
              exact .inr (by omega)
          have hkeep : ∀ k, k < wr.heap.size → g4 ≠ some k → w7.heap[k]? = wr.heap[k]? := fun k hk hne =>
            (HG7.out.block k (by simp; omega) (fun e => hne e.symm)).trans (HBA.out.block k hk)
          have s7 : wr.heap.size ≤ w7.heap.size := Nat.le_trans HBA.out.size HG7.out.size
          refine ⟨j + 1, g7, Al, nl, cl, by go_num, by omega, Lib.hid (by rw [HY.out.2, List.map_append, List.flatten_append]; simpa [rcV] using HX7.out), Lib.hid fun k e => ?_, Lib.hid (HB.out.at_ (hkeep db HB.out.lt fun e => by have := HG.out db e; omega)), Lib.hid (by rw [HY.out.1]; have := HNL.out; exact ⟨this.1, this.2.1, this.2.2.1, by omega⟩), Lib.hid ?_, Lib.hid (by rw [HY.out.1]; exact HE.out), Lib.hid ?_, Lib.hid ⟨HG7.out.os.trans (HBA.out.os.trans HS.out.os), HG7.out.tape.trans (HBA.out.tape.trans HS.out.tape), HG7.out.output.trans (HBA.out.output.trans HS.out.output), Nat.le_trans hsw s7, fun k hk => (hkeep k (by have := hk.1; omega) (fun e => by have := HG.out k e; have := hk.1; omega)).trans (HS.out.block k hk)⟩⟩
          · rcases hg47 k e with h | h
            · exact HG.out k h
            · omega
          · rw [HY.out.1]
            exact HR.out.kept2 s7 fun b off e hn hb => hkeep b hb (HNE.out b off e hn)
          · rw [HY.out.1]
            intro b off e hn e6
            rcases hg47 b e6 with h | h
            · exact HNE.out b off e hn h
            · have := HR.out.blk e hn; omega
        case measure => omega
    · have hlt1 : ¬ (j : Int) < (nb : Int) := by omega
      obtain rfl : j = nb := by omega
      have f5 := HB.out.frozen 5
      obtain ⟨A4, n4, c4, rfl, -⟩ := HX.out.sl
      go_wp2_with fail
      refine bodyPost_ret (res0 rfl _ _ _) rfl ?_
      rw [hF.out]
      obtain ⟨e1, e2, e3, -⟩ := HNL.out
      exact rlast_end HP.out HS.out HB.out e1 e2 e3 HR.out HE.out HX.out HG.out HNE.out
end Go.Proofs.YtbpooaicmjkemaaGreatDoor
