/-
  The walk of the document's Create. Conditions: the lengths.
-/
import Derived.Test.YtbpooaicmjkemaaGreatDoorRun17
namespace Go.Proofs.YtbpooaicmjkemaaGreatDoor
open Go.RowKit Go.Maps
set_option linter.unusedVariables false
theorem uxN : UX Tryz.prog 110 117 3 := by
  obtain ⟨i, h1, h2, h3, h4⟩ := info_parts (show (Tryz.prog.info? 117).map (fun i => (i.zero, i.size, i.bytes)) = some (some (.agg #[.slice none 0 0, .slice none 0 0, .slice none 0 0]), 3, 72) by kernel_rfl)
  exact ⟨Tryz.underlying110, ⟨i, _, h1, h2, rfl, h3, by omega⟩, by omega⟩
def nv0 : NdV := ⟨.slice none 0 0, .slice none 0 0, .slice none 0 0, none, []⟩
def nodeW (w : World) : World := w.alloc (.cells #[.slice none 0 0, .slice none 0 0, .slice none 0 0] 117)
theorem rmore_end {z db : Nat} {w w7 : World} {own : Nat → Nat × Nat} {d : Dk} {q : RParts} (h : RSt z w own db d q) {g7 : Option Nat} {v7 : Value} (hX : OwnX 3 w7 g7 v7 ((q.ms.map ndC).flatten ++ [.slice none 0 0, .slice none 0 0, .slice none 0 0])) (hG : (nodeW w).grownBy w7 q.gn)
    (ho : g7 = q.gn ∨ g7 = some (nodeW w).heap.size) :
    RSt z (w7.setCell ⟨db, 2, none⟩ v7) (newM w own fun k => if g7 = some k then (10 * z + 1, 1) else (0, 0)) db (moreM d) { q with ms := q.ms ++ [nv0], vn := v7, gn := g7 } ∧ Turn (isD z) w (w7.setCell ⟨db, 2, none⟩ v7) own (newM w own fun k => if g7 = some k then (10 * z + 1, 1) else (0, 0)) := by
  have r := h.rest
  have hdm := h.mark
  have hdw := h.blk.lt
  have hs1 : (nodeW w).heap.size = w.heap.size + 1 := by unfold nodeW; simp
  have hs7 : w.heap.size + 1 ≤ w7.heap.size := by have := hG.size; omega
  have hsW : (w7.setCell ⟨db, 2, none⟩ v7).heap.size = w7.heap.size := by simp
  have st : ∀ k, k < w.heap.size → q.gn ≠ some k → k ≠ db → (w7.setCell ⟨db, 2, none⟩ v7).heap[k]? = w.heap[k]? := fun k h1 h2 h3 =>
    (Below.heap_setCell w7 ⟨db, 2, none⟩ v7 k h3).trans ((hG.block k (by omega) (fun e => h2 e.symm)).trans (Below.heap_alloc w _ k h1))
  have hgd : q.gn ≠ some db := fun e => by have := r.mn _ e; rw [hdm] at this; simp at this
  have hS : Safe (fun k => k < w.heap.size ∧ own k ≠ (10 * z + 1, 0) ∧ own k ≠ (10 * z + 1, 1)) w (w7.setCell ⟨db, 2, none⟩ v7) :=
    ⟨hG.os, hG.tape, hG.output, by rw [hsW]; omega, fun k ⟨k1, k2, k3⟩ => st k k1 (fun e => k3 (r.mn k e)) (fun e => k2 (by rw [e]; exact hdm))⟩
  have hg : Goes (fun t => t ≠ (10 * z + 1, 0) ∧ t ≠ (10 * z + 1, 1)) w (w7.setCell ⟨db, 2, none⟩ v7) own (newM w own fun k => if g7 = some k then (10 * z + 1, 1) else (0, 0)) := hS.goes fun k k1 k2 => ⟨k1, k2⟩
  have fzk : (fun t : Nat × Nat => t ≠ (10 * z + 1, 0) ∧ t ≠ (10 * z + 1, 1)) frz := by unfold frz; simp
  have m4 : ∀ k, q.gc = some k → own k ≠ (10 * z + 1, 0) ∧ own k ≠ (10 * z + 1, 1) := fun k e => by rw [r.mc k e]; simp
  have hg7 : ∀ k, g7 = some k → q.gn = some k ∨ w.heap.size + 1 ≤ k := fun k e => by
    rcases ho with h7 | h7
    · exact .inl (h7.symm.trans e)
    · rw [h7] at e
      injection e with e
      exact .inr (by omega)
  have hlen : q.ms.length = d.nodes.length := r.len
  refine ⟨⟨?_, (newM_old hdw).trans hdm, ⟨r.dirs.goes hg fzk, ?_, fun k e => ?_, ?_, r.now.goes hg fzk, r.lasts.goes hg fzk, r.chs.same hg.size fun g e => (hg.block g (r.chs.lt e) (m4 g e)).1, fun k e => (hg.block k (r.chs.lt e) (m4 k e)).2.trans (r.mc k e), fun i m x hm hx => ?_⟩⟩, hS.turn fun k h1 h2 => ⟨h1, fun e => h2 (by rw [e]; exact ⟨by simp, by simp⟩), fun e => h2 (by rw [e]; exact ⟨by simp, by simp⟩)⟩⟩
  · have hC : Blk w7 db 114 (q.cells d) := h.blk.at_ ((hG.block db (by omega) (fun e => hgd e.symm)).trans (Below.heap_alloc w _ db hdw))
    exact hC.set_ 2 v7
  · show OwnX 3 _ g7 v7 ((q.ms ++ [nv0]).map ndC).flatten
    rw [List.map_append, List.flatten_append]
    refine OwnX.same (xs := (q.ms.map ndC).flatten ++ ([nv0].map ndC).flatten) (by simpa [nv0, ndC] using hX) (by rw [hsW]; exact Nat.le_refl _) fun k e => Below.heap_setCell w7 ⟨db, 2, none⟩ v7 k ?_
    rcases hg7 k e with h7 | h7
    · exact fun e2 => hgd (by rw [h7]; exact congrArg some e2)
    · show k ≠ db; omega
  · rcases hg7 k e with h7 | h7
    · rw [newM_old (r.nodes.lt h7)]; exact r.mn k h7
    · rw [newM_new (by omega)]; exact if_pos e
  · show (q.ms ++ [nv0]).length = (d.nodes ++ [nd0]).length
    rw [List.length_append, List.length_append, hlen]; rfl
  · have hm : (q.ms ++ [nv0])[i]? = some m := hm
    have hx : (d.nodes ++ [nd0])[i]? = some x := hx
    rcases Nat.lt_or_ge i d.nodes.length with hi | hi
    · rw [List.getElem?_append_left (by omega)] at hm
      rw [List.getElem?_append_left hi] at hx
      exact (r.nd i m x hm hx).goes hg fzk ⟨by simp, by simp⟩
    · have hil : i = d.nodes.length := by
        have := (List.getElem?_eq_some_iff.1 hx).1
        rw [List.length_append] at this
        simp at this; omega
      subst hil
      rw [List.getElem?_append_right (by omega), hlen, Nat.sub_self] at hm
      rw [List.getElem?_append_right (Nat.le_refl _), Nat.sub_self] at hx
      obtain rfl : nv0 = m := by simpa using hm
      obtain rfl : nd0 = x := by simpa using hx
      exact ⟨⟨none, 0, rfl, Nat.le_refl _, by simp [maxLen], .inl rfl⟩, ⟨none, 0, rfl, Nat.le_refl _, by simp [maxLen], .inl rfl⟩, OwnX.nil _ _, ⟨rfl, fun j v y hv _ => by cases hv⟩, fun k e => by cases e⟩
theorem rcrt_ent {z db K : Nat} {w w7 : World} {own : Nat → Nat × Nat} {d : Dk} {q : RParts} (h : RSt z w own db d q) (hw : Wf d K) (hK : K ≤ 9000) {g7 : Option Nat} {v7 : Value} (hX : OwnX 3 w7 g7 v7 ((q.ms.map ndC).flatten ++ [.slice none 0 0, .slice none 0 0, .slice none 0 0])) (hG : (nodeW w).grownBy w7 q.gn)
    (ho : g7 = q.gn ∨ g7 = some (nodeW w).heap.size) (p : Tx) (nd : Nat) :
    Calls Tryz.prog 97 #[.pointer (some ⟨db, 0, none⟩), .agg #[.int .i64 1, .string ⟨#[]⟩, .string (bs p), .int .i64 (nd : Int)]] (w7.setCell ⟨db, 2, none⟩ v7) (REntPost z w own db (enterM (moreM d) ⟨1, [], p, nd⟩)) := by
  obtain ⟨hd, ht⟩ := rmore_end h hX hG ho
  exact (rentry_walk z _ _ db (moreM d) _ hd hw.more (by omega) ⟨1, [], p, nd⟩).mono fun e w9 hp9 => REntPost.ent ht hp9
section
variable {z db K : Nat} {w : World} {own : Nat → Nat × Nat} {d : Dk}
theorem rplace_op (h : RDkI z w own db d K) (hK : K ≤ 8000) (p : Tx) : ∃ A c pl, (∀ q, (w.drewN q).cell? ⟨db, 3, none⟩ = some (.slice A d.now.length c)) ∧ d.now.length ≤ 8000 ∧ ∀ q, Calls Tryz.prog 95 #[.slice A d.now.length c, .string (bs p)] (w.drewN q) fun e w' => e = .returned (.tuple #[.int .i64 (pl : Int), .bool (getE d.now p).isSome]) ∧ ∃ q2, w' = (w.drewN q).drewN q2 := by
  obtain ⟨q, hq⟩ := h.dk
  obtain ⟨A, c, hve, hc, hcm, hr, -⟩ := hq.rest.now.en
  have h1 := h.wf.cpn
  have h2 := h.wf.nk
  refine ⟨A, c, plE d.now p, fun n => by rw [← hve]; exact hq.blk.cell 3, by omega, fun n => ?_⟩
  have := place_walk (w.drewN n) A d.now.length c d.now p (hr.drewN n) rfl (by omega)
  rw [atE_is h.wf.sn] at this
  exact this
theorem RDkI.offc (h : RDkI z w own db d K) : ∀ q, (w.drewN q).cell? ⟨db, 6, none⟩ = some (.bool d.off) := fun q => by
  obtain ⟨q', hq⟩ := h.dk
  exact hq.blk.cell 6
set_option maxRecDepth 100000 in
set_option maxHeartbeats 4000000 in
theorem rcreate_walk (h : RDkI z w own db d K) (hK : K ≤ 8000) (p : Tx) (hp : p.length ≤ maxLen) :
    Calls Tryz.prog 48 #[ptrV db, .string (bs p)] w (ROpPost z w own db (createM d p)) := by
  have H := Lib.hid h
  have KM := Lib.hid (rmay_op h p hp)
  obtain ⟨A, c, pl, hc3, hln, hpl⟩ := rplace_op h hK p
  have KP := Lib.hid hpl
  have H3 := Lib.hid hc3
  have H6 := Lib.hid h.offc
  have KS := Lib.hid (fun w1 (hb : Below w.heap.size w w1) => rstep_op (h.below hb) hK)
  have hl4 : (d.now.length : Int) ≤ 8000 := by omega
  clear hc3 hpl
  -- what each way answers
  have E1 : Hid (d.off = true → createM d p = (d, 10)) := Lib.hid fun e => by unfold createM; rw [if_pos e]
  have E2 : Hid (d.off = false → mayB d.dirs p = false → createM d p = (d, 11)) := Lib.hid fun e1 e2 => by unfold createM; rw [if_neg (by rw [e1]; decide), if_pos e2]
  have E3 : Hid (d.off = false → mayB d.dirs p = true → (getE d.now p).isSome = true → createM d p = (d, 13)) := Lib.hid fun e1 e2 e3 => by
    unfold createM; rw [if_neg (by rw [e1]; decide), if_neg (by rw [e2]; decide), if_pos (by intro e; rw [e] at e3; cases e3)]
  have E4 : Hid (d.off = false → mayB d.dirs p = true → (getE d.now p).isSome = false → 4096 ≤ d.now.length → createM d p = (d, 14)) := Lib.hid fun e1 e2 e3 e4 => by
    unfold createM; rw [if_neg (by rw [e1]; decide), if_neg (by rw [e2]; decide), if_neg (by intro e; apply e; cases hg : getE d.now p with
      | none => rfl
      | some n => rw [hg] at e3; cases e3), if_pos e4]
  have E5 : Hid (d.off = false → mayB d.dirs p = true → (getE d.now p).isSome = false → ¬ 4096 ≤ d.now.length → createM d p = if (stepM d).2 ≠ 0 then stepM d else (enterM (moreM (stepM d).1) ⟨1, [], p, d.nodes.length⟩, 0)) := Lib.hid fun e1 e2 e3 e4 => by
    unfold createM; rw [if_neg (by rw [e1]; decide), if_neg (by rw [e2]; decide), if_neg (by intro e; apply e; cases hg : getE d.now p with
      | none => rfl
      | some n => rw [hg] at e3; cases e3), if_neg e4]
    unfold moreM
    rw [(step_same d).2.1]
  have HW1 : Hid (Wf (stepM d).1 K) := Lib.hid h.wf.step
  have HNL : Hid ((stepM d).1.nodes.length = d.nodes.length ∧ d.nodes.length ≤ K) := Lib.hid ⟨by rw [(step_same d).2.1], h.wf.nk⟩
  cases ho : d.off with
  | true =>
    have E := Lib.hid (E1.out ho)
    rw [ho] at H6
    clear h ho E1 E2 E3 E4 E5 KS
    unfold ptrV at *
    generalize mayB d.dirs p = my at *
    generalize (getE d.now p).isSome = is at *
    go_enter Tryz.func48, Tryz.ntmps48
    go_wp2_with fail
    refine KM.out.mono ?_
    rintro e w1 ⟨rfl, n1, rfl⟩
    have y3 := H3.out n1
    go_wp2_with fail
    refine (KP.out n1).mono ?_
    rintro e w2 ⟨rfl, n2, rfl⟩
    have y6 := H6.out (n1 + n2)
    go_wp2_with fail
    go_ret
    rw [E.out]
    exact ROpPost.same H.out (below_drewN w (n1 + n2)) 10
  | false =>
    rw [ho] at H6
    cases hmy : mayB d.dirs p with
    | false =>
      have E := Lib.hid (E2.out ho hmy)
      rw [hmy] at KM
      clear h ho hmy E1 E2 E3 E4 E5 KS
      unfold ptrV at *
      generalize (getE d.now p).isSome = is at *
      go_enter Tryz.func48, Tryz.ntmps48
      go_wp2_with fail
      refine KM.out.mono ?_
      rintro e w1 ⟨rfl, n1, rfl⟩
      have y3 := H3.out n1
      go_wp2_with fail
      refine (KP.out n1).mono ?_
      rintro e w2 ⟨rfl, n2, rfl⟩
      have y6 := H6.out (n1 + n2)
      go_wp2_with fail
      go_ret
      rw [E.out]
      exact ROpPost.same H.out (below_drewN w (n1 + n2)) 11
    | true =>
      rw [hmy] at KM
      cases his : (getE d.now p).isSome with
      | true =>
        have E := Lib.hid (E3.out ho hmy his)
        rw [his] at KP
        clear h ho hmy his E1 E2 E3 E4 E5 KS
        unfold ptrV at *
        go_enter Tryz.func48, Tryz.ntmps48
        go_wp2_with fail
        refine KM.out.mono ?_
        rintro e w1 ⟨rfl, n1, rfl⟩
        have y3 := H3.out n1
        go_wp2_with fail
        refine (KP.out n1).mono ?_
        rintro e w2 ⟨rfl, n2, rfl⟩
        have y6 := H6.out (n1 + n2)
        go_wp2_with fail
        go_ret
        rw [E.out]
        exact ROpPost.same H.out (below_drewN w (n1 + n2)) 13
      | false =>
        rw [his] at KP
        by_cases hmn : 4096 ≤ d.now.length
        · have E := Lib.hid (E4.out ho hmy his hmn)
          have hmn1 : (d.now.length : Int) ≥ 4096 := by omega
          clear h ho hmy his E1 E2 E3 E4 E5 KS hmn
          unfold ptrV at *
          generalize d.now.length = nl at *
          go_enter Tryz.func48, Tryz.ntmps48
          go_wp2_with fail
          refine KM.out.mono ?_
          rintro e w1 ⟨rfl, n1, rfl⟩
          have y3 := H3.out n1
          go_wp2_with fail
          refine (KP.out n1).mono ?_
          rintro e w2 ⟨rfl, n2, rfl⟩
          have y6 := H6.out (n1 + n2)
          have y32 := H3.out (n1 + n2)
          go_wp2_with fail
          go_ret
          rw [E.out]
          exact ROpPost.same H.out (below_drewN w (n1 + n2)) 14
        · have hmn1 : ¬ (d.now.length : Int) ≥ 4096 := by omega
          have E0 := E5.out ho hmy his hmn
          cases he : (stepM d).2 == 0 with
          | false =>
            have t1 : ((stepM d).2 == 0) = false := he
            have E : Hid (createM d p = ((stepM d).1, (stepM d).2)) := Lib.hid (by rw [E0, if_pos (by simpa using he)])
            clear h ho hmy his E1 E2 E3 E4 E5 hmn E0 he
            unfold ptrV at *
            generalize d.now.length = nl at *
            go_enter Tryz.func48, Tryz.ntmps48
            go_wp2_with fail
            refine KM.out.mono ?_
            rintro e w1 ⟨rfl, n1, rfl⟩
            have y3 := H3.out n1
            go_wp2_with fail
            refine (KP.out n1).mono ?_
            rintro e w2 ⟨rfl, n2, rfl⟩
            have y6 := H6.out (n1 + n2)
            have y32 := H3.out (n1 + n2)
            go_wp2_with fail
            refine (KS.out _ (below_drewN w (n1 + n2))).mono ?_
            rintro e w3 ⟨-, hd1, ho1, rfl⟩
            have HD1 := Lib.hid hd1
            have HO1 := Lib.hid ho1
            clear hd1 ho1 y3 y6 y32
            generalize hsm : (stepM d).2 = se at *
            clear hsm
            go_wp2_with fail
            go_ret
            rw [E.out]
            exact ROpPost.no H.out (below_drewN w (n1 + n2)) HD1.out HO1.out
          | true =>
            have he0 : (stepM d).2 = 0 := by simpa using he
            rw [he0] at KS
            have E : Hid (createM d p = (enterM (moreM (stepM d).1) ⟨1, [], p, d.nodes.length⟩, 0)) := Lib.hid (by rw [E0, if_neg (by rw [he0]; decide)])
            clear h ho hmy his E1 E2 E3 E4 E5 hmn E0 he he0
            unfold ptrV at *
            generalize d.now.length = nl at *
            go_enter Tryz.func48, Tryz.ntmps48
            go_wp2_with fail
            refine KM.out.mono ?_
            rintro e w1 ⟨rfl, n1, rfl⟩
            have y3 := H3.out n1
            go_wp2_with fail
            refine (KP.out n1).mono ?_
            rintro e w2 ⟨rfl, n2, rfl⟩
            have y6 := H6.out (n1 + n2)
            have y32 := H3.out (n1 + n2)
            go_wp2_with fail
            refine (KS.out _ (below_drewN w (n1 + n2))).mono ?_
            rintro e w3 ⟨-, ⟨q, hd1⟩, ho1, rfl⟩
            have HD1 := Lib.hid hd1
            have HO1 := Lib.hid ho1
            obtain ⟨Af, nf, cf, ef, hxf, hnf, hmf⟩ := hd1.rest.nodes.sl
            have hnl : nf = d.nodes.length := by
              have h1 := hd1.rest.len
              rw [flat_len (nd_all _), List.length_map] at hxf
              have := HNL.out.1
              omega
            have c2 : w3.cell? ⟨db, 2, none⟩ = some (.slice Af nf cf) := by rw [← ef]; exact hd1.blk.cell 2
            have c2a : (nodeW w3).cell? ⟨db, 2, none⟩ = some (.slice Af nf cf) := by rw [← ef]; exact (hd1.blk.alloc _).cell 2
            have HA : Hid (OwnX 3 (nodeW w3) q.gn (.slice Af nf cf) (q.ms.map ndC).flatten) := Lib.hid (by
              rw [← ef]
              exact hd1.rest.nodes.below ((Below.refl w3.heap.size w3).alloc (Nat.le_refl _) _) fun k hk => hd1.rest.nodes.lt hk)
            have HLF : Hid ((q.ms.map ndC).flatten.length ≤ 30000) := Lib.hid (by have h1 := HNL.out; have h3 := hd1.rest.len; rw [flat_len (nd_all _), List.length_map]; omega)
            have HGD : Hid (q.gn ≠ some db) := Lib.hid fun e => by have h1 := hd1.rest.mn db e; rw [hd1.mark] at h1; simp at h1
            have HBX : Hid (Blk (nodeW w3) db 114 (q.cells (stepM d).1)) := Lib.hid (hd1.blk.alloc _)
            have HNW := Lib.hid (news_of w3 117 [.slice none 0 0, .slice none 0 0, .slice none 0 0])
            have HNF := Lib.hid hnl
            have hnf8 : nf ≤ 8000 := by have := HNL.out; omega
            clear hd1 ho1 y3 y6 y32 ef hxf hnf hmf hnl KM KP KS
            unfold nodeW at c2a HA
            go_wp2_with (at_builtin; refine wpList_appX _ uxN (.tmp 47) (.tmp 49) rfl rfl rfl HA.out (some ⟨w3.heap.size, 0, none⟩) 1 1 rfl [.slice none 0 0, .slice none 0 0, .slice none 0 0] rfl (fun h => by cases h) HNW.out (fun u hu => by simp only [List.mem_cons, List.not_mem_nil, or_false] at hu; rcases hu with rfl | rfl | rfl <;> rfl) (by have := HLF.out; omega) ?_; intro v7 g7 w7 hX7 hG7 ho7; have HX7 := Lib.hid hX7; have HG7 := Lib.hid hG7; have HO7 := Lib.hid ho7; have hB7 := HBX.out.grown hG7 (fun e => HGD.out e.symm); obtain ⟨A7, n7, c7, rfl, hxl7, hn7, hm7⟩ := hX7.sl; have k7 : w7.cell? ⟨db, 2, none⟩ = some q.vn := hB7.cell 2; have fk7 := hB7.frozen 2; have h77 : n7 = nf + 1 := (by have h1 := HA.out.form.1; rw [List.length_append] at hxl7; simp only [List.length_cons, List.length_nil] at hxl7; omega); subst h77; have hw77 : IntKind.i64.wrap (((nf + 1 : Nat) : Int) - 1) = (nf : Int) := (by rw [IntWalk.i64_in _ (by omega)]; omega); clear hX7 hG7 ho7 hB7 hxl7 hn7 hm7)
            have KE := rcrt_ent HD1.out HW1.out (by omega) HX7.out HG7.out HO7.out p nf
            refine KE.mono ?_
            rintro e w9 hp9
            have HP9 := Lib.hid (ROpPost.ent2 H.out (below_drewN w (n1 + n2)) HO1.out hp9)
            obtain ⟨-, -, -, rfl⟩ := hp9
            clear KE
            rw [HNF.out] at HP9
            generalize hd9 : enterM (moreM (stepM d).1) ⟨1, [], p, d.nodes.length⟩ = d9 at *
            clear hd9
            go_wp2_with fail
            go_ret
            rw [E.out]
            exact HP9.out
end
end Go.Proofs.YtbpooaicmjkemaaGreatDoor
