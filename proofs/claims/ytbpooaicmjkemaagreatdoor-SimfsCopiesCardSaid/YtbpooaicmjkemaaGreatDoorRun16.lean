/-
  Several texts in one (merge.py): SfRLs, SfRAs. Conditions: each part names its own.
-/
import Derived.Test.YtbpooaicmjkemaaGreatDoorRun15
/-! The walk of the document's List. Conditions: the sizes. -/
namespace Go.Proofs.YtbpooaicmjkemaaGreatDoor
open Go.RowKit Go.Maps
set_option linter.unusedVariables false
def lsG (L : Es) (dir : Tx) (j : Nat) : List Tx := ((L.take j).filter fun e => decide (dirOf e.1 = dir)).map fun e => nameOf e.1
theorem lsG_succ {L : Es} {dir : Tx} {j : Nat} {e : Tx × Nat} (he : L[j]? = some e) : lsG L dir (j + 1) = if dirOf e.1 = dir then lsG L dir j ++ [nameOf e.1] else lsG L dir j := by
  obtain ⟨h1, h2⟩ := List.getElem?_eq_some_iff.1 he
  unfold lsG
  rw [List.take_succ_eq_append_getElem h1, h2, List.filter_append, List.map_append]
  by_cases h : dirOf e.1 = dir
  · rw [if_pos h, List.filter_cons, if_pos (by simpa using h)]; rfl
  · rw [if_neg h, List.filter_cons, if_neg (by simpa using h)]; simp
theorem lsG_le (L : Es) (dir : Tx) (j : Nat) : (lsG L dir j).length ≤ L.length := by
  unfold lsG
  rw [List.length_map]
  exact Nat.le_trans (List.length_filter_le _ _) (by rw [List.length_take]; omega)
set_option maxRecDepth 100000 in
set_option maxHeartbeats 2000000 in
theorem rList_walk {z db : Nat} {w : World} {own : Nat → Nat × Nat} {d : Dk} {q : RParts} (h : RSt z w own db d q) (hd : d.dirs.length ≤ 1000000) (hl : d.now.length ≤ 1000000) (hp : ∀ e ∈ d.now, e.1.length ≤ maxLen) (dir : Tx) :
    Calls Tryz.prog 70 #[ptrV db, .string (bs dir)] w (ListPost w (lsM d dir) (lsE d dir)) := by
  obtain ⟨Ad, cd, hvd, -, -, hrd⟩ := h.rest.dirs.sx
  have k1 : w.cell? ⟨db, 1, none⟩ = some (.slice Ad d.dirs.length cd) := by rw [← hvd]; exact h.blk.cell 1
  have KD := Lib.hid (risdir_walk w db Ad _ cd d.dirs k1 rfl hrd dir hd)
  obtain ⟨A, c, hve, hc, hcm, hr, -⟩ := h.rest.now.en
  obtain ⟨n, hn⟩ : ∃ n, n = d.now.length := ⟨_, rfl⟩
  have HB := Lib.hid h.blk
  have k3 : w.cell? ⟨db, 3, none⟩ = some (.slice A n c) := by rw [hn, ← hve]; exact h.blk.cell 3
  have k6 : w.cell? ⟨db, 6, none⟩ = some (.bool d.off) := h.blk.cell 6
  have HR := Lib.hid hr
  have HN := Lib.hid hn
  have HP := Lib.hid hp
  have hln : n ≤ 1000000 := by omega
  obtain ⟨E, hE⟩ : ∃ E, lsE d dir = E := ⟨_, rfl⟩
  obtain ⟨G, hG⟩ : ∃ G, lsM d dir = G := ⟨_, rfl⟩
  rw [hE, hG]
  unfold lsM at hG
  rw [hE] at hG
  obtain ⟨F, hF⟩ : ∃ F, d.dirs.contains dir = F := ⟨_, rfl⟩
  rw [hF] at KD
  unfold lsE at hE
  rw [hF] at hE
  unfold ptrV at KD ⊢
  by_cases ho : d.off = true
  · rw [if_pos ho] at hE
    subst hE
    obtain rfl : [] = G := by rw [← hG]; rfl
    rw [ho] at k6
    clear h hvd hrd hve hc hcm hr hn hd hl hp hG hF ho k1 k3
    go_enter Tryz.func70, Tryz.ntmps70
    go_wp2_with fail
    refine KD.out.mono ?_
    rintro e w2 ⟨rfl, rfl⟩
    go_wp2_with fail
    go_ret2
    exact ⟨Below.refl _ _, none, _, rfl, OwnX.nil _ none, fun k h => by cases h⟩
  rw [if_neg ho] at hE
  have ho2 : d.off = false := by simpa using ho
  rw [ho2] at k6
  cases F with
  | false =>
    rw [if_pos rfl] at hE
    subst hE
    obtain rfl : [] = G := by rw [← hG]; rfl
    clear h hvd hrd hve hc hcm hr hn hd hl hp hG hF ho ho2 k1 k3
    go_enter Tryz.func70, Tryz.ntmps70
    go_wp2_with fail
    refine KD.out.mono ?_
    rintro e w2 ⟨rfl, rfl⟩
    go_wp2_with fail
    go_ret2
    exact ⟨Below.refl _ _, none, _, rfl, OwnX.nil _ none, fun k h => by cases h⟩
  | true =>
    rw [if_neg (by decide)] at hE
    subst hE
    have HG : Hid (lsG d.now dir n = G) := Lib.hid (by rw [← hG, if_pos rfl, hn]; unfold lsG listM; rw [List.take_length])
    clear h hvd hrd hve hc hcm hr hn hd hl hp hG hF ho ho2 k1
    go_enter Tryz.func70, Tryz.ntmps70
    go_wp2_with fail
    refine KD.out.mono ?_
    rintro e w2 ⟨rfl, rfl⟩
    clear KD
    go_upto_region 8 with fail
    go_loopg [7, 8] n (fun k s7 s8 wr => ∃ (j : Nat) (g : Option Nat), s8 = .int .i64 (j : Int) ∧ j + k = n ∧ Hid (OwnX 1 wr g s7 ((lsG d.now dir j).map stV)) ∧ Hid (∀ k, g = some k → w2.heap.size ≤ k) ∧ Hid (Below w2.heap.size w2 wr))
    case atStart => exact ⟨0, none, rfl, by omega, Lib.hid (OwnX.nil _ none), Lib.hid (fun k h => by cases h), Lib.hid (Below.refl _ _)⟩
    case round =>
      obtain ⟨j, g, rfl, hj, HX, HO, HW⟩ := hrel
      have y3 : wr.cell? ⟨db, 3, none⟩ = some (.slice A n c) := (HW.out.cell (p := ⟨db, 3, none⟩) HB.out.lt).trans k3
      by_cases hlt : j < n
      · have hlt1 : (j : Int) < (n : Int) := by omega
        obtain ⟨x, hx⟩ : ∃ x, d.now[j]? = some x := ⟨_, List.getElem?_eq_getElem (by rw [← HN.out]; exact hlt)⟩
        obtain ⟨b, off, hA, hbl, c0, -⟩ := HR.out.at_ hx
        have KP := Lib.hid (rdir_walk x.1 wr (HP.out x (List.mem_of_getElem? hx)))
        have HS := Lib.hid (lsG_succ (dir := dir) hx)
        have HLE := Lib.hid (lsG_le d.now dir j)
        have hq : ((bs (dirOf x.1)).toList == (bs dir).toList) = decide (dirOf x.1 = dir) := bs_eqB
        subst hA
        have z0 : wr.cell? ⟨b, off + j * 2, none⟩ = some (.string (bs x.1)) := (HW.out.cell (p := ⟨b, off + j * 2, none⟩) hbl).trans c0
        clear c0 hx hbl k3
        go_upto_region 10 with fail
        go_wp2_with fail
        refine KP.out.mono ?_
        rintro e w3 ⟨rfl, q3, rfl⟩
        have HW3 : Hid (Below w2.heap.size w2 (wr.drewN q3)) := Lib.hid (by have h := HW.out; exact ⟨h.os, h.tape, h.output, h.size, h.block⟩)
        have HX3 : Hid (OwnX 1 (wr.drewN q3) g _ _) := Lib.hid HX.out
        clear KP HX HW y3 z0
        generalize wr.drewN q3 = w3 at *
        obtain ⟨A7, n7, c7, rfl, -⟩ := HX3.out.sl
        by_cases he : dirOf x.1 = dir
        · rw [decide_eq_true he] at hq
          rw [if_pos he] at HS
          clear he
          go_wp2_with (at_builtin; (refine wpList_appX _ uxS (.tmp 46) (.tmp 48) rfl rfl rfl (HX3.out.same (by simp) (fun k hk => Below.heap_alloc _ _ k (HX3.out.lt hk))) (some ⟨w3.heap.size, 0, none⟩) 1 1 rfl [.string (bs (nameOf x.1))] rfl (fun h => by cases h) (news_of w3 9 [.string (bs (nameOf x.1))]) (oneS [nameOf x.1]) (by have := HLE.out; have h2 := HN.out; rw [List.length_map]; omega) ?_; intro v4 g4 w4 hX4 hG4 ho4; have HX4 := Lib.hid hX4; have HB4 := Lib.hid (belowX (HW3.out.alloc HW3.out.size (.cells #[.string (bs (nameOf x.1))] 9)) hG4 HO.out (by simp; exact Nat.le_succ_of_le HW3.out.size)); have HO4 : Hid (∀ k, g4 = some k → w2.heap.size ≤ k) := Lib.hid (fun k hk => by rcases ho4 with h | h; (rw [h] at hk; exact HO.out k hk); (rw [h] at hk; cases hk; simp; exact Nat.le_succ_of_le HW3.out.size)); clear hX4 hG4 ho4))
          go_roundg (gk - 1)
          case rel => exact ⟨j + 1, g4, by go_num, by omega, Lib.hid (by rw [HS.out, List.map_append]; exact HX4.out), HO4, HB4⟩
          case measure => omega
        · rw [decide_eq_false he] at hq
          rw [if_neg he] at HS
          clear he
          go_wp2_with fail
          go_roundg (gk - 1)
          case rel => exact ⟨j + 1, g, by go_num, by omega, Lib.hid (by rw [HS.out]; exact HX3.out), HO, HW3⟩
          case measure => omega
      · have hlt1 : ¬ (j : Int) < (n : Int) := by omega
        obtain rfl : j = n := by omega
        rw [HG.out] at HX
        obtain ⟨A7, n7, c7, rfl, -⟩ := HX.out.sl
        go_wp2_with fail
        go_ret2
        exact ⟨HW.out, g, _, rfl, HX.out, HO.out⟩
end Go.Proofs.YtbpooaicmjkemaaGreatDoor

/-! Putting the document's disk together again, of which a part has changed. No condition. -/
namespace Go.Proofs.YtbpooaicmjkemaaGreatDoor
open Go.RowKit Go.Maps
set_option linter.unusedVariables false
/-- what a deed leaves of the document's disk -/
def ROpPost (z : Nat) (w : World) (own : Nat → Nat × Nat) (db : Nat) (r : Dk × Int) (e : Ending) (w' : World) : Prop :=
  ∃ own', RDisk z w' own' db r.1 ∧ e = .returned (.int .i64 r.2) ∧ Turn (isD z) w w' own own'
def REntPost (z : Nat) (w : World) (own : Nat → Nat × Nat) (db : Nat) (d' : Dk) (e : Ending) (w' : World) : Prop :=
  ∃ own', RDisk z w' own' db d' ∧ Turn (isD z) w w' own own' ∧ e = .returned (.tuple #[])
theorem RSt.below {z db : Nat} {w w' : World} {own : Nat → Nat × Nat} {d : Dk} {q : RParts} (h : RSt z w own db d q) (hb : Below w.heap.size w w') : RSt z w' own db d q :=
  h.goes (keep := fun _ => True) ⟨hb.size, fun k hk _ => ⟨hb.block k hk, rfl⟩⟩ trivial fun _ _ => trivial
theorem RDisk.below {z db : Nat} {w w' : World} {own : Nat → Nat × Nat} {d : Dk} (h : RDisk z w own db d) (hb : Below w.heap.size w w') : RDisk z w' own db d := by
  obtain ⟨q, h⟩ := h
  exact ⟨q, h.below hb⟩
theorem below_drewN (w : World) (n : Nat) : Below w.heap.size w (w.drewN n) := ⟨rfl, rfl, rfl, Nat.le_refl _, fun _ _ => rfl⟩
theorem turn_only {z db : Nat} {w w' : World} {own : Nat → Nat × Nat} (hm : own db = (10 * z + 1, 0)) (ho : Only db w w') : Turn (isD z) w w' own own :=
  ⟨ho.os, ho.tape, ho.output, ho.size, fun k hk hn => ho.block k hk (fun e => hn (by
    injection e with e
    rw [e, hm]
    exact ⟨by simp, by simp⟩)), fun k hk _ => rfl⟩
theorem ROpPost.sw {z db : Nat} {w wb w' : World} {own : Nat → Nat × Nat} {q : RParts} {r : Dk × Int} {e : Ending} (hm : own db = (10 * z + 1, 0)) (hb : Below w.heap.size w wb) (h : RSwPost z wb own db q r e w') : ROpPost z w own db r e w' :=
  ⟨own, ⟨q, h.1⟩, h.2.2, (Turn.of_below hb fun _ _ => rfl).trans (turn_only hm h.2.1)⟩
theorem ROpPost.bl {z db : Nat} {w w1 : World} {own : Nat → Nat × Nat} {d : Dk} {q : RParts} (h : RSt z w own db d q) (hb : Below w.heap.size w w1) (c : Int) : ROpPost z w own db (d, c) (.returned (.int .i64 c)) w1 :=
  ⟨own, ⟨q, h.below hb⟩, rfl, Turn.of_below hb fun _ _ => rfl⟩
/-- behind a switch: an entry change -/
theorem ROpPost.ent {z db : Nat} {w w1 w2 : World} {own own1 : Nat → Nat × Nat} {d2 : Dk} {e : Ending} (ht : Turn (isD z) w w1 own own1) (h : REntPost z w1 own1 db d2 e w2) : ROpPost z w own db (d2, 0) (.returned (.int .i64 0)) w2 := by
  obtain ⟨own', hd, ht2, -⟩ := h
  exact ⟨own', hd, rfl, ht.trans ht2⟩
theorem REntPost.ent {z db : Nat} {w w1 w2 : World} {own own1 : Nat → Nat × Nat} {d2 : Dk} {e : Ending} (ht : Turn (isD z) w w1 own own1) (h : REntPost z w1 own1 db d2 e w2) : REntPost z w own db d2 e w2 := by
  obtain ⟨own', hd, ht2, he⟩ := h
  exact ⟨own', hd, ht.trans ht2, he⟩
/-- bytes of a block that is not the disk's -/
theorem RB.turn {z B : Nat} {w w' : World} {own own' : Nat → Nat × Nat} {A : Option Addr} {l : Tx} (h : RB w B A l) (hB : B ≤ w.heap.size) (hz : ∀ k, k < B → ¬ isD z (own k)) (ht : Turn (isD z) w w' own own') : RB w' B A l :=
  h.below ⟨ht.os, ht.tape, ht.output, ht.size, fun k hk => ht.block k (Nat.lt_of_lt_of_le hk hB) (hz k hk)⟩
/-- but for the disk's own block, the nodes' row and node i's waits -/
def butNode (z i : Nat) (t : Nat × Nat) : Prop := t ≠ (10 * z + 1, 0) ∧ t ≠ (10 * z + 1, 1) ∧ t ≠ (10 * z + 5, i)
theorem butNode_frz {z i : Nat} : butNode z i frz := by unfold butNode frz; simp
theorem OwnX.fz {w : World} {own : Nat → Nat × Nat} {g : Option Nat} {v : Value} {l : Tx} (h : OwnX 1 w g v (Lib.byteCells l)) (ho : ∀ k, g = some k → own k = frz) : FzV w own v l := by
  obtain ⟨A, n, c, rfl, h1, h2, h3⟩ := h.sl
  rw [byteCells_len, Nat.mul_one] at h1
  subst h1
  refine ⟨A, c, rfl, h2, h3, ?_⟩
  rcases Nat.eq_zero_or_pos l.length with h0 | h0
  · exact .inl (List.eq_nil_of_length_eq_zero h0)
  · obtain ⟨g', off, e, rfl, hl, hc, -⟩ := h.at_ (by omega)
    refine .inr ⟨g', off, rfl, ho g' e, hl, fun i hi => ?_⟩
    rw [hc i (by rw [byteCells_len]; exact hi), bt_getElem hi]
    simp [Lib.byteCells, hi]
theorem rnode_fin {z db i : Nat} {w w' : World} {own f : Nat → Nat × Nat} {d d' : Dk} {q : RParts} {m' : NdV} {x' : Nd} {vn' : Value} {gn' : Option Nat} (h : RSt z w own db d q) (hi : i < d.nodes.length) (hs : Safe (fun k => k < w.heap.size ∧ butNode z i (own k)) w w')
    (hN : OwnX 3 w' gn' vn' ((q.ms.set i m').map ndC).flatten) (hgn : ∀ k, gn' = some k → newM w own f k = (10 * z + 1, 1)) (hnd : RNd z w' (newM w own f) i m' x') (hC : Blk w' db 114 (({ q with vn := vn' } : RParts).cells d')) (e : SameD { d with nodes := d.nodes.set i x' } d') :
    RSt z w' (newM w own f) db d' { q with ms := q.ms.set i m', vn := vn', gn := gn' } ∧ Turn (isD z) w w' own (newM w own f) := by
  have r := h.rest
  have hdm := h.mark
  have hdw := h.blk.lt
  have hg : Goes (butNode z i) w w' own (newM w own f) := hs.goes fun k h1 h2 => ⟨h1, h2⟩
  have m4 : ∀ k, q.gc = some k → butNode z i (own k) := fun k e => by rw [r.mc k e]; unfold butNode; simp
  refine ⟨⟨hC, (newM_old hdw).trans hdm, RRest.sameD (d := { d with nodes := d.nodes.set i x' }) ⟨r.dirs.goes hg butNode_frz, hN, hgn, ?_, r.now.goes hg butNode_frz, r.lasts.goes hg butNode_frz, r.chs.same hg.size fun g e => (hg.block g (r.chs.lt e) (m4 g e)).1, fun k e => (hg.block k (r.chs.lt e) (m4 k e)).2.trans (r.mc k e), fun j m x hm hx => ?_⟩ e⟩, hs.turn fun k h1 h2 => ⟨h1, fun e => h2 (by rw [e]; exact ⟨by simp, by simp⟩), fun e => h2 (by rw [e]; exact ⟨by simp, by simp⟩), fun e => h2 (by rw [e]; exact ⟨by simp, by simp⟩)⟩⟩
  · show (q.ms.set i m').length = (d.nodes.set i x').length
    rw [List.length_set, List.length_set]; exact r.len
  · have hm : (q.ms.set i m')[j]? = some m := hm
    have hx : (d.nodes.set i x')[j]? = some x := hx
    by_cases hj : i = j
    · subst hj
      rw [List.getElem?_set_self (by rw [r.len]; exact hi)] at hm
      rw [List.getElem?_set_self hi] at hx
      obtain rfl := Option.some.inj hm
      obtain rfl := Option.some.inj hx
      exact hnd
    · rw [List.getElem?_set_ne hj] at hm hx
      exact (r.nd j m x hm hx).goes hg butNode_frz ⟨by simp, by simp, fun e => hj (by injection e with _ e; exact e.symm)⟩
/-- cells 0, 1, 2 of node i, set -/
theorem nd_set (L : List NdV) (i : Nat) (m m' : NdV) (k : Nat) (u : Value) (hm : L[i]? = some m) (hk : k < 3) (he : ndC m' = (ndC m).set k u) : ((L.map ndC).flatten).set (i * 3 + k) u = ((L.set i m').map ndC).flatten := by
  have hi := (List.getElem?_eq_some_iff.1 hm).1
  rw [List.map_set, he]
  exact flat_set (R := L.map ndC) i k (ndC m) u (nd_all L) hk (by rw [List.getElem?_map, hm]; rfl)
/-- a disk of which the entries or what waits have changed -/
theorem rst_fin {z db : Nat} {w w' : World} {own f : Nat → Nat × Nat} {d d' : Dk} {q : RParts} {ve vl vc : Value} {gc : Option Nat} (h : RSt z w own db d q) (hs : Safe (fun k => k < w.heap.size ∧ own k ≠ (10 * z + 1, 0) ∧ own k ≠ (10 * z + 1, 4)) w w')
    (hC : Blk w' db 114 (({ q with ve := ve, vl := vl, vc := vc } : RParts).cells d')) (e1 : d'.dirs = d.dirs) (e2 : d'.nodes = d.nodes) (hn : FzE w' (newM w own f) ve d'.now) (hl : FzE w' (newM w own f) vl d'.lasts)
    (hX : OwnX 4 w' gc vc (d'.waits.map rcV).flatten) (hgc : ∀ k, gc = some k → newM w own f k = (10 * z + 1, 4)) :
    RSt z w' (newM w own f) db d' { q with ve := ve, vl := vl, vc := vc, gc := gc } ∧ Turn (isD z) w w' own (newM w own f) := by
  have r := h.rest
  have hdm := h.mark
  have hdw := h.blk.lt
  have hg : Goes (fun t => t ≠ (10 * z + 1, 0) ∧ t ≠ (10 * z + 1, 4)) w w' own (newM w own f) := hs.goes fun k h1 h2 => ⟨h1, h2⟩
  have fzk : (fun t : Nat × Nat => t ≠ (10 * z + 1, 0) ∧ t ≠ (10 * z + 1, 4)) frz := by unfold frz; simp
  have m1 : ∀ k, q.gn = some k → own k ≠ (10 * z + 1, 0) ∧ own k ≠ (10 * z + 1, 4) := fun k e => by rw [r.mn k e]; simp
  refine ⟨⟨hC, (newM_old hdw).trans hdm, ⟨by rw [e1]; exact r.dirs.goes hg fzk, r.nodes.same hg.size fun g e => (hg.block g (r.nodes.lt e) (m1 g e)).1, fun k e => (hg.block k (r.nodes.lt e) (m1 k e)).2.trans (r.mn k e), by rw [e2]; exact r.len, hn, hl, hX, hgc, fun j m x hm hx => ?_⟩⟩, hs.turn fun k h1 h2 => ⟨h1, fun e => h2 (by rw [e]; exact ⟨by simp, by simp⟩), fun e => h2 (by rw [e]; exact ⟨by simp, by simp⟩)⟩⟩
  exact (r.nd j m x hm (by rw [← e2]; exact hx)).goes hg fzk ⟨by simp, by simp⟩
theorem FzE.of {w : World} {own : Nat → Nat × Nat} {A : Option Addr} {n c : Nat} {L : Es} (h1 : n = L.length) (h2 : n ≤ c) (h3 : c ≤ maxLen) (hr : REn w A L) (hm : ∀ b off, A = some ⟨b, off, none⟩ → L ≠ [] → own b = frz) : FzE w own (.slice A n c) L := by
  subst h1
  refine ⟨A, c, rfl, h2, h3, ?_⟩
  rcases hr with h | ⟨b, off, rfl, hb, hc⟩
  · exact .inl h
  · by_cases hn : L = []
    · exact .inl hn
    · exact .inr ⟨b, off, rfl, hm b off rfl hn, hb, hc⟩
/-- its block stays -/
theorem REn.kept {w w' : World} {A : Option Addr} {L : Es} (h : REn w A L) (hs : w.heap.size ≤ w'.heap.size) (hb : ∀ b off, A = some ⟨b, off, none⟩ → b < w.heap.size → w'.heap[b]? = w.heap[b]?) : REn w' A L := by
  rcases h with h | ⟨b, off, rfl, hlt, hc⟩
  · exact .inl h
  · have e := hb b off rfl hlt
    exact .inr ⟨b, off, rfl, Nat.lt_of_lt_of_le hlt hs, fun i x hx => ⟨(World.cell?_of_block e).trans (hc i x hx).1, (World.cell?_of_block e).trans (hc i x hx).2⟩⟩
end Go.Proofs.YtbpooaicmjkemaaGreatDoor
