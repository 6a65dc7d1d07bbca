/-
  Several texts in one (merge.py): SfRSt, SfRSw, SfRUs. Conditions: each part names its own.
-/
import Derived.Test.YtbpooaicmjkemaaGreatDoorRun12
/-! The document's disk as it lies in memory, and whose each block is. No condition. -/
namespace Go.Proofs.YtbpooaicmjkemaaGreatDoor
open Go.RowKit Go.Maps
set_option linter.unusedVariables false
/-! ### entries that are never written again -/
def FzE (w : World) (own : Nat → Nat × Nat) (v : Value) (L : Es) : Prop :=
  ∃ A c, v = .slice A L.length c ∧ L.length ≤ c ∧ c ≤ maxLen ∧ (L = [] ∨ ∃ b off, A = some ⟨b, off, none⟩ ∧ own b = frz ∧ b < w.heap.size ∧ ∀ i e, L[i]? = some e → w.cell? ⟨b, off + i * 2, none⟩ = some (.string (bs e.1)) ∧ w.cell? ⟨b, off + i * 2 + 1, none⟩ = some (.int .i64 (e.2 : Int)))
/-! ### a file of the document's -/
structure NdV where
  vn : Value
  vl : Value
  vw : Value
  gw : Option Nat
  vs : List Value
def ndC (m : NdV) : List Value := [m.vn, m.vl, m.vw]
theorem nd_all (L : List NdV) : ∀ r ∈ L.map ndC, r.length = 3 := by
  intro r hr
  obtain ⟨c, -, rfl⟩ := List.mem_map.1 hr
  rfl
theorem rc_all (L : List Ch) : ∀ r ∈ L.map rcV, r.length = 4 := by
  intro r hr
  obtain ⟨c, -, rfl⟩ := List.mem_map.1 hr
  rfl
structure RNd (z : Nat) (w : World) (own : Nat → Nat × Nat) (i : Nat) (m : NdV) (x : Nd) : Prop where
  now : FzV w own m.vn x.now
  lasts : FzV w own m.vl x.lasts
  wts : OwnX 2 w m.gw m.vw (wrRow m.vs x.waits).flatten
  wrs : WrsV w own m.vs x.waits
  mw : ∀ k, m.gw = some k → own k = (10 * z + 5, i)
structure RParts where
  vd : Value
  vn : Value
  gn : Option Nat
  ms : List NdV
  ve : Value
  vl : Value
  vc : Value
  gc : Option Nat
def RParts.cells (q : RParts) (d : Dk) : Array Value :=
  #[.int .i64 d.quota, q.vd, q.vn, q.ve, q.vl, q.vc, .bool d.off, .int .i64 d.done, .int .i64 (d.arm : Int), .int .i64 (d.fail : Int), .int .i64 d.failed]
structure RRest (z : Nat) (w : World) (own : Nat → Nat × Nat) (d : Dk) (q : RParts) : Prop where
  dirs : FzS w own q.vd d.dirs
  nodes : OwnX 3 w q.gn q.vn (q.ms.map ndC).flatten
  mn : ∀ k, q.gn = some k → own k = (10 * z + 1, 1)
  len : q.ms.length = d.nodes.length
  now : FzE w own q.ve d.now
  lasts : FzE w own q.vl d.lasts
  chs : OwnX 4 w q.gc q.vc (d.waits.map rcV).flatten
  mc : ∀ k, q.gc = some k → own k = (10 * z + 1, 4)
  nd : ∀ (i : Nat) (m : NdV) (x : Nd), q.ms[i]? = some m → d.nodes[i]? = some x → RNd z w own i m x
structure RSt (z : Nat) (w : World) (own : Nat → Nat × Nat) (db : Nat) (d : Dk) (q : RParts) : Prop where
  blk : Blk w db 114 (q.cells d)
  mark : own db = (10 * z + 1, 0)
  rest : RRest z w own d q
/-- the document's disk z in block db -/
def RDisk (z : Nat) (w : World) (own : Nat → Nat × Nat) (db : Nat) (d : Dk) : Prop := ∃ q, RSt z w own db d q
section
variable {w w' : World} {own own' : Nat → Nat × Nat}
theorem FzE.goes {keep : Nat × Nat → Prop} {v : Value} {L : Es} (h : FzE w own v L) (hg : Goes keep w w' own own') (hk : keep frz) : FzE w' own' v L := by
  obtain ⟨A, c, h1, h2, h3, h4⟩ := h
  refine ⟨A, c, h1, h2, h3, ?_⟩
  rcases h4 with h4 | ⟨b, off, rfl, ho, hb, hc⟩
  · exact .inl h4
  · obtain ⟨e1, e2⟩ := hg.block b hb (by rw [ho]; exact hk)
    refine .inr ⟨b, off, rfl, e2.trans ho, Nat.lt_of_lt_of_le hb hg.size, fun i l hl => ?_⟩
    obtain ⟨c1, c2⟩ := hc i l hl
    exact ⟨(World.cell?_of_block e1).trans c1, (World.cell?_of_block e1).trans c2⟩
theorem FzE.en {v : Value} {L : Es} (h : FzE w own v L) : ∃ A c, v = .slice A L.length c ∧ L.length ≤ c ∧ c ≤ maxLen ∧ REn w A L ∧ (∀ b off, A = some ⟨b, off, none⟩ → L ≠ [] → own b = frz) := by
  obtain ⟨A, c, h1, h2, h3, h4⟩ := h
  refine ⟨A, c, h1, h2, h3, ?_, ?_⟩
  · rcases h4 with h4 | ⟨b, off, rfl, -, hb, hc⟩
    · exact .inl h4
    · exact .inr ⟨b, off, rfl, hb, hc⟩
  · intro b off e hn
    rcases h4 with h4 | ⟨b', off', h4, ho, -⟩
    · exact absurd h4 hn
    · rw [h4] at e; cases e; exact ho
theorem RNd.goes {z i : Nat} {m : NdV} {x : Nd} {keep : Nat × Nat → Prop} (h : RNd z w own i m x) (hg : Goes keep w w' own own') (hk : keep frz) (hf : keep (10 * z + 5, i)) : RNd z w' own' i m x := by
  have k3 : ∀ k, m.gw = some k → keep (own k) := fun k e => by rw [h.mw k e]; exact hf
  exact ⟨h.now.goes hg hk, h.lasts.goes hg hk, h.wts.same hg.size fun g e => (hg.block g (h.wts.lt e) (k3 g e)).1, h.wrs.goes hg hk, fun k e => (hg.block k (h.wts.lt e) (k3 k e)).2.trans (h.mw k e)⟩
theorem RRest.goes {z : Nat} {d : Dk} {q : RParts} {keep : Nat × Nat → Prop} (h : RRest z w own d q) (hg : Goes keep w w' own own') (hk : keep frz) (hd : ∀ t, isD z t → t ≠ (10 * z + 1, 0) → keep t) : RRest z w' own' d q := by
  have m1 : ∀ k, q.gn = some k → keep (own k) := fun k e => hd _ (by rw [h.mn k e]; exact ⟨by simp, by simp⟩) (by rw [h.mn k e]; simp)
  have m4 : ∀ k, q.gc = some k → keep (own k) := fun k e => hd _ (by rw [h.mc k e]; exact ⟨by simp, by simp⟩) (by rw [h.mc k e]; simp)
  exact ⟨h.dirs.goes hg hk, h.nodes.same hg.size fun g e => (hg.block g (h.nodes.lt e) (m1 g e)).1, fun k e => (hg.block k (h.nodes.lt e) (m1 k e)).2.trans (h.mn k e), h.len,
    h.now.goes hg hk, h.lasts.goes hg hk, h.chs.same hg.size fun g e => (hg.block g (h.chs.lt e) (m4 g e)).1, fun k e => (hg.block k (h.chs.lt e) (m4 k e)).2.trans (h.mc k e),
    fun i m x hm hx => (h.nd i m x hm hx).goes hg hk (hd _ ⟨by simp, by simp⟩ (by simp))⟩
theorem RSt.goes {z db : Nat} {d : Dk} {q : RParts} {keep : Nat × Nat → Prop} (h : RSt z w own db d q) (hg : Goes keep w w' own own') (hk : keep frz) (hd : ∀ t, isD z t → keep t) : RSt z w' own' db d q := by
  have k0 : keep (own db) := hd _ (by rw [h.mark]; exact ⟨by simp, by simp⟩)
  exact ⟨h.blk.goes hg k0, (hg.block db h.blk.lt k0).2.trans h.mark, h.rest.goes hg hk fun t ht _ => hd t ht⟩
end
end Go.Proofs.YtbpooaicmjkemaaGreatDoor

/-! The walks of the document's step, found. Printed by gen_rsw.py from XSfStep. Conditions: the sizes. -/
namespace Go.Proofs.YtbpooaicmjkemaaGreatDoor
open Go.RowKit Go.Maps
set_option linter.unusedVariables false
def rwArr (c0 c1 c2 c3 c4 c5 : Value) (d : Dk) : Array Value := #[c0, c1, c2, c3, c4, c5, .bool d.off, .int .i64 d.done, .int .i64 (d.arm : Int), .int .i64 (d.fail : Int), .int .i64 d.failed]
set_option maxHeartbeats 1000000 in
theorem rstep_cells (w : World) (db : Nat) (c0 c1 c2 c3 c4 c5 : Value) (d : Dk) (hB : Blk w db 114 (rwArr c0 c1 c2 c3 c4 c5 d))
    (ha : d.arm ≤ 9223372036854775807) (hf : d.fail ≤ 9223372036854775807) (hd : -1000000000000 ≤ d.done ∧ d.done ≤ 1000000000000) :
    Calls Tryz.prog 96 #[.pointer (some ⟨db, 0, none⟩)] w fun e w' => Blk w' db 114 (rwArr c0 c1 c2 c3 c4 c5 (stepM d).1) ∧ Only db w w' ∧ e = .returned (.int .i64 (stepM d).2) := by
  obtain ⟨quota, dirs, nodes, now, lasts, waits, off, done, arm, fail, failed⟩ := d
  have k7 : w.cell? ⟨db, 6, none⟩ = some (.bool off) := hB.cell 6
  have k8 : w.cell? ⟨db, 7, none⟩ = some (.int .i64 done) := hB.cell 7
  have k9 : w.cell? ⟨db, 8, none⟩ = some (.int .i64 (arm : Int)) := hB.cell 8
  have k10 : w.cell? ⟨db, 9, none⟩ = some (.int .i64 (fail : Int)) := hB.cell 9
  have k11 : w.cell? ⟨db, 10, none⟩ = some (.int .i64 failed) := hB.cell 10
  have f7 : w.frozen? ⟨db, 6, none⟩ = false := hB.frozen 6
  have f8 : w.frozen? ⟨db, 7, none⟩ = false := hB.frozen 7
  have f9 : w.frozen? ⟨db, 8, none⟩ = false := hB.frozen 8
  have f10 : w.frozen? ⟨db, 9, none⟩ = false := hB.frozen 9
  simp only [] at ha hf hd
  have HB := Lib.hid hB
  have w1 := max_pred arm ha
  have w2 := max_pred fail hf
  have m1 := max_if arm
  have m2 := max_if fail
  clear hB
  have x1 : max 0 ((arm : Int) - 1) = ((arm - 1 : Nat) : Int) := by omega
  have x2 : max 0 ((fail : Int) - 1) = ((fail - 1 : Nat) : Int) := by omega
  have X1 := Lib.hid x1
  have X2 := Lib.hid x2
  clear x1 x2 m1 m2
  by_cases h1 : arm = 1
  · have t1 : ((arm : Int) == 1) = true := by rw [beq_iff_eq]; omega
    have E : Hid (stepM ⟨quota, dirs, nodes, now, lasts, waits, off, done, arm, fail, failed⟩ = (⟨quota, dirs, nodes, now, lasts, waits, true, done, 0, 0, failed⟩, 10)) := Lib.hid (by unfold stepM; rw [if_pos h1])
    clear h1
    go_enter Tryz.func96, Tryz.ntmps96
    all_goals
      go_wp2
      go_ret
      rw [E.out]
      have hb := ((((HB.out.set_ 8 (.int .i64 (max 0 ((arm : Int) - 1)))).set_ 9 (.int .i64 (max 0 ((fail : Int) - 1)))).set_ 6 (.bool true)).set_ 8 (.int .i64 0)).set_ 9 (.int .i64 0)
      exact ⟨hb, (((((Only.refl (g := db) w).set_ 8 _).set_ 9 _).set_ 6 _).set_ 8 _).set_ 9 _, rfl⟩
  · have t1 : ((arm : Int) == 1) = false := by rw [beq_eq_false_iff_ne]; omega
    by_cases h2 : fail = 1
    · have t2 : ((fail : Int) == 1) = true := by rw [beq_iff_eq]; omega
      have E : Hid (stepM ⟨quota, dirs, nodes, now, lasts, waits, off, done, arm, fail, failed⟩ = (⟨quota, dirs, nodes, now, lasts, waits, off, done, arm - 1, fail - 1, failed⟩, failed)) := Lib.hid (by unfold stepM; rw [if_neg h1, if_pos h2]; rw [show fail - 1 = 0 by omega])
      clear h1 h2
      go_enter Tryz.func96, Tryz.ntmps96
      all_goals
        go_wp2
        go_ret
        rw [E.out, X1.out, X2.out]
        have hb := (HB.out.set_ 8 (.int .i64 ((arm - 1 : Nat) : Int))).set_ 9 (.int .i64 ((fail - 1 : Nat) : Int))
        exact ⟨hb, ((Only.refl (g := db) w).set_ 8 _).set_ 9 _, rfl⟩
    · have t2 : ((fail : Int) == 1) = false := by rw [beq_eq_false_iff_ne]; omega
      have E : Hid (stepM ⟨quota, dirs, nodes, now, lasts, waits, off, done, arm, fail, failed⟩ = (⟨quota, dirs, nodes, now, lasts, waits, off, done + 1, arm - 1, fail - 1, failed⟩, 0)) := Lib.hid (by unfold stepM; rw [if_neg h1, if_neg h2])
      clear h1 h2
      go_enter Tryz.func96, Tryz.ntmps96
      all_goals
        go_wp2
        go_ret
        rw [E.out, X1.out, X2.out]
        have hb := ((HB.out.set_ 8 (.int .i64 ((arm - 1 : Nat) : Int))).set_ 9 (.int .i64 ((fail - 1 : Nat) : Int))).set_ 7 (.int .i64 (done + 1))
        exact ⟨hb, (((Only.refl (g := db) w).set_ 8 _).set_ 9 _).set_ 7 _, rfl⟩

theorem RRest.sameD {z : Nat} {w : World} {own : Nat → Nat × Nat} {d d' : Dk} {q : RParts} (h : RRest z w own d q) (e : SameD d d') : RRest z w own d' q := by
  obtain ⟨e1, e2, e3, e4, e5, -⟩ := e
  exact ⟨by rw [e1]; exact h.dirs, h.nodes, h.mn, by rw [e2]; exact h.len, by rw [e3]; exact h.now, by rw [e4]; exact h.lasts, by rw [e5]; exact h.chs, h.mc, fun i m x hm hx => h.nd i m x hm (by rw [← e2]; exact hx)⟩
theorem RSt.switch {z db : Nat} {w w' : World} {own : Nat → Nat × Nat} {d d' : Dk} {q : RParts} (h : RSt z w own db d q) (ho : Only db w w') (hB : Blk w' db 114 (q.cells d')) (e : SameD d d') : RSt z w' own db d' q :=
  ⟨hB, h.mark, (h.rest.goes (keep := fun t => t ≠ (10 * z + 1, 0)) ⟨ho.size, fun k hk hn => ⟨ho.block k hk (fun e => hn (by injection e with e; rw [e]; exact h.mark)), rfl⟩⟩ (by unfold frz; simp) fun _ _ hn => hn).sameD e⟩
def RSwPost (z : Nat) (w : World) (own : Nat → Nat × Nat) (db : Nat) (q : RParts) (r : Dk × Int) (e : Ending) (w' : World) : Prop := RSt z w' own db r.1 q ∧ Only db w w' ∧ e = .returned (.int .i64 r.2)
theorem rstep_walk (z : Nat) (w : World) (own : Nat → Nat × Nat) (db : Nat) (d : Dk) (q : RParts) (h : RSt z w own db d q) {K : Nat} (hs : SwOk d K) (hK : K ≤ 1000000) :
    Calls Tryz.prog 96 #[ptrV db] w (RSwPost z w own db q (stepM d)) := by
  refine (rstep_cells w db _ _ _ _ _ _ d h.blk hs.arm hs.fail ⟨by have := hs.d0; omega, by have := hs.d1; omega⟩).mono fun e w' ⟨hb, ho, he⟩ => ⟨h.switch ho ?_ (step_sameD d), ho, he⟩
  unfold RParts.cells
  rw [(step_sameD d).2.2.2.2.2]
  exact hb
def rfN (d : Dk) (p : Tx) : Nat := if missM d p = 0 then fileM d p else 0
set_option maxRecDepth 100000 in
set_option maxHeartbeats 2000000 in
theorem rfound_walk {z db : Nat} {w : World} {own : Nat → Nat × Nat} {d : Dk} {q : RParts} (h : RSt z w own db d q) (hs : sortE d.now) (hl : d.now.length ≤ 1000000) (p : Tx) :
    Calls Tryz.prog 98 #[ptrV db, .string (bs p)] w fun e w' => e = .returned (.tuple #[.int .i64 (rfN d p : Int), .int .i64 (missM d p)]) ∧ ∃ q, w' = w.drewN q := by
  obtain ⟨A, c, hve, hc, hm, hr, -⟩ := h.rest.now.en
  have k3 : w.cell? ⟨db, 3, none⟩ = some (.slice A d.now.length c) := by rw [← hve]; exact h.blk.cell 3
  have k6 : w.cell? ⟨db, 6, none⟩ = some (.bool d.off) := h.blk.cell 6
  obtain ⟨n, hn⟩ : ∃ n, n = d.now.length := ⟨_, rfl⟩
  rw [← hn] at k3
  have KP := Lib.hid (place_walk w A n c d.now p hr hn (by omega))
  rw [atE_is hs] at KP
  have HR := Lib.hid hr
  have HN := Lib.hid hn
  have HS := Lib.hid hs
  unfold ptrV
  obtain ⟨E, hE⟩ : ∃ E, missM d p = E := ⟨_, rfl⟩
  obtain ⟨N, hN⟩ : ∃ N, rfN d p = N := ⟨_, rfl⟩
  rw [hE, hN]
  unfold rfN at hN
  rw [hE] at hN
  by_cases ho : d.off = true
  · obtain rfl : E = 10 := by rw [← hE]; unfold missM; rw [if_pos ho]
    obtain rfl : N = 0 := by rw [← hN]; rfl
    rw [ho] at k6
    clear h hve hc hm hr hn hs ho hE hN
    go_enter Tryz.func98, Tryz.ntmps98
    go_wp2_with fail
    go_ret2
    exact ⟨rfl, 0, rfl⟩
  have ho2 : d.off = false := by simpa using ho
  rw [ho2] at k6
  cases hg : getE d.now p with
  | none =>
    obtain rfl : E = 12 := by rw [← hE]; unfold missM; rw [if_neg ho, if_pos hg]
    obtain rfl : N = 0 := by rw [← hN]; rfl
    rw [hg] at KP
    simp only [Option.isSome_none] at KP
    clear hE hN h hve hc hm hr hn hs ho ho2 hg
    go_enter Tryz.func98, Tryz.ntmps98
    go_wp2_with fail
    refine KP.out.mono ?_
    rintro e w2 ⟨rfl, q, rfl⟩
    go_wp2_with fail
    go_ret2
    exact ⟨rfl, q, rfl⟩
  | some m =>
    obtain rfl : E = 0 := by rw [← hE]; unfold missM; rw [if_neg ho, if_neg (by rw [hg]; simp)]
    obtain rfl : N = m := by rw [← hN, if_pos rfl]; unfold fileM; rw [hg]; rfl
    obtain ⟨hp1, hp2⟩ := En_in hs hg
    obtain ⟨b, off, rfl, hbl, -, c1⟩ := hr.at_ hp2
    obtain ⟨k, hk⟩ : ∃ k, plE d.now p = k := ⟨_, rfl⟩
    rw [hg] at KP
    rw [hk] at KP hp1 c1
    simp only [Option.isSome_some] at KP
    have hkn : (k : Int) < (n : Int) := by omega
    clear hE hN h hve hc hm hr hn hs ho ho2 hg hp1 hp2 hk
    go_enter Tryz.func98, Tryz.ntmps98
    go_wp2_with fail
    refine KP.out.mono ?_
    rintro e w2 ⟨rfl, q, rfl⟩
    have y3 : (w.drewN q).cell? ⟨db, 3, none⟩ = some (.slice (some ⟨b, off, none⟩) n c) := k3
    have y1 : (w.drewN q).cell? ⟨b, off + k * 2 + 1, none⟩ = some (.int .i64 (N : Int)) := c1
    clear KP
    go_wp2_with fail
    go_ret2
    exact ⟨rfl, _, rfl⟩
end Go.Proofs.YtbpooaicmjkemaaGreatDoor

/-! The walk of the document's used. Conditions: the sizes. -/
namespace Go.Proofs.YtbpooaicmjkemaaGreatDoor
open Go.RowKit Go.Maps
set_option linter.unusedVariables false
/-- node i's cells -/
theorem RRest.ndAt {z : Nat} {w : World} {own : Nat → Nat × Nat} {d : Dk} {q : RParts} (h : RRest z w own d q) {i : Nat} {x : Nd} (hx : d.nodes[i]? = some x) :
    ∃ m g off n c, q.ms[i]? = some m ∧ q.gn = some g ∧ q.vn = .slice (some ⟨g, off, none⟩) n c ∧ n = d.nodes.length ∧ n ≤ c ∧ g < w.heap.size ∧ w.cell? ⟨g, off + i * 3, none⟩ = some m.vn ∧ w.cell? ⟨g, off + i * 3 + 1, none⟩ = some m.vl ∧ w.cell? ⟨g, off + i * 3 + 2, none⟩ = some m.vw ∧ RNd z w own i m x := by
  have hi := (List.getElem?_eq_some_iff.1 hx).1
  have him : i < q.ms.length := by rw [h.len]; exact hi
  obtain ⟨m, hm⟩ : ∃ m, q.ms[i]? = some m := ⟨_, List.getElem?_eq_getElem him⟩
  have hfl : ((q.ms.map ndC).flatten).length = q.ms.length * 3 := by rw [flat_len (nd_all _), List.length_map]
  obtain ⟨A, n, c, hv, e1, e2, e3⟩ := h.nodes.sl
  obtain ⟨g, off, hg, ha, hl, hc, -⟩ := (hv ▸ h.nodes).at_ (by omega)
  have f := fun k hk => flat_at (R := q.ms.map ndC) i k (ndC m) (nd_all _) hk (by rw [List.getElem?_map, hm]; rfl)
  have cc := fun k (hk : k < 3) => (hc (i * 3 + k) (by rw [hfl]; omega)).trans (f k hk)
  refine ⟨m, g, off, n, c, hm, hg, by rw [hv, ha], by rw [← h.len]; omega, e2, hl, cc 0 (by omega), cc 1 (by omega), cc 2 (by omega), h.nd i m x hm hx⟩
theorem used_snoc {nodes : List Nd} {L : Es} {j : Nat} {e : Tx × Nat} {x : Nd} (he : L[j]? = some e) (hx : nodes[e.2]? = some x) : usedL nodes (L.take (j + 1)) = usedL nodes (L.take j) + x.now.length := by
  obtain ⟨h1, h2⟩ := List.getElem?_eq_some_iff.1 he
  unfold usedL
  rw [List.take_succ_eq_append_getElem h1, h2, List.map_append, List.sum_append]
  simp [List.getD_eq_getElem?_getD, hx]
theorem used_le {nodes : List Nd} {L : Es} (j : Nat) : usedL nodes (L.take j) ≤ usedL nodes L := by
  unfold usedL
  conv => rhs; rw [← List.take_append_drop j L, List.map_append, List.sum_append]
  omega
set_option maxRecDepth 100000 in
set_option maxHeartbeats 2000000 in
theorem rused_walk {z db : Nat} {w : World} {own : Nat → Nat × Nat} {d : Dk} {q : RParts} (h : RSt z w own db d q) (hm : ∀ e ∈ d.now, e.2 < d.nodes.length) (hl : d.now.length ≤ 1000000) (hu : usedM d ≤ 1000000000000) :
    Calls Tryz.prog 99 #[ptrV db] w fun e w' => e = .returned (.int .i64 (usedM d : Int)) ∧ Below w.heap.size w w' := by
  obtain ⟨A, c, hve, hc, hcm, hr, -⟩ := h.rest.now.en
  obtain ⟨n, hn⟩ : ∃ n, n = d.now.length := ⟨_, rfl⟩
  have HB := Lib.hid h.blk
  have HH := Lib.hid h.rest
  have k3 : w.cell? ⟨db, 3, none⟩ = some (.slice A n c) := by rw [hn, ← hve]; exact h.blk.cell 3
  have HR := Lib.hid hr
  have HN := Lib.hid hn
  have HM := Lib.hid hm
  have hln : n ≤ 1000000 := by omega
  obtain ⟨U, hU⟩ : ∃ U, usedM d = U := ⟨_, rfl⟩
  have HU := Lib.hid hU
  rw [hU] at hu ⊢
  have k2 : w.cell? ⟨db, 2, none⟩ = some q.vn := h.blk.cell 2
  unfold ptrV
  clear h hve hc hcm hr hm hU hn hl
  go_enter Tryz.func99, Tryz.ntmps99
  go_upto_region 3 with fail
  go_loopg [3, 4] n (fun k s3 s4 wr => ∃ (j u : Nat), s4 = .int .i64 (j : Int) ∧ s3 = .int .i64 (u : Int) ∧ j + k = n ∧ Hid (u = usedL d.nodes (d.now.take j)) ∧ Hid (Below w.heap.size w wr))
  case atStart => exact ⟨0, 0, rfl, rfl, by omega, Lib.hid rfl, Lib.hid (Below.refl _ _)⟩
  case round =>
    obtain ⟨j, u, rfl, rfl, hj, HUU, HW⟩ := hrel
    have y3 : wr.cell? ⟨db, 3, none⟩ = some (.slice A n c) := (HW.out.cell (p := ⟨db, 3, none⟩) HB.out.lt).trans k3
    by_cases hlt : j < n
    · have hlt1 : (j : Int) < (n : Int) := by omega
      obtain ⟨x, hx⟩ : ∃ x, d.now[j]? = some x := ⟨_, List.getElem?_eq_getElem (by rw [← HN.out]; exact hlt)⟩
      obtain ⟨b, off, hA, hbl, -, c1⟩ := HR.out.at_ hx
      have hxm := HM.out x (List.mem_of_getElem? hx)
      obtain ⟨nd, hnd⟩ : ∃ nd, d.nodes[x.2]? = some nd := ⟨_, List.getElem?_eq_getElem hxm⟩
      obtain ⟨m, g, of_, nn, cn, hm1, hg, hvn, hnn, hnc, hgl, c2, -, -, hN⟩ := HH.out.ndAt hnd
      obtain ⟨An, ca, hv1, -, -, -⟩ := hN.now
      have HS1 := Lib.hid (used_snoc hx hnd)
      have HLE := Lib.hid (used_le (nodes := d.nodes) (L := d.now) (j + 1))
      obtain ⟨l, hl1⟩ : ∃ l, nd.now.length = l := ⟨_, rfl⟩
      rw [hl1] at HS1 hv1
      have hul : u + l ≤ U := by
        have h1 := HS1.out
        have h2 := HLE.out
        have h3 := HU.out
        have h4 := HUU.out
        unfold usedM at h3
        omega
      have HUN : Hid (u + l = usedL d.nodes (d.now.take (j + 1))) := Lib.hid (by rw [HS1.out, ← HUU.out])
      rw [hv1] at c2
      rw [hvn] at k2
      obtain ⟨k, hk⟩ : ∃ k, x.2 = k := ⟨_, rfl⟩
      rw [hk] at c1 c2 hxm
      subst hA
      have z1 : wr.cell? ⟨b, off + j * 2 + 1, none⟩ = some (.int .i64 (k : Int)) := (HW.out.cell (p := ⟨b, off + j * 2 + 1, none⟩) hbl).trans c1
      have z2 : wr.cell? ⟨db, 2, none⟩ = some (.slice (some ⟨g, of_, none⟩) nn cn) := (HW.out.cell (p := ⟨db, 2, none⟩) HB.out.lt).trans k2
      have z3 : wr.cell? ⟨g, of_ + k * 3, none⟩ = some (.slice An l ca) := (HW.out.cell (p := ⟨g, of_ + k * 3, none⟩) hgl).trans c2
      have hkn : (k : Int) < (nn : Int) := by omega
      have hk0 : (0 : Int) ≤ (k : Int) := by omega
      have hu1 : (u : Int) + (l : Int) ≤ 1000000000000 := by omega
      have hul0 : u + l ≤ 1000000000000 := by omega
      clear c1 c2 hx hnd hm1 hN hv1 HS1 HLE hk hl1 hgl hbl hnn hnc hxm k2 k3 hvn hg
      go_upto_region 5 with fail
      go_quiet (fail)
      go_wp2_with fail
      go_roundg (gk - 1)
      case rel => exact ⟨j + 1, u + l, by go_num, by go_num, by omega, HUN, Lib.hid (by have h := HW.out; exact ⟨h.os, h.tape, h.output, h.size, h.block⟩)⟩
      case measure => omega
    · have hlt1 : ¬ (j : Int) < (n : Int) := by omega
      obtain rfl : j = n := by omega
      have hE : u = U := by
        have h3 := HU.out
        have h4 := HUU.out
        rw [HN.out, List.take_length] at h4
        unfold usedM at h3
        omega
      subst hE
      go_wp2_with fail
      go_ret
      exact ⟨rfl, HW.out⟩
end Go.Proofs.YtbpooaicmjkemaaGreatDoor
