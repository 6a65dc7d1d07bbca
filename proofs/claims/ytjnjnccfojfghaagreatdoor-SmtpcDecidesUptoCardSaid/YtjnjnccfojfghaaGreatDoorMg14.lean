/-
  Several texts in one: ScDo2, ScDo3, ScHail, ScAny, ScDgs, ScNmd. Conditions: each part names its own.
-/
import Derived.Test.YtjnjnccfojfghaaGreatDoorMg13
set_option linter.unusedSimpArgs false
/-! smtpc's greeted, mailed, ended, sent, asked, hailed on the bundle. No condition but the lengths. -/
namespace Go.Proofs.YtjnjnccfojfghaaGreatDoor
open Go.RowKit
set_option linter.unusedVariables false
/-- one plain cell of a client overwritten -/
theorem CliP.poke {w : World} {cb pb : Nat} {bb : Option Nat} {c c' : ClM} {q : CPts} (h : CliP w cb pb bb c q) (i : Nat) (u : Value) (h1 : c'.ppl = c.ppl) (h2 : c'.body = c.body) (h3 : c'.left = c.left) (h4 : c'.out = c.out)
    (hb : Blk (w.setCell ⟨cb, i, none⟩ u) cb 72 (cliC c'.name c'.frm (.slice (some ⟨pb, 0, none⟩) c'.ppl.length q.cpp) (.slice q.Ab c'.body.length q.cbb) c'.stage c'.pos q.lv q.ov c'.idle c'.well)) : CliP (w.setCell ⟨cb, i, none⟩ u) cb pb bb c' q := by
  have hs : (w.setCell ⟨cb, i, none⟩ u).heap.size = w.heap.size := by simp
  have hk : ∀ k, k ≠ cb → (w.setCell ⟨cb, i, none⟩ u).heap[k]? = w.heap[k]? := fun k hk => Below.heap_setCell w ⟨cb, i, none⟩ u k hk
  refine ⟨hb, by rw [h1]; exact h.ppl.same (hk pb h.pc), by rw [h2]; exact h.body.same (by omega) (fun a ha _ => hk _ (fun e => h.bc (by rw [h.ab a ha, e]))), h.ab, by rw [h3]; exact h.left.same (fun k hk2 => hk k (fun e => h.lc (by rw [hk2, e]))), by rw [h4]; exact h.out.same (fun k hk2 => hk k (fun e => h.oc (by rw [hk2, e]))), h.lc, h.lp, h.oc, h.op, h.lo, h.lb, h.ob, h.pc, h.bc, h.bp, fun k hk2 => by rw [hs]; exact h.bl k hk2⟩
theorem CliP.stage_ {w : World} {cb pb : Nat} {bb : Option Nat} {c : ClM} {q : CPts} (h : CliP w cb pb bb c q) (k : Nat) : CliP (w.setCell ⟨cb, 4, none⟩ (.int .i64 (k : Int))) cb pb bb { c with stage := k } q :=
  h.poke 4 _ rfl rfl rfl rfl (h.blk.set_ 4 _)
theorem CliP.well_ {w : World} {cb pb : Nat} {bb : Option Nat} {c : ClM} {q : CPts} (h : CliP w cb pb bb c q) (b : Bool) : CliP (w.setCell ⟨cb, 9, none⟩ (.bool b)) cb pb bb { c with well := b } q :=
  h.poke 9 _ rfl rfl rfl rfl (h.blk.set_ 9 _)
/-- what was done behind new blocks and a cell of the client was done from there -/
theorem DoPost.from2 {w w1 w' : World} {cb pb : Nat} {bb : Option Nat} {q : CPts} {c' : ClM} {e : Ending} (hs1 : w.heap.size ≤ w1.heap.size) (hs : Safe (fun k => k < w.heap.size ∧ k ≠ cb) w w1) (h : DoPost w1 cb pb bb q c' e w') : DoPost w cb pb bb q c' e w' := by
  obtain ⟨rfl, v', h1, h2, h3⟩ := h
  refine ⟨rfl, v', h1, ?_, (hs.mono fun k hk => ⟨hk.1.1, hk.1.2.1⟩).trans (h3.mono fun k hk => ⟨⟨by have := hk.1.1; omega, hk.1.2.1, hk.1.2.2⟩, hk.2⟩)⟩
  rcases h2 with h2 | ⟨p, h2, hp⟩
  · exact .inl h2
  · exact .inr ⟨p, h2, by omega⟩
set_option maxRecDepth 4000 in
set_option maxHeartbeats 4000000 in
theorem greeted_walk {w : World} {cb pb : Nat} {bb : Option Nat} {c : ClM} {q : CPts} (h : CliP w cb pb bb c q) (hl : CLen c) (hn : c.ppl.length ≤ 1000) (cl : Nat) {r : Rep} (hr : RepAt w pb r) :
    Calls Tryz.prog 56 #[.pointer (some ⟨cb, 0, none⟩), .int .i64 (cl : Int), r.val] w (DoPost w cb pb bb q (toC c 1 cl r)) := by
  obtain ⟨w1, hw1⟩ : ∃ w1, w.alloc (.cells #[.int .i64 r.code, .slice (some ⟨r.lb, r.lo, none⟩) r.nl r.cl] 57) = w1 := ⟨_, rfl⟩
  have hb1 : Below w.heap.size w w1 := by rw [← hw1]; exact (Below.refl _ _).alloc (Nat.le_refl _) _
  have hbr : Blk w1 w.heap.size 57 #[.int .i64 r.code, .slice (some ⟨r.lb, r.lo, none⟩) r.nl r.cl] := by rw [← hw1]; exact Blk.new w _ _
  have ev : r.val = .agg #[.int .i64 r.code, .slice (some ⟨r.lb, r.lo, none⟩) r.nl r.cl] := rfl
  have k0 : w1.cell? ⟨w.heap.size, 0, none⟩ = some (.int .i64 r.code) := hbr.cell 0
  have k1 : w1.cell? ⟨w.heap.size, 1, none⟩ = some (.slice (some ⟨r.lb, r.lo, none⟩) r.nl r.cl) := hbr.cell 1
  have K := Lib.hid ((to_walk (h.same hb1) hl hn 1 (by decide) (by decide) (fun h => by cases h) cl (hr.same hb1)).mono (fun e w' hd => (⟨hd.1, DoPost.from_ hb1 hd⟩ : e = .returned (.tuple #[]) ∧ DoPost w cb pb bb q (toC c 1 cl r) e w')))
  rw [ev] at K ⊢
  generalize DoPost w cb pb bb q (toC c 1 cl r) = Post at *
  clear h hr hb1 hbr
  go_enter Tryz.func56, Tryz.ntmps56
  go_wp2_with fail
  refine K.out.mono ?_
  rintro e w3 ⟨rfl, hp⟩
  have HP := Lib.hid hp
  clear hp
  go_wp2_with fail
  refine bodyPost_end (v := .tuple #[]) (by simp [results, show (Tryz.f56).results = #[] from rfl]) rfl ?_
  exact HP.out
set_option maxRecDepth 4000 in
set_option maxHeartbeats 4000000 in
theorem mailed_walk {w : World} {cb pb : Nat} {bb : Option Nat} {c : ClM} {q : CPts} (h : CliP w cb pb bb c q) (hl : CLen c) (hn : c.ppl.length ≤ 1000) (hpos : c.pos < c.ppl.length) (cl : Nat) {r : Rep} (hr : RepAt w pb r) :
    Calls Tryz.prog 58 #[.pointer (some ⟨cb, 0, none⟩), .int .i64 (cl : Int), r.val] w (DoPost w cb pb bb q (toC c 4 cl r)) := by
  obtain ⟨w1, hw1⟩ : ∃ w1, w.alloc (.cells #[.int .i64 r.code, .slice (some ⟨r.lb, r.lo, none⟩) r.nl r.cl] 57) = w1 := ⟨_, rfl⟩
  have hb1 : Below w.heap.size w w1 := by rw [← hw1]; exact (Below.refl _ _).alloc (Nat.le_refl _) _
  have hbr : Blk w1 w.heap.size 57 #[.int .i64 r.code, .slice (some ⟨r.lb, r.lo, none⟩) r.nl r.cl] := by rw [← hw1]; exact Blk.new w _ _
  have ev : r.val = .agg #[.int .i64 r.code, .slice (some ⟨r.lb, r.lo, none⟩) r.nl r.cl] := rfl
  have k0 : w1.cell? ⟨w.heap.size, 0, none⟩ = some (.int .i64 r.code) := hbr.cell 0
  have k1 : w1.cell? ⟨w.heap.size, 1, none⟩ = some (.slice (some ⟨r.lb, r.lo, none⟩) r.nl r.cl) := hbr.cell 1
  have K := Lib.hid ((to_walk (h.same hb1) hl hn 4 (by decide) (by decide) (fun _ => hpos) cl (hr.same hb1)).mono (fun e w' hd => (⟨hd.1, DoPost.from_ hb1 hd⟩ : e = .returned (.tuple #[]) ∧ DoPost w cb pb bb q (toC c 4 cl r) e w')))
  rw [ev] at K ⊢
  generalize DoPost w cb pb bb q (toC c 4 cl r) = Post at *
  clear h hr hb1 hbr hpos
  go_enter Tryz.func58, Tryz.ntmps58
  go_wp2_with fail
  refine K.out.mono ?_
  rintro e w3 ⟨rfl, hp⟩
  have HP := Lib.hid hp
  clear hp
  go_wp2_with fail
  refine bodyPost_end (v := .tuple #[]) (by simp [results, show (Tryz.f58).results = #[] from rfl]) rfl ?_
  exact HP.out
set_option maxRecDepth 4000 in
set_option maxHeartbeats 4000000 in
theorem ended_walk {w : World} {cb pb : Nat} {bb : Option Nat} {c : ClM} {q : CPts} (h : CliP w cb pb bb c q) (cl : Nat) (r : Rep) :
    Calls Tryz.prog 62 #[.pointer (some ⟨cb, 0, none⟩), .int .i64 (cl : Int), r.val] w (DoPost w cb pb bb q { c with stage := 8 }) := by
  obtain ⟨w1, hw1⟩ : ∃ w1, w.alloc (.cells #[.int .i64 r.code, .slice (some ⟨r.lb, r.lo, none⟩) r.nl r.cl] 57) = w1 := ⟨_, rfl⟩
  have hb1 : Below w.heap.size w w1 := by rw [← hw1]; exact (Below.refl _ _).alloc (Nat.le_refl _) _
  have ev : r.val = .agg #[.int .i64 r.code, .slice (some ⟨r.lb, r.lo, none⟩) r.nl r.cl] := rfl
  have h1 := h.same hb1
  have k4 : w1.cell? ⟨cb, 4, none⟩ = some (.int .i64 (c.stage : Int)) := h1.blk.cell 4
  have kf := h1.blk.frozen 4
  have HP : Hid (DoPost w cb pb bb q { c with stage := 8 } (.returned (.tuple #[])) (w1.setCell ⟨cb, 4, none⟩ (.int .i64 8))) := Lib.hid ⟨rfl, q.ov, h1.stage_ 8, .inl rfl, ((Safe.of_below hb1 (fun k hk => hk.1.1)).set_ (p := ⟨cb, 4, none⟩) (fun hk => hk.1.2.1 rfl) _)⟩
  rw [ev]
  generalize DoPost w cb pb bb q { c with stage := 8 } = Post at *
  have hcl := h.blk.lt
  clear h h1 hb1
  go_enter Tryz.func62, Tryz.ntmps62
  go_wp2_with fail
  refine bodyPost_end (v := .tuple #[]) (by simp [results, show (Tryz.f62).results = #[] from rfl]) rfl ?_
  exact HP.out
end Go.Proofs.YtjnjnccfojfghaaGreatDoor

/-! smtpc's sent, asked, hailed on the bundle. No condition but the lengths. -/
namespace Go.Proofs.YtjnjnccfojfghaaGreatDoor
open Go.RowKit
set_option linter.unusedVariables false
def sentC (c : ClM) (cl : Nat) (r : Rep) : ClM := allC c true (if cl = 2 then 2 else stateM cl) r.code r.text
def askedC (c : ClM) (cl : Nat) (r : Rep) : ClM := if cl = 2 then { c with stage := 8 } else if cl = 3 then begC c 6 else allC c true (stateM cl) r.code r.text
def hailedC (c : ClM) (cl : Nat) (r : Rep) : ClM := if cl = 5 ∧ c.stage = 1 then begC c 2 else toC { c with well := decide (cl = 2) } 3 cl r
set_option maxRecDepth 4000 in
set_option maxHeartbeats 4000000 in
theorem sent_walk {w : World} {cb pb : Nat} {bb : Option Nat} {c : ClM} {q : CPts} (h : CliP w cb pb bb c q) (hl : CLen c) (hn : c.ppl.length ≤ 1000) (cl : Nat) {r : Rep} (hr : RepAt w pb r) :
    Calls Tryz.prog 61 #[.pointer (some ⟨cb, 0, none⟩), .int .i64 (cl : Int), r.val] w (DoPost w cb pb bb q (sentC c cl r)) := by
  obtain ⟨w1, hw1⟩ : ∃ w1, w.alloc (.cells #[.int .i64 r.code, .slice (some ⟨r.lb, r.lo, none⟩) r.nl r.cl] 57) = w1 := ⟨_, rfl⟩
  have hb1 : Below w.heap.size w w1 := by rw [← hw1]; exact (Below.refl _ _).alloc (Nat.le_refl _) _
  have hbr : Blk w1 w.heap.size 57 #[.int .i64 r.code, .slice (some ⟨r.lb, r.lo, none⟩) r.nl r.cl] := by rw [← hw1]; exact Blk.new w _ _
  have ev : r.val = .agg #[.int .i64 r.code, .slice (some ⟨r.lb, r.lo, none⟩) r.nl r.cl] := rfl
  have k0 : w1.cell? ⟨w.heap.size, 0, none⟩ = some (.int .i64 r.code) := hbr.cell 0
  have k1 : w1.cell? ⟨w.heap.size, 1, none⟩ = some (.slice (some ⟨r.lb, r.lo, none⟩) r.nl r.cl) := hbr.cell 1
  by_cases h2 : cl = 2
  · have hT : sentC c cl r = allC c true 2 r.code r.text := by unfold sentC; rw [if_pos h2]
    rw [hT]
    have K := Lib.hid ((do_all (h.same hb1) hl hn true 2 (hr.same hb1)).mono (fun e w' hd => (⟨hd.1, DoPost.from_ hb1 hd⟩ : e = .returned (.tuple #[]) ∧ DoPost w cb pb bb q (allC c true 2 r.code r.text) e w')))
    have h2i : ((cl : Int) == 2) = true := by rw [h2]; rfl
    rw [ev] at K ⊢
    generalize DoPost w cb pb bb q (allC c true 2 r.code r.text) = Post at *
    clear h hr hb1 hbr hT h2
    go_enter Tryz.func61, Tryz.ntmps61
    go_wp2_with fail
    refine K.out.mono ?_
    rintro e w3 ⟨rfl, hp⟩
    have HP := Lib.hid hp
    clear hp
    go_wp2_with fail
    refine bodyPost_ret (v := .tuple #[]) (by simp [results, show (Tryz.f61).results = #[] from rfl]) rfl ?_
    exact HP.out
  · have hT : sentC c cl r = allC c true (stateM cl) r.code r.text := by unfold sentC; rw [if_neg h2]
    rw [hT]
    have hb2 : Below w.heap.size w w1.drew := ⟨hb1.os, hb1.tape, hb1.output, hb1.size, hb1.block⟩
    have K := Lib.hid ((do_all (h.same hb2) hl hn true (stateM cl) (hr.same hb2)).mono (fun e w' hd => (⟨hd.1, DoPost.from_ hb2 hd⟩ : e = .returned (.tuple #[]) ∧ DoPost w cb pb bb q (allC c true (stateM cl) r.code r.text) e w')))
    have KS := Lib.hid (state_walk cl)
    have h2i : ((cl : Int) == 2) = false := beq_eq_false_iff_ne.2 (by omega)
    rw [ev] at K ⊢
    generalize DoPost w cb pb bb q (allC c true (stateM cl) r.code r.text) = Post at *
    have k0d : w1.drew.cell? ⟨w.heap.size, 0, none⟩ = some (.int .i64 r.code) := k0
    have k1d : w1.drew.cell? ⟨w.heap.size, 1, none⟩ = some (.slice (some ⟨r.lb, r.lo, none⟩) r.nl r.cl) := k1
    clear h hr hb1 hbr hT h2 hb2
    go_enter Tryz.func61, Tryz.ntmps61
    go_wp2_with fail
    go_region_with (first | (go_at_call 97; refine (KS.out _).mono ?_; rintro e w4 ⟨rfl, rfl⟩) | (go_at_call 100; refine K.out.mono ?_; rintro e w3 ⟨rfl, hp⟩; have HP := Lib.hid hp; clear hp))
    all_goals
      go_wp2_with fail
      refine bodyPost_end (v := .tuple #[]) (by simp [results, show (Tryz.f61).results = #[] from rfl]) rfl ?_
      exact HP.out
set_option maxRecDepth 4000 in
set_option maxHeartbeats 4000000 in
theorem asked_walk {w : World} {cb pb : Nat} {bb : Option Nat} {c : ClM} {q : CPts} (h : CliP w cb pb bb c q) (hl : CLen c) (hn : c.ppl.length ≤ 1000) (cl : Nat) {r : Rep} (hr : RepAt w pb r) :
    Calls Tryz.prog 60 #[.pointer (some ⟨cb, 0, none⟩), .int .i64 (cl : Int), r.val] w (DoPost w cb pb bb q (askedC c cl r)) := by
  obtain ⟨w1, hw1⟩ : ∃ w1, w.alloc (.cells #[.int .i64 r.code, .slice (some ⟨r.lb, r.lo, none⟩) r.nl r.cl] 57) = w1 := ⟨_, rfl⟩
  have hb1 : Below w.heap.size w w1 := by rw [← hw1]; exact (Below.refl _ _).alloc (Nat.le_refl _) _
  have hbr : Blk w1 w.heap.size 57 #[.int .i64 r.code, .slice (some ⟨r.lb, r.lo, none⟩) r.nl r.cl] := by rw [← hw1]; exact Blk.new w _ _
  have ev : r.val = .agg #[.int .i64 r.code, .slice (some ⟨r.lb, r.lo, none⟩) r.nl r.cl] := rfl
  have k0 : w1.cell? ⟨w.heap.size, 0, none⟩ = some (.int .i64 r.code) := hbr.cell 0
  have k1 : w1.cell? ⟨w.heap.size, 1, none⟩ = some (.slice (some ⟨r.lb, r.lo, none⟩) r.nl r.cl) := hbr.cell 1
  by_cases h2 : cl = 2
  · have hT : askedC c cl r = { c with stage := 8 } := if_pos h2
    rw [hT]
    have hc1 := h.same hb1
    have k4 : w1.cell? ⟨cb, 4, none⟩ = some (.int .i64 (c.stage : Int)) := hc1.blk.cell 4
    have kf := hc1.blk.frozen 4
    have hcl := h.blk.lt
    have HP : Hid (DoPost w cb pb bb q { c with stage := 8 } (.returned (.tuple #[])) (w1.setCell ⟨cb, 4, none⟩ (.int .i64 8))) := Lib.hid ⟨rfl, q.ov, hc1.stage_ 8, .inl rfl, ((Safe.of_below hb1 (fun k hk => hk.1.1)).set_ (p := ⟨cb, 4, none⟩) (fun hk => hk.1.2.1 rfl) _)⟩
    have h2i : ((cl : Int) == 2) = true := by rw [h2]; rfl
    rw [ev]
    generalize DoPost w cb pb bb q { c with stage := 8 } = Post at *
    clear h hr hb1 hbr hT h2 hc1
    go_enter Tryz.func60, Tryz.ntmps60
    go_wp2_with fail
    refine bodyPost_end (v := .tuple #[]) (by simp [results, show (Tryz.f60).results = #[] from rfl]) rfl ?_
    exact HP.out
  · have h2i : ((cl : Int) == 2) = false := beq_eq_false_iff_ne.2 (by omega)
    by_cases h3 : cl = 3
    · have hT : askedC c cl r = begC c 6 := by unfold askedC; rw [if_neg h2, if_pos h3]
      rw [hT]
      have K := Lib.hid ((do_begin (h.same hb1) hl 6 (by decide) (by decide) (fun h => by cases h)).mono (fun e w' hd => (⟨hd.1, DoPost.from_ hb1 hd⟩ : e = .returned (.tuple #[]) ∧ DoPost w cb pb bb q (begC c 6) e w')))
      have h3i : ((cl : Int) == 3) = true := by rw [h3]; rfl
      rw [ev]
      generalize DoPost w cb pb bb q (begC c 6) = Post at *
      clear h hr hb1 hbr hT h2 h3
      go_enter Tryz.func60, Tryz.ntmps60
      go_wp2_with fail
      refine K.out.mono ?_
      rintro e w3 ⟨rfl, hp⟩
      have HP := Lib.hid hp
      clear hp
      go_wp2_with fail
      refine bodyPost_end (v := .tuple #[]) (by simp [results, show (Tryz.f60).results = #[] from rfl]) rfl ?_
      exact HP.out
    · have hT : askedC c cl r = allC c true (stateM cl) r.code r.text := by unfold askedC; rw [if_neg h2, if_neg h3]
      rw [hT]
      have hb2 : Below w.heap.size w w1.drew := ⟨hb1.os, hb1.tape, hb1.output, hb1.size, hb1.block⟩
      have K := Lib.hid ((do_all (h.same hb2) hl hn true (stateM cl) (hr.same hb2)).mono (fun e w' hd => (⟨hd.1, DoPost.from_ hb2 hd⟩ : e = .returned (.tuple #[]) ∧ DoPost w cb pb bb q (allC c true (stateM cl) r.code r.text) e w')))
      have KS := Lib.hid (state_walk cl)
      have h3i : ((cl : Int) == 3) = false := beq_eq_false_iff_ne.2 (by omega)
      rw [ev] at K ⊢
      generalize DoPost w cb pb bb q (allC c true (stateM cl) r.code r.text) = Post at *
      have k0d : w1.drew.cell? ⟨w.heap.size, 0, none⟩ = some (.int .i64 r.code) := k0
      have k1d : w1.drew.cell? ⟨w.heap.size, 1, none⟩ = some (.slice (some ⟨r.lb, r.lo, none⟩) r.nl r.cl) := k1
      clear h hr hb1 hbr hT h2 h3 hb2
      go_enter Tryz.func60, Tryz.ntmps60
      go_wp2_with fail
      go_region_with (first | (go_at_call 97; refine (KS.out _).mono ?_; rintro e w4 ⟨rfl, rfl⟩) | (go_at_call 100; refine K.out.mono ?_; rintro e w3 ⟨rfl, hp⟩; have HP := Lib.hid hp; clear hp))
      all_goals
        go_wp2_with fail
        refine bodyPost_end (v := .tuple #[]) (by simp [results, show (Tryz.f60).results = #[] from rfl]) rfl ?_
        exact HP.out
end Go.Proofs.YtjnjnccfojfghaaGreatDoor

/-! smtpc's hailed on the bundle. No condition but the lengths. -/
namespace Go.Proofs.YtjnjnccfojfghaaGreatDoor
open Go.RowKit
set_option linter.unusedVariables false
set_option maxRecDepth 4000 in
set_option maxHeartbeats 4000000 in
theorem hailed_walk {w : World} {cb pb : Nat} {bb : Option Nat} {c : ClM} {q : CPts} (h : CliP w cb pb bb c q) (hl : CLen c) (hn : c.ppl.length ≤ 1000) (cl : Nat) {r : Rep} (hr : RepAt w pb r) (hrc : r.lb ≠ cb) :
    Calls Tryz.prog 57 #[.pointer (some ⟨cb, 0, none⟩), .int .i64 (cl : Int), r.val] w (DoPost w cb pb bb q (hailedC c cl r)) := by
  obtain ⟨w1, hw1⟩ : ∃ w1, w.alloc (.cells #[.int .i64 r.code, .slice (some ⟨r.lb, r.lo, none⟩) r.nl r.cl] 57) = w1 := ⟨_, rfl⟩
  have hb1 : Below w.heap.size w w1 := by rw [← hw1]; exact (Below.refl _ _).alloc (Nat.le_refl _) _
  have hbr : Blk w1 w.heap.size 57 #[.int .i64 r.code, .slice (some ⟨r.lb, r.lo, none⟩) r.nl r.cl] := by rw [← hw1]; exact Blk.new w _ _
  have ev : r.val = .agg #[.int .i64 r.code, .slice (some ⟨r.lb, r.lo, none⟩) r.nl r.cl] := rfl
  have hc1 := h.same hb1
  have hcl := h.blk.lt
  have k4 : w1.cell? ⟨cb, 4, none⟩ = some (.int .i64 (c.stage : Int)) := hc1.blk.cell 4
  have k9 : w1.cell? ⟨cb, 9, none⟩ = some (.bool c.well) := hc1.blk.cell 9
  have kf9 := hc1.blk.frozen 9
  by_cases h2 : cl = 5 ∧ c.stage = 1
  · have hT : hailedC c cl r = begC c 2 := if_pos h2
    rw [hT]
    have K := Lib.hid ((do_begin hc1 hl 2 (by decide) (by decide) (fun h => by cases h)).mono (fun e w' hd => (⟨hd.1, DoPost.from_ hb1 hd⟩ : e = .returned (.tuple #[]) ∧ DoPost w cb pb bb q (begC c 2) e w')))
    have h2i : ((cl : Int) == 5) = true := by rw [h2.1]; rfl
    have h2s : ((c.stage : Int) == 1) = true := by rw [h2.2]; rfl
    rw [ev]
    generalize DoPost w cb pb bb q (begC c 2) = Post at *
    clear h hr hb1 hbr hT h2 hc1
    go_enter Tryz.func57, Tryz.ntmps57
    go_wp2_with fail
    refine K.out.mono ?_
    rintro e w3 ⟨rfl, hp⟩
    have HP := Lib.hid hp
    clear hp
    go_wp2_with fail
    refine bodyPost_ret (v := .tuple #[]) (by simp [results, show (Tryz.f57).results = #[] from rfl]) rfl ?_
    exact HP.out
  · have hT : hailedC c cl r = toC { c with well := decide (cl = 2) } 3 cl r := if_neg h2
    rw [hT]
    have hd2 : ((cl : Int) == 2) = decide (cl = 2) := Bool.eq_iff_iff.2 (by rw [beq_iff_eq, decide_eq_true_iff]; omega)
    have hc2 := hc1.well_ (decide (cl = 2))
    have hs2 : Safe (fun k => k < w.heap.size ∧ k ≠ cb) w (w1.setCell ⟨cb, 9, none⟩ (.bool (decide (cl = 2)))) := (Safe.of_below hb1 (fun k hk => hk.1)).set_ (p := ⟨cb, 9, none⟩) (fun hk => hk.2 rfl) _
    have hr2 : RepAt (w1.setCell ⟨cb, 9, none⟩ (.bool (decide (cl = 2)))) pb r := ⟨hr.n0, (World.cell?_setCell_far w1 ⟨cb, 9, none⟩ ⟨r.lb, r.lo, none⟩ _ (fun e => hrc e.symm)).trans (hr.same hb1).cell, hr.ne⟩
    have K := Lib.hid ((to_walk hc2 ⟨hl.sum, hl.bod, hl.ang⟩ hn 3 (by decide) (by decide) (fun h => by cases h) cl hr2).mono (fun e w' hd => (⟨hd.1, DoPost.from2 (by simp; exact hb1.size) hs2 hd⟩ : e = .returned (.tuple #[]) ∧ DoPost w cb pb bb q (toC { c with well := decide (cl = 2) } 3 cl r) e w')))
    have k0 : (w1.setCell ⟨cb, 9, none⟩ (.bool (decide (cl = 2)))).cell? ⟨w.heap.size, 0, none⟩ = some (.int .i64 r.code) := (World.cell?_setCell_far w1 ⟨cb, 9, none⟩ ⟨w.heap.size, 0, none⟩ _ (by show cb ≠ w.heap.size; omega)).trans (hbr.cell 0)
    have k1 : (w1.setCell ⟨cb, 9, none⟩ (.bool (decide (cl = 2)))).cell? ⟨w.heap.size, 1, none⟩ = some (.slice (some ⟨r.lb, r.lo, none⟩) r.nl r.cl) := (World.cell?_setCell_far w1 ⟨cb, 9, none⟩ ⟨w.heap.size, 1, none⟩ _ (by show cb ≠ w.heap.size; omega)).trans (hbr.cell 1)
    have hcase : ((cl : Int) == 5) = false ∨ ((cl : Int) == 5) = true ∧ ((c.stage : Int) == 1) = false := by
      by_cases h5 : cl = 5
      · exact .inr ⟨by rw [h5]; rfl, beq_eq_false_iff_ne.2 (fun e => h2 ⟨h5, by omega⟩)⟩
      · exact .inl (beq_eq_false_iff_ne.2 (by omega))
    rw [ev] at K ⊢
    generalize DoPost w cb pb bb q (toC { c with well := decide (cl = 2) } 3 cl r) = Post at *
    generalize decide (cl = 2) = D at *
    clear h hr hb1 hbr hT h2 hc1 hc2 hs2 hr2
    rcases hcase with h5 | ⟨h5, h6⟩ <;>
    · go_enter Tryz.func57, Tryz.ntmps57
      go_wp2_with fail
      refine K.out.mono ?_
      rintro e w3 ⟨rfl, hp⟩
      have HP := Lib.hid hp
      clear hp
      go_wp2_with fail
      refine bodyPost_end (v := .tuple #[]) (by simp [results, show (Tryz.f57).results = #[] from rfl]) rfl ?_
      exact HP.out
end Go.Proofs.YtjnjnccfojfghaaGreatDoor

/-! Whether one of a client's people is taken: slices.ContainsFunc on them. No condition. -/
namespace Go.Proofs.YtjnjnccfojfghaaGreatDoor
open Go.RowKit
set_option linter.unusedVariables false
theorem takenf_walk (p : Pers) (w : World) : Calls Tryz.prog 99 #[.agg #[.string (bs p.angle), .bool p.taken, .int .i64 (p.st : Int), .int .i64 p.code, .string (bs p.text)]] w fun e w' => Below w.heap.size w w' ∧ e = .returned (.bool p.taken) := by
  have HB := Lib.hid ((Below.refl w.heap.size w).alloc (Nat.le_refl _) (.cells #[.string (bs p.angle), .bool p.taken, .int .i64 (p.st : Int), .int .i64 p.code, .string (bs p.text)] 74))
  go_enter Tryz.func99, Tryz.ntmps99
  go_wp2_with fail
  go_ret
  exact ⟨HB.out, rfl⟩
set_option maxRecDepth 4000 in
set_option maxHeartbeats 4000000 in
theorem idxf_walk (w : World) (pb cpp : Nat) (L : List Pers) (n : Nat) (hn : n = L.length) (h : PplB w pb L) (hl : L.length ≤ 1000) :
    Calls Tryz.prog 130 #[.slice (some ⟨pb, 0, none⟩) n cpp, .func (.func 99) #[] #[]] w fun e w' => Below w.heap.size w w' ∧ ∃ z : Int, e = .returned (.int .i64 z) ∧ decide (0 ≤ z) = L.any (·.taken) := by
  subst hn
  have HP := Lib.hid h
  have KT := Lib.hid takenf_walk
  clear h
  go_enter Tryz.func130, Tryz.ntmps130
  go_wp2_with fail
  go_loopg [5, 8] L.length (fun k s5 i wr => ∃ j : Nat, i = .int .i64 (j : Int) ∧ j + k = L.length ∧ Hid (∀ (t : Nat) (p : Pers), t < j → L[t]? = some p → p.taken = false) ∧ Hid (Below w.heap.size w wr))
  case atStart => exact ⟨0, rfl, by omega, Lib.hid (fun t p h => absurd h (by omega)), Lib.hid (Below.refl _ _)⟩
  case round =>
    obtain ⟨j, rfl, hj, HA, HB⟩ := hrel
    have HPJ := Lib.hid (HP.out.same (HB.out.block pb HP.out.lt))
    by_cases hlt : j < L.length
    · have hj1 : (j : Int) < (L.length : Int) := by omega
      obtain ⟨p, hp⟩ : ∃ p, L[j]? = some p := ⟨_, List.getElem?_eq_getElem hlt⟩
      obtain ⟨c0, c1, c2, c3, c4⟩ := HPJ.out.at_ hp
      have HX := Lib.hid hp
      have KP := Lib.hid (KT.out p)
      have HJ := Lib.hid hj
      have HLT := Lib.hid hlt
      clear hp hj hlt
      go_wp2_with fail
      refine (KP.out _).mono ?_
      rintro e w3 ⟨hb3, rfl⟩
      have HB3 := Lib.hid (HB.out.trans (hb3.mono HB.out.size))
      clear hb3
      cases htk : p.taken with
      | true =>
        have HE : Hid (L.any (·.taken) = true) := Lib.hid (List.any_eq_true.2 ⟨p, List.mem_of_getElem? HX.out, htk⟩)
        go_wp2_with fail
        go_ret
        exact ⟨HB3.out, _, rfl, by rw [HE.out]; exact decide_eq_true (by omega)⟩
      | false =>
        have HT := Lib.hid htk
        go_wp2_with fail
        go_roundg (gk - 1)
        case rel => exact ⟨j + 1, by go_num, by have := HJ.out; have := HLT.out; omega, Lib.hid (fun t d ht hd => by
          by_cases htn : t < j
          · exact HA.out t d htn hd
          · obtain rfl : t = j := by omega
            rw [HX.out] at hd
            obtain rfl := Option.some.inj hd
            exact HT.out), HB3⟩
        case measure => have := HJ.out; have := HLT.out; omega
    · have hj1 : ¬ (j : Int) < (L.length : Int) := by omega
      have HE : Hid (L.any (·.taken) = false) := Lib.hid (by
        rw [List.any_eq_false]
        intro p hp
        obtain ⟨t, ht, rfl⟩ := List.getElem_of_mem hp
        rw [HA.out t _ (by omega) (List.getElem?_eq_getElem ht)]
        decide)
      go_wp2_with fail
      go_ret
      exact ⟨HB.out, _, rfl, by rw [HE.out]; rfl⟩
theorem any_walk (w : World) (pb cpp : Nat) (L : List Pers) (n : Nat) (hn : n = L.length) (h : PplB w pb L) (hl : L.length ≤ 1000) :
    Calls Tryz.prog 98 #[.slice (some ⟨pb, 0, none⟩) n cpp, .func (.func 99) #[] #[]] w fun e w' => Below w.heap.size w w' ∧ e = .returned (.bool (L.any (·.taken))) := by
  have K := Lib.hid (idxf_walk w pb cpp L n hn h hl)
  generalize L.any (·.taken) = D at *
  clear h hn
  go_enter Tryz.func98, Tryz.ntmps98
  go_wp2_with fail
  refine K.out.mono ?_
  rintro e w3 ⟨hb3, z, rfl, hz⟩
  have HB3 := Lib.hid hb3
  have HZ := Lib.hid hz
  clear hb3 hz
  go_wp2_with fail
  go_ret
  exact ⟨HB3.out, by rw [← HZ.out]; rfl⟩
end Go.Proofs.YtjnjnccfojfghaaGreatDoor

/-! The walk of smtpc's doings. No condition. -/
namespace Go.Proofs.YtjnjnccfojfghaaGreatDoor
open Go.RowKit
set_option linter.unusedVariables false
def doArr : Array Value := #[.func (.func 56) #[] #[], .func (.func 57) #[] #[], .func (.func 57) #[] #[], .func (.func 58) #[] #[], .func (.func 59) #[] #[], .func (.func 60) #[] #[], .func (.func 61) #[] #[], .func (.func 62) #[] #[]]
theorem res_blk1 {P : Program} {fn : Func} {i : Nat} {t t0 : TypeId} (hfn : fn.results = #[.cell i t]) {ie : TypeInfo} (hie : P.info? t = some ie) (hagg : ∀ w, (isAgg t).run P w = .ok true w) {tm : Array Value} {W : World} {g : Nat} {cs : Array Value} (hb : Blk W g t0 cs) (hsz : cs.size = ie.size) (h2 : tm[i]?.getD undef = .pointer (some ⟨g, 0, none⟩)) :
    (results fn tm).run P W = .ok (.agg cs) W := by
  have hl := load_blk hie hagg hb hsz
  have ha : (asAddr (.pointer (some ⟨g, 0, none⟩))).run P W = .ok ⟨g, 0, none⟩ W := rfl
  simp [results, hfn, h2, ha, hl, Result.andThen]
theorem dgs_info : ∃ ie, Tryz.prog.info? 79 = some ie ∧ ie.size = 8 := by
  have h : (Tryz.prog.info? 79).map (·.size) = some 8 := by kernel_rfl
  obtain ⟨i, hi, hz⟩ := Option.map_eq_some_iff.1 h
  exact ⟨i, hi, hz⟩
theorem dgs_agg (w : World) : (isAgg 79).run Tryz.prog w = .ok true w := by
  simp [isAgg, Tryz.underlying79, go_sem]
theorem doArr_one : ∀ v ∈ doArr.toList, v.oneCell' = true := by
  intro v hv
  simp only [doArr, List.mem_cons, List.not_mem_nil, or_false] at hv
  rcases hv with rfl | rfl | rfl | rfl | rfl | rfl | rfl | rfl <;> rfl
set_option maxHeartbeats 1000000 in
theorem doings_walk (w : World) : Calls Tryz.prog 35 #[] w fun e w' => Below w.heap.size w w' ∧ e = .returned (.agg doArr) := by
  obtain ⟨ie, h1, h2⟩ := dgs_info
  have HB := Lib.hid (Blk.new w 79 #[.nilFunc, .nilFunc, .nilFunc, .nilFunc, .nilFunc, .nilFunc, .nilFunc, .nilFunc])
  have HW := Lib.hid ((Below.refl w.heap.size w).alloc (Nat.le_refl _) (.cells #[.nilFunc, .nilFunc, .nilFunc, .nilFunc, .nilFunc, .nilFunc, .nilFunc, .nilFunc] 79))
  have H1 := Lib.hid h1
  have H2 : Hid (8 = ie.size) := Lib.hid h2.symm
  clear h1 h2
  go_enter Tryz.func35, Tryz.ntmps35
  go_wp2_with (refine wpList_storeB _ 79 H1.out _ _ w.heap.size _ doArr rfl rfl rfl rfl rfl HB.out H2.out H2.out doArr_one ?_; intro w1 hb1 ho1)
  exact bodyPost_ret (v := .agg doArr) (res_blk1 (i := 0) rfl H1.out dgs_agg hb1 H2.out rfl) rfl ⟨HW.out.trans (ho1.to_below HB.out.lt (Nat.le_refl _)), rfl⟩
end Go.Proofs.YtjnjnccfojfghaaGreatDoor

/-! smtpc's named on the bundle. No condition but the lengths. UNDER WAY. -/
namespace Go.Proofs.YtjnjnccfojfghaaGreatDoor
open Go.RowKit
set_option linter.unusedVariables false
theorem PplB.take_ {w : World} {pb : Nat} {L : List Pers} (h : PplB w pb L) {j : Nat} {p : Pers} (hp : L[j]? = some p) (b : Bool) : PplB (w.setCell ⟨pb, j * 5 + 1, none⟩ (.bool b)) pb (L.set j { p with taken := b }) := by
  obtain ⟨C, hb, hc⟩ := h
  have k := hc j p hp
  have z4 : j * 5 + 4 < C.size := (Array.getElem?_eq_some_iff.1 k.c4).1
  refine ⟨_, hb.set_ _ _, fun i q hq => ?_⟩
  by_cases hij : i = j
  · subst hij
    have hl := (List.getElem?_eq_some_iff.1 hp).1
    rw [List.getElem?_set_self hl] at hq
    obtain rfl := Option.some.inj hq
    refine ⟨?_, ?_, ?_, ?_, ?_⟩
    · rw [Array.getElem?_setIfInBounds_ne (by omega)]; exact k.c0
    · rw [Array.getElem?_setIfInBounds_self_of_lt (by omega)]
    · rw [Array.getElem?_setIfInBounds_ne (by omega)]; exact k.c2
    · rw [Array.getElem?_setIfInBounds_ne (by omega)]; exact k.c3
    · rw [Array.getElem?_setIfInBounds_ne (by omega)]; exact k.c4
  · rw [List.getElem?_set_ne (fun e => hij e.symm)] at hq
    have kq := hc i q hq
    refine ⟨?_, ?_, ?_, ?_, ?_⟩
    · rw [Array.getElem?_setIfInBounds_ne (by omega)]; exact kq.c0
    · rw [Array.getElem?_setIfInBounds_ne (by omega)]; exact kq.c1
    · rw [Array.getElem?_setIfInBounds_ne (by omega)]; exact kq.c2
    · rw [Array.getElem?_setIfInBounds_ne (by omega)]; exact kq.c3
    · rw [Array.getElem?_setIfInBounds_ne (by omega)]; exact kq.c4
/-- the people's block changed: the rest of the client stands -/
theorem CliP.people {w w' : World} {cb pb : Nat} {bb : Option Nat} {c : ClM} {q : CPts} (h : CliP w cb pb bb c q) (ho : Only pb w w') {L : List Pers} (hL : L.length = c.ppl.length) (hp : PplB w' pb L) : CliP w' cb pb bb { c with ppl := L } q := by
  have hk : ∀ k, k < w.heap.size → k ≠ pb → w'.heap[k]? = w.heap[k]? := fun k h1 h2 => ho.block k h1 (fun e => h2 (by injection e))
  refine ⟨?_, hp, h.body.same ho.size (fun a ha hlt => hk _ hlt (fun e => h.bp (by rw [h.ab a ha, e]))), h.ab, h.left.same (fun k hk2 => hk k (h.left.lt_ hk2) (fun e => h.lp (by rw [hk2, e]))), h.out.same (fun k hk2 => hk k (h.out.lt_ hk2) (fun e => h.op (by rw [hk2, e]))), h.lc, h.lp, h.oc, h.op, h.lo, h.lb, h.ob, h.pc, h.bc, h.bp, fun k hk2 => Nat.lt_of_lt_of_le (h.bl k hk2) ho.size⟩
  show Blk w' cb _ (cliC c.name c.frm (.slice (some ⟨pb, 0, none⟩) L.length q.cpp) _ _ _ _ _ _ _)
  rw [hL]
  exact (hk cb h.blk.lt (fun e => h.pc e.symm)).trans h.blk
theorem CliP.pos_ {w : World} {cb pb : Nat} {bb : Option Nat} {c : ClM} {q : CPts} (h : CliP w cb pb bb c q) (k : Nat) : CliP (w.setCell ⟨cb, 5, none⟩ (.int .i64 (k : Int))) cb pb bb { c with pos := k } q :=
  h.poke 5 _ rfl rfl rfl rfl (h.blk.set_ 5 _)
/-- what a reply to RCPT makes of the recipient at hand -/
def nmP (cl : Nat) (r : Rep) (p : Pers) : Pers := if cl = 2 then { p with taken := true } else { p with taken := false, st := stateM cl, code := r.code, text := r.text }
def nmC0 (c : ClM) (cl : Nat) (r : Rep) (p : Pers) : ClM := { c with ppl := c.ppl.set c.pos (nmP cl r p), pos := c.pos + 1 }
def nmK (c1 : ClM) : Nat := if c1.pos < c1.ppl.length then 4 else if c1.ppl.any (·.taken) then 5 else 7
def namedC (c : ClM) (cl : Nat) (r : Rep) (p : Pers) : ClM := begC (nmC0 c cl r p) (nmK (nmC0 c cl r p))
end Go.Proofs.YtjnjnccfojfghaaGreatDoor
