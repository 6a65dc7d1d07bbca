/-
  Several texts in one: ScNmd3, ScHrd, Read. Conditions: each part names its own.
-/
import Derived.Test.YtjnjnccfojfghaaGreatDoorMg26
import Derived.Test.YtjnjnccfojfghaaGreatDoorMg16
import Derived.Test.YtjnjnccfojfghaaGreatDoorMg7
import Derived.Test.YtjnjnccfojfghaaGreatDoorMg4
set_option linter.unusedSimpArgs false
/-! smtpc's named on the bundle, to a refusal. No condition but the lengths. -/
namespace Go.Proofs.YtjnjnccfojfghaaGreatDoor
open Go.RowKit
set_option linter.unusedVariables false
set_option maxRecDepth 4000 in
set_option maxHeartbeats 4000000 in
theorem named_no {w : World} {cb pb : Nat} {bb : Option Nat} {c : ClM} {q : CPts} (h : CliP w cb pb bb c q) (hl : CLen c) (hn : c.ppl.length ≤ 1000) {p : Pers} (hp : c.ppl[c.pos]? = some p) {r : Rep} (hr : RepAt w pb r) (cl : Nat) (hcl : cl ≠ 2) (hl1 : CLen (nmC0 c cl r p)) :
    Calls Tryz.prog 59 #[.pointer (some ⟨cb, 0, none⟩), .int .i64 (cl : Int), r.val] w (DoPost w cb pb bb q (namedC c cl r p)) := by
  obtain ⟨w1, hw1⟩ : ∃ w1, w.alloc (.cells #[.int .i64 r.code, .slice (some ⟨r.lb, r.lo, none⟩) r.nl r.cl] 57) = w1 := ⟨_, rfl⟩
  have hb1 : Below w.heap.size w w1 := by rw [← hw1]; exact (Below.refl _ _).alloc (Nat.le_refl _) _
  have ev : r.val = .agg #[.int .i64 r.code, .slice (some ⟨r.lb, r.lo, none⟩) r.nl r.cl] := rfl
  have hc1 := h.same hb1
  have hpos := (List.getElem?_eq_some_iff.1 hp).1
  have k2 : w1.cell? ⟨cb, 2, none⟩ = some (.slice (some ⟨pb, 0, none⟩) c.ppl.length q.cpp) := hc1.blk.cell 2
  have k5 : w1.cell? ⟨cb, 5, none⟩ = some (.int .i64 (c.pos : Int)) := hc1.blk.cell 5
  have hpi : (c.pos : Int) < (c.ppl.length : Int) := by omega
  have hp0 : (0 : Int) ≤ (c.pos : Int) := by omega
  have HC := Lib.hid hc1
  have HB1 := Lib.hid hb1
  have HPP := Lib.hid hp
  have HL := Lib.hid hl
  have HN := Lib.hid hn
  rw [ev]
  have PO : Hid (∀ w4 w' e, w.heap.size ≤ w4.heap.size → Safe (fun k => k < w.heap.size ∧ k ≠ cb ∧ k ≠ pb) w w4 → DoPost w4 cb pb bb q (begC (nmC0 c cl r p) (nmK (nmC0 c cl r p))) e w' → DoPost w cb pb bb q (namedC c cl r p) e w') := Lib.hid fun w4 w' e h1 h2 h3 => DoPost.from3 h1 h2 h3
  have HNP : Hid (nmC0 c cl r p = { c with ppl := c.ppl.set c.pos { p with taken := false, st := stateM cl, code := r.code, text := r.text }, pos := c.pos + 1 }) := Lib.hid (by unfold nmC0 nmP; rw [if_neg hcl])
  have h2i : ((cl : Int) == 2) = false := beq_eq_false_iff_ne.2 (by omega)
  have KS := Lib.hid (fun W => (state_walk cl W).mono (fun e w' h => (⟨h.1.symm, h.2⟩ : W = w' ∧ e = .returned (.int .i64 (stateM cl : Int)))))
  have hbr : Blk w1 w.heap.size 57 #[.int .i64 r.code, .slice (some ⟨r.lb, r.lo, none⟩) r.nl r.cl] := by rw [← hw1]; exact Blk.new w _ _
  have HBR := Lib.hid hbr
  have HRT := Lib.hid (hr.same hb1)
  have hplt := h.ppl.lt
  have HL1 := Lib.hid hl1
  generalize DoPost w cb pb bb q (namedC c cl r p) = Post at *
  have hpc := h.pc
  have hcp : cb ≠ pb := fun e => hpc e.symm
  clear h hr hb1 hc1 hp hl hl1 hbr hcl
  go_enter Tryz.func59, Tryz.ntmps59
  go_upto_region 1 with fail
  go_quiet (fail)
  go_upto_region 2 with fail
  have HB2 := Lib.hid (bdrewN HB1.out nq)
  have HC2 := Lib.hid (HC.out.same (bdrewN (Below.refl _ _) nq))
  have HBR2 : Hid (Blk (w1.drewN nq) w.heap.size 57 #[.int .i64 r.code, .slice (some ⟨r.lb, r.lo, none⟩) r.nl r.cl]) := HBR
  have HRT2 : Hid ((w1.drewN nq).cell? ⟨r.lb, r.lo, none⟩ = some (.string (bs r.text))) := Lib.hid HRT.out.cell
  generalize w1.drewN nq = w2 at *
  obtain ⟨c0, c1, c2', c3, c4⟩ := HC2.out.ppl.at_ HPP.out
  have f1 := HC2.out.ppl.fz (c.pos * 5 + 1)
  have hnz : 0 < r.nl := HRT.out.n0
  have hni : (0 : Int) < (r.nl : Int) := by omega
  have HCA : Hid (CliP (w2.setCell ⟨pb, c.pos * 5 + 1, none⟩ (.bool false)) cb pb bb { c with ppl := c.ppl.set c.pos { p with taken := false } } q) := Lib.hid (HC2.out.people ((Only.refl w2).set_ _ _) (by rw [List.length_set]) (HC2.out.ppl.take_ HPP.out false))
  have HFA : Hid (Safe (fun k => k < w.heap.size ∧ k ≠ cb ∧ k ≠ pb) w (w2.setCell ⟨pb, c.pos * 5 + 1, none⟩ (.bool false))) := Lib.hid ((Safe.of_below HB2.out (fun k hk => hk.1)).set_ (p := ⟨pb, c.pos * 5 + 1, none⟩) (fun hk => hk.2.2 rfl) _)
  have HZA : Hid (w.heap.size ≤ (w2.setCell ⟨pb, c.pos * 5 + 1, none⟩ (.bool false)).heap.size) := Lib.hid (by simp; exact HB2.out.size)
  have HRA : Hid ((w2.setCell ⟨pb, c.pos * 5 + 1, none⟩ (.bool false)).cell? ⟨r.lb, r.lo, none⟩ = some (.string (bs r.text))) := Lib.hid ((World.cell?_setCell_far w2 ⟨pb, c.pos * 5 + 1, none⟩ ⟨r.lb, r.lo, none⟩ _ (fun e => HRT.out.ne e.symm)).trans HRT2.out)
  have HBA : Hid (Blk (w2.setCell ⟨pb, c.pos * 5 + 1, none⟩ (.bool false)) w.heap.size 57 #[.int .i64 r.code, .slice (some ⟨r.lb, r.lo, none⟩) r.nl r.cl]) := Lib.hid (HBR2.out.far (p := ⟨pb, c.pos * 5 + 1, none⟩) (by show w.heap.size ≠ pb; omega) _)
  clear k2 k5
  go_upto_region 4 with fail
  generalize w2.setCell ⟨pb, c.pos * 5 + 1, none⟩ (.bool false) = wa at *
  have HPA : Hid ((c.ppl.set c.pos { p with taken := false })[c.pos]? = some { p with taken := false }) := Lib.hid (List.getElem?_set_self (List.getElem?_eq_some_iff.1 HPP.out).1)
  obtain ⟨a0, a1, a2, a3, a4⟩ := HCA.out.ppl.at_ HPA.out
  have f2 := HCA.out.ppl.fz (c.pos * 5 + 2)
  have f3 := HCA.out.ppl.fz (c.pos * 5 + 3)
  have f4 := HCA.out.ppl.fz (c.pos * 5 + 4)
  have r0d : wa.drew.cell? ⟨w.heap.size, 0, none⟩ = some (.int .i64 r.code) := HBA.out.cell 0
  have r1d : wa.drew.cell? ⟨w.heap.size, 1, none⟩ = some (.slice (some ⟨r.lb, r.lo, none⟩) r.nl r.cl) := HBA.out.cell 1
  have rtd : wa.drew.cell? ⟨r.lb, r.lo, none⟩ = some (.string (bs r.text)) := HRA.out
  have c2d : wa.drew.cell? ⟨pb, c.pos * 5 + 2, none⟩ = some (.int .i64 (p.st : Int)) := a2
  have c3d : wa.drew.cell? ⟨pb, c.pos * 5 + 3, none⟩ = some (.int .i64 p.code) := a3
  have c4d : wa.drew.cell? ⟨pb, c.pos * 5 + 4, none⟩ = some (.string (bs p.text)) := a4
  have f2d : wa.drew.frozen? ⟨pb, c.pos * 5 + 2, none⟩ = false := f2
  have f3d : wa.drew.frozen? ⟨pb, c.pos * 5 + 3, none⟩ = false := f3
  have f4d : wa.drew.frozen? ⟨pb, c.pos * 5 + 4, none⟩ = false := f4
  obtain ⟨wb, hwb⟩ : ∃ wb, (((wa.setCell ⟨pb, c.pos * 5 + 2, none⟩ (.int .i64 (stateM cl : Int))).setCell ⟨pb, c.pos * 5 + 2 + 1, none⟩ (.int .i64 r.code)).setCell ⟨pb, c.pos * 5 + 2 + 2, none⟩ (.string (bs r.text))).drew = wb := ⟨_, rfl⟩
  have HCB : Hid (CliP wb cb pb bb { c with ppl := c.ppl.set c.pos { p with taken := false, st := stateM cl, code := r.code, text := r.text } } q) := Lib.hid (by
    rw [← hwb]
    have h1 := PplB.set_ HCA.out.ppl HPA.out (stateM cl) r.code r.text
    rw [List.set_set] at h1
    exact HCA.out.people (L := c.ppl.set c.pos { p with taken := false, st := stateM cl, code := r.code, text := r.text }) (((((Only.refl (g := pb) wa).set_ _ _).set_ _ _).set_ _ _).drew 1) (by rw [List.length_set]; exact (List.length_set ..).symm) h1)
  have HFB : Hid (Safe (fun k => k < w.heap.size ∧ k ≠ cb ∧ k ≠ pb) w wb) := Lib.hid (by
    rw [← hwb]
    exact (((HFA.out.set_ (p := ⟨pb, c.pos * 5 + 2, none⟩) (fun hk => hk.2.2 rfl) _).set_ (p := ⟨pb, c.pos * 5 + 2 + 1, none⟩) (fun hk => hk.2.2 rfl) _).set_ (p := ⟨pb, c.pos * 5 + 2 + 2, none⟩) (fun hk => hk.2.2 rfl) _).drewN 1)
  have HZB : Hid (w.heap.size ≤ wb.heap.size) := Lib.hid (by rw [← hwb]; simp; exact HZA.out)
  have HWB := Lib.hid hwb
  have k5b : wb.cell? ⟨cb, 5, none⟩ = some (.int .i64 (c.pos : Int)) := HCB.out.blk.cell 5
  have f5 := HCB.out.blk.frozen 5
  have hwr : IntKind.i64.wrap ((c.pos : Int) + 1) = (c.pos : Int) + 1 := IntWalk.i64_in _ (by have := HN.out; omega)
  have HS3 : Hid (CliP (wb.setCell ⟨cb, 5, none⟩ (.int .i64 ((c.pos : Int) + 1))) cb pb bb (nmC0 c cl r p) q) := Lib.hid (by
    rw [HNP.out]
    exact HCB.out.pos_ (c.pos + 1))
  have HF3 : Hid (Safe (fun k => k < w.heap.size ∧ k ≠ cb ∧ k ≠ pb) w (wb.setCell ⟨cb, 5, none⟩ (.int .i64 ((c.pos : Int) + 1)))) := Lib.hid (HFB.out.set_ (p := ⟨cb, 5, none⟩) (fun hk => hk.2.1 rfl) _)
  have HZ3 : Hid (w.heap.size ≤ (wb.setCell ⟨cb, 5, none⟩ (.int .i64 ((c.pos : Int) + 1))).heap.size) := Lib.hid (by simp; exact HZB.out)
  have HLE : Hid ((nmC0 c cl r p).ppl.length ≤ 1000) := Lib.hid (by rw [HNP.out]; show (c.ppl.set _ _).length ≤ 1000; rw [List.length_set]; exact HN.out)
  have HKK : Hid (∀ c1, nmK c1 = if c1.pos < c1.ppl.length then 4 else if c1.ppl.any (·.taken) then 5 else 7) := Lib.hid fun _ => rfl
  obtain ⟨d, hd⟩ : ∃ d, nmC0 c cl r p = d := ⟨_, rfl⟩
  rw [hd] at HLE HS3 PO HL1
  clear hd hwb HNP
  -- the tail, once
  have K4 : Hid (∀ w4 : World, CliP w4 cb pb bb d q → Safe (fun k => k < w.heap.size ∧ k ≠ cb ∧ k ≠ pb) w w4 → w.heap.size ≤ w4.heap.size → nmK d = 4 → d.pos < d.ppl.length → Calls Tryz.prog 96 #[.pointer (some ⟨cb, 0, none⟩), .int .i64 4] w4 fun e w' => e = .returned (.tuple #[]) ∧ Post e w') := Lib.hid fun w4 h1 h2 h3 h4 h5 => by
    rw [h4] at PO
    exact (do_begin h1 HL1.out 4 (by decide) (by decide) (fun _ => h5)).mono (fun e w' hd => ⟨hd.1, PO.out _ _ _ h3 h2 hd⟩)
  have K57 : Hid (∀ (w4 : World) (n : Nat), CliP w4 cb pb bb d q → Safe (fun k => k < w.heap.size ∧ k ≠ cb ∧ k ≠ pb) w w4 → w.heap.size ≤ w4.heap.size → nmK d = n → n = 5 ∨ n = 7 → ∀ w5, Below w4.heap.size w4 w5 → Calls Tryz.prog 96 #[.pointer (some ⟨cb, 0, none⟩), .int .i64 (n : Int)] w5 fun e w' => e = .returned (.tuple #[]) ∧ Post e w') := Lib.hid fun w4 n h1 h2 h3 h4 h5 w5 hb5 => by
    rw [h4] at PO
    exact (do_begin (h1.same hb5) HL1.out n (by omega) (by omega) (fun h => by omega)).mono (fun e w' hd => ⟨hd.1, PO.out _ _ _ h3 h2 (DoPost.from_ hb5 hd)⟩)
  clear PO HL1
  go_region_with (first | (go_at_call 97; refine (KS.out _).mono ?_; rintro e w9 ⟨rfl, rfl⟩))
  all_goals
    rw [HWB.out]
    clear HWB r0d r1d rtd c2d c3d c4d f2d f3d f4d f2 f3 f4 a0 a1 a2 a3 a4
    go_upto_region 7 with fail
    generalize wb.setCell ⟨cb, 5, none⟩ (.int .i64 ((c.pos : Int) + 1)) = w3 at *
    have k2c : w3.cell? ⟨cb, 2, none⟩ = some (.slice (some ⟨pb, 0, none⟩) d.ppl.length q.cpp) := HS3.out.blk.cell 2
    have k5c : w3.cell? ⟨cb, 5, none⟩ = some (.int .i64 (d.pos : Int)) := HS3.out.blk.cell 5
    clear k5b f5 hwr
    go_quiet (fail)
    have HS4 := Lib.hid (HS3.out.same (bdrewN (Below.refl _ _) nq))
    have HF4 : Hid (Safe (fun k => k < w.heap.size ∧ k ≠ cb ∧ k ≠ pb) w (w3.drewN nq)) := Lib.hid (HF3.out.drewN nq)
    have HZ4 : Hid (w.heap.size ≤ (w3.drewN nq).heap.size) := Lib.hid HZ3.out
    have k2d : (w3.drewN nq).cell? ⟨cb, 2, none⟩ = some (.slice (some ⟨pb, 0, none⟩) d.ppl.length q.cpp) := k2c
    clear k2c k5c
    generalize w3.drewN nq = w4 at *
    by_cases hlt : d.pos < d.ppl.length
    · have hk : nmK d = 4 := by rw [HKK.out, if_pos hlt]
      have hli : (d.pos : Int) < (d.ppl.length : Int) := by omega
      have K := Lib.hid (K4.out w4 HS4.out HF4.out HZ4.out hk hlt)
      clear hlt hk K4 K57
      go_wp2_with fail
      refine K.out.mono ?_
      rintro e w5 ⟨rfl, hp⟩
      have HP := Lib.hid hp
      clear hp
      go_wp2_with fail
      refine bodyPost_end (v := .tuple #[]) (by simp [results, show (Tryz.f59).results = #[] from rfl]) rfl ?_
      exact HP.out
    · have hli : ¬ (d.pos : Int) < (d.ppl.length : Int) := by omega
      have KA := Lib.hid (any_walk w4 pb q.cpp d.ppl d.ppl.length rfl HS4.out.ppl HLE.out)
      cases han : d.ppl.any (·.taken) with
      | true =>
        have hk : nmK d = 5 := by rw [HKK.out, if_neg hlt, han]; rfl
        rw [han] at KA
        have K := Lib.hid (K57.out w4 5 HS4.out HF4.out HZ4.out hk (.inl rfl))
        clear hlt hk K4 K57 han
        go_wp2_with fail
        refine KA.out.mono ?_
        rintro e w5 ⟨hb5, rfl⟩
        have K5 := Lib.hid (K.out w5 hb5)
        clear hb5
        go_wp2_with fail
        refine K5.out.mono ?_
        rintro e w6 ⟨rfl, hp⟩
        have HP := Lib.hid hp
        clear hp
        go_wp2_with fail
        refine bodyPost_end (v := .tuple #[]) (by simp [results, show (Tryz.f59).results = #[] from rfl]) rfl ?_
        exact HP.out
      | false =>
        have hk : nmK d = 7 := by rw [HKK.out, if_neg hlt, han]; rfl
        rw [han] at KA
        have K := Lib.hid (K57.out w4 7 HS4.out HF4.out HZ4.out hk (.inr rfl))
        clear hlt hk K4 K57 han
        go_wp2_with fail
        refine KA.out.mono ?_
        rintro e w5 ⟨hb5, rfl⟩
        have K5 := Lib.hid (K.out w5 hb5)
        clear hb5
        go_wp2_with fail
        refine K5.out.mono ?_
        rintro e w6 ⟨rfl, hp⟩
        have HP := Lib.hid hp
        clear hp
        go_wp2_with fail
        refine bodyPost_end (v := .tuple #[]) (by simp [results, show (Tryz.f59).results = #[] from rfl]) rfl ?_
        exact HP.out
end Go.Proofs.YtjnjnccfojfghaaGreatDoor

/-! What Feed calls for a reply, by the stage. Conditions: the client's own. -/
namespace Go.Proofs.YtjnjnccfojfghaaGreatDoor
open Go.RowKit
set_option linter.unusedVariables false
theorem classP_nat (n : Int) : classP n = ((clsN n : Nat) : Int) := by
  have h : 0 ≤ classP n := by
    unfold classP
    split
    · rename_i h
      unfold codeOk at h
      rw [decide_eq_true_eq] at h
      omega
    · omega
  unfold clsN
  omega
theorem heardC_rep (c : ClM) (cl : Nat) {r r' : Rep} (h1 : r.code = r'.code) (h2 : r.text = r'.text) : heardC c cl r = heardC c cl r' := by
  obtain ⟨a1, a2, a3, a4, a5, a6⟩ := r
  obtain ⟨b1, b2, b3, b4, b5, b6⟩ := r'
  simp only at h1 h2
  subst h1
  subst h2
  rfl
theorem doArr_at {st : Nat} (h : st < 8) : ∃ fid, doArr[st]? = some (.func (.func fid) #[] #[]) := by
  have hs : st = 0 ∨ st = 1 ∨ st = 2 ∨ st = 3 ∨ st = 4 ∨ st = 5 ∨ st = 6 ∨ st = 7 := by omega
  rcases hs with rfl | rfl | rfl | rfl | rfl | rfl | rfl | rfl <;> exact ⟨_, rfl⟩
theorem callFunc_enter {P : Program} {f : FuncId} {fn : Func} (hf : P.funcs[f]? = some fn) (hname : (fn.name == "runtime.NumGoroutine") = false) (hb : fn.body.isNone = false) (args : Array Value) (w : World) : (callFunc f args).run P w = .ok (.enter f args) w := by
  have h1 : ¬ fn.name = "runtime.NumGoroutine" := fun e => by rw [e] at hname; cases hname
  have h2 : ¬ fn.body = none := fun e => by rw [e] at hb; cases hb
  simp [callFunc, go_sem, hf, h1, h2]
theorem doArr_enter {st : Nat} {fid : FuncId} (hf : doArr[st]? = some (.func (.func fid) #[] #[])) (args : Array Value) (W : World) : (callFunc fid args).run Tryz.prog W = .ok (.enter fid args) W := by
  have hl := (Array.getElem?_eq_some_iff.1 hf).1
  have h8 : st < 8 := hl
  have hs : st = 0 ∨ st = 1 ∨ st = 2 ∨ st = 3 ∨ st = 4 ∨ st = 5 ∨ st = 6 ∨ st = 7 := by omega
  rcases hs with rfl | rfl | rfl | rfl | rfl | rfl | rfl | rfl
  · obtain rfl : fid = 56 := by simpa [doArr] using hf.symm
    exact callFunc_enter Tryz.func56 (by kernel_rfl) (by kernel_rfl) args W
  · obtain rfl : fid = 57 := by simpa [doArr] using hf.symm
    exact callFunc_enter Tryz.func57 (by kernel_rfl) (by kernel_rfl) args W
  · obtain rfl : fid = 57 := by simpa [doArr] using hf.symm
    exact callFunc_enter Tryz.func57 (by kernel_rfl) (by kernel_rfl) args W
  · obtain rfl : fid = 58 := by simpa [doArr] using hf.symm
    exact callFunc_enter Tryz.func58 (by kernel_rfl) (by kernel_rfl) args W
  · obtain rfl : fid = 59 := by simpa [doArr] using hf.symm
    exact callFunc_enter Tryz.func59 (by kernel_rfl) (by kernel_rfl) args W
  · obtain rfl : fid = 60 := by simpa [doArr] using hf.symm
    exact callFunc_enter Tryz.func60 (by kernel_rfl) (by kernel_rfl) args W
  · obtain rfl : fid = 61 := by simpa [doArr] using hf.symm
    exact callFunc_enter Tryz.func61 (by kernel_rfl) (by kernel_rfl) args W
  · obtain rfl : fid = 62 := by simpa [doArr] using hf.symm
    exact callFunc_enter Tryz.func62 (by kernel_rfl) (by kernel_rfl) args W
theorem doArr_idx {st : Nat} {v : Value} (h : doArr[st]? = some v) (W : World) : (Instr.index 79 (.agg doArr) (.int .i64 (st : Int))).run Tryz.prog W = .ok v W := by
  have hl := (Array.getElem?_eq_some_iff.1 h).1
  have h8 : st < 8 := hl
  have hs : st = 0 ∨ st = 1 ∨ st = 2 ∨ st = 3 ∨ st = 4 ∨ st = 5 ∨ st = 6 ∨ st = 7 := by omega
  rcases hs with rfl | rfl | rfl | rfl | rfl | rfl | rfl | rfl <;>
  · have hv := h
    simp only [doArr] at hv
    obtain rfl := Option.some.inj hv
    simp [Instr.index, run_underlying Tryz.underlying79, doArr, go_sem]
theorem nm_len {c : ClM} (ok : COk c) {p : Pers} (hp : c.ppl[c.pos]? = some p) (cl : Nat) (r : Rep) : CLen (nmC0 c cl r p) := by
  have h := nm_sz ok.sz hp cl r
  have h1 := h.nm
  have h2 := h.fr
  have h3 := h.bd
  have h4 := ok.ln
  have ho : (nmC0 c cl r p).out = c.out := rfl
  exact ⟨by rw [ho]; omega, by rw [ho]; omega, fun p hp => by have := h.an p hp; rw [ho]; omega⟩
theorem heard_calls {w : World} {cb pb : Nat} {bb : Option Nat} {c : ClM} {q : CPts} (h : CliP w cb pb bb c q) (ok : COk c) (h8 : c.stage < 8) {fid : FuncId} (hf : doArr[c.stage]? = some (.func (.func fid) #[] #[])) (cl : Nat) {r : Rep} (hr : RepAt w pb r) (hrc : r.lb ≠ cb) :
    Calls Tryz.prog fid #[.pointer (some ⟨cb, 0, none⟩), .int .i64 (cl : Int), r.val] w (DoPost w cb pb bb q (heardC c cl r)) := by
  have hn : c.ppl.length ≤ 1000 := Nat.le_trans ok.sz.n50 (by decide)
  have hl := ok.len
  have hs : c.stage = 0 ∨ c.stage = 1 ∨ c.stage = 2 ∨ c.stage = 3 ∨ c.stage = 4 ∨ c.stage = 5 ∨ c.stage = 6 ∨ c.stage = 7 := by omega
  rcases hs with hs | hs | hs | hs | hs | hs | hs | hs
  · rw [hs] at hf
    obtain rfl : fid = 56 := by simpa [doArr] using hf.symm
    have e : heardC c cl r = toC c 1 cl r := by unfold heardC; rw [if_pos hs]
    rw [e]
    exact greeted_walk h hl hn cl hr
  · rw [hs] at hf
    obtain rfl : fid = 57 := by simpa [doArr] using hf.symm
    have e : heardC c cl r = hailedC c cl r := by unfold heardC; rw [if_neg (by omega), if_neg (by omega), if_neg (by omega), if_neg (by omega), if_neg (by omega), if_neg (by omega)]
    rw [e]
    exact hailed_walk h hl hn cl hr hrc
  · rw [hs] at hf
    obtain rfl : fid = 57 := by simpa [doArr] using hf.symm
    have e : heardC c cl r = hailedC c cl r := by unfold heardC; rw [if_neg (by omega), if_neg (by omega), if_neg (by omega), if_neg (by omega), if_neg (by omega), if_neg (by omega)]
    rw [e]
    exact hailed_walk h hl hn cl hr hrc
  · rw [hs] at hf
    obtain rfl : fid = 58 := by simpa [doArr] using hf.symm
    have e : heardC c cl r = toC c 4 cl r := by unfold heardC; rw [if_neg (by omega), if_pos hs]
    rw [e]
    exact mailed_walk h hl hn (ok.pos (by omega)) cl hr
  · rw [hs] at hf
    obtain rfl : fid = 59 := by simpa [doArr] using hf.symm
    obtain ⟨p, hp⟩ : ∃ p, c.ppl[c.pos]? = some p := ⟨_, List.getElem?_eq_getElem (ok.pos (by omega))⟩
    have e : heardC c cl r = namedC c cl r p := by unfold heardC; rw [if_neg (by omega), if_neg (by omega), if_pos hs, hp]
    rw [e]
    by_cases h2 : cl = 2
    · subst h2
      exact named_yes h hl hn hp hr (nm_len ok hp 2 r)
    · exact named_no h hl hn hp hr cl h2 (nm_len ok hp cl r)
  · rw [hs] at hf
    obtain rfl : fid = 60 := by simpa [doArr] using hf.symm
    have e : heardC c cl r = askedC c cl r := by unfold heardC; rw [if_neg (by omega), if_neg (by omega), if_neg (by omega), if_pos hs]
    rw [e]
    exact asked_walk h hl hn cl hr
  · rw [hs] at hf
    obtain rfl : fid = 61 := by simpa [doArr] using hf.symm
    have e : heardC c cl r = sentC c cl r := by unfold heardC; rw [if_neg (by omega), if_neg (by omega), if_neg (by omega), if_neg (by omega), if_pos hs]
    rw [e]
    exact sent_walk h hl hn cl hr
  · rw [hs] at hf
    obtain rfl : fid = 62 := by simpa [doArr] using hf.symm
    have e : heardC c cl r = { c with stage := 8 } := by unfold heardC; rw [if_neg (by omega), if_neg (by omega), if_neg (by omega), if_neg (by omega), if_neg (by omega), if_pos hs]
    rw [e]
    exact ended_walk h cl r
end Go.Proofs.YtjnjnccfojfghaaGreatDoor

/-! The walk of reply.cut. No condition but the sizes that the form gives. -/
namespace Go.Proofs.YtjnjnccfojfghaaGreatDoor
open Go.RowKit Go.Sort
set_option linter.unusedVariables false

/-- what cut answers -/
def cutS (l : List UInt8) : List UInt8 := if eol l < 0 then [] else l.take ((eol l).toNat + 1)
def cutE (l : List UInt8) : Int := if eol l < 0 then short l else 0

set_option maxHeartbeats 1000000 in
theorem cutR_walk {B : Nat} (A : Option Addr) (l : List UInt8) (cp : Nat) (w : World) (h : RB w B A l) (hl : l.length ≤ cp) (hc : cp ≤ maxLen) :
    Calls Tryz.prog 53 #[.slice A l.length cp] w fun e w' => w = w' ∧ e = .returned (.tuple #[.string ⟨(cutS l).toArray⟩, .int .i64 (cutE l)]) := by
  unfold maxLen at hc
  have hmn : (min (l.length : Int) 512).toNat = (l.take 512).length := by rw [List.length_take]; omega
  have hix := Any.bytes_IndexByteRB Tryz.lays187 (h.take 512) (min (l.length : Int) 512).toNat cp hmn 10
  rw [show Lib.indexByte (l.take 512) ((10 : Int).toNat.toUInt8) = eol l from rfl] at hix
  have HIX := Lib.hid hix
  have hge := eol_ge l
  have hS : Hid (eol l < 0 → cutS l = [] ∧ cutE l = short l) := Lib.hid fun he => ⟨by unfold cutS; rw [if_pos he], by unfold cutE; rw [if_pos he]⟩
  have hF : Hid (¬ eol l < 0 → cutS l = fst l ∧ cutE l = 0) := Lib.hid fun he => ⟨by unfold cutS; rw [if_neg he]; rfl, by unfold cutE; rw [if_neg he]⟩
  have hA : Hid (¬ eol l < 0 → (eol l).toNat < l.length) := Lib.hid fun he => (eol_at he).2.1
  have hB : Hid (∀ z : Int, eol l = z → fst l = l.take (z.toNat + 1)) := Lib.hid fun z hz => by subst hz; rfl
  clear hix hmn
  by_cases he : eol l < 0
  · obtain ⟨hs1, hs2⟩ := hS.out he
    have he1 : eol l = -1 := by omega
    rw [hs1, hs2]
    rw [he1] at HIX
    clear hS hF hA hB hs1 hs2 he he1 hge
    by_cases h5 : 512 ≤ l.length
    · have h6 : ((((min (l.length : Int) 512).toNat : Nat) : Int) == 512) = true := beq_iff_eq.2 (by omega)
      have h8 : short l = 142 := by unfold short; rw [if_pos h5]
      rw [h8]
      clear h8
      go_enter Tryz.func53, Tryz.ntmps53
      go_wp2_with fail
      refine HIX.out.mono ?_
      rintro e w' ⟨rfl, rfl⟩
      go_wp2
      all_goals
        go_ret2
        exact ⟨rfl, rfl⟩
    · have h6 : ((((min (l.length : Int) 512).toNat : Nat) : Int) == 512) = false := beq_eq_false_iff_ne.2 (by omega)
      have h8 : short l = 140 := by unfold short; rw [if_neg h5]
      rw [h8]
      clear h8
      go_enter Tryz.func53, Tryz.ntmps53
      go_wp2_with fail
      refine HIX.out.mono ?_
      rintro e w' ⟨rfl, rfl⟩
      go_wp2
      all_goals
        go_ret2
        exact ⟨rfl, rfl⟩
  · obtain ⟨hs1, hs2⟩ := hF.out he
    have hlt := hA.out he
    obtain ⟨z, hz⟩ : ∃ z, eol l = z := ⟨_, rfl⟩
    have hf := hB.out z hz
    rw [hs1, hs2, hf]
    rw [hz] at HIX he hlt
    have hz0 : 0 ≤ z := by omega
    have hz1 : z + 1 ≤ (l.length : Int) := by omega
    have hz2 : z + 1 ≤ (cp : Int) := by omega
    have hcv := run_convRB (P := Tryz.prog) 25 9 5 Tryz.underlying25 Tryz.underlying5 Tryz.underlying9 (h.take (z.toNat + 1)) (z + 1).toNat cp (by rw [List.length_take]; omega)
    clear hS hF hA hB hs1 hs2 he hge hz hf hlt
    go_enter Tryz.func53, Tryz.ntmps53
    go_wp2_with fail
    refine HIX.out.mono ?_
    rintro e w' ⟨rfl, rfl⟩
    go_wp2
    all_goals
      go_ret2
      exact ⟨rfl, rfl⟩
end Go.Proofs.YtjnjnccfojfghaaGreatDoor
