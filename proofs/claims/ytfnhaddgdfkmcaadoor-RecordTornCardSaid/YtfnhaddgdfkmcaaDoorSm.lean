/-
  The walks of waybilllaw03's small and of waybillref03's Copy. No condition but what the message is.
-/
import Derived.Test.YtfnhaddgdfkmcaaDoorDec
import Derived.Test.YtfnhaddgdfkmcaaDoorREnc
namespace Go.Proofs.YtfnhaddgdfkmcaaDoor
open Go.RowKit Go.Sort
set_option linter.unusedVariables false

def smallM : Msg := ⟨7, ⟨#[]⟩, [⟨⟨#[97, 64, 98]⟩, 80⟩], []⟩
theorem res_msg1 {fn : Func} {i : Nat} (hfn : fn.results = #[.cell i 25]) {tm : Array Value} {W : World} {g : Nat} {a b c d : Value} (hb : Blk W g 25 #[a, b, c, d]) (h2 : tm[i]?.getD undef = .pointer (some ⟨g, 0, none⟩)) :
    (results fn tm).run Tryd.prog W = .ok (.agg #[a, b, c, d]) W := by
  have k0 : W.cell? ⟨g, 0, none⟩ = some a := hb.cell 0
  have k1 : W.cell? ⟨g, 1, none⟩ = some b := hb.cell 1
  have k2 : W.cell? ⟨g, 2, none⟩ = some c := hb.cell 2
  have k3 : W.cell? ⟨g, 3, none⟩ = some d := hb.cell 3
  simp [results, hfn, h2, k0, k1, k2, k3, go_sem]
theorem small_walk (w : World) : Calls Tryd.prog 19 #[] w fun e w' => Below w.heap.size w w' ∧ ∃ A, e = .returned (.agg #[.int .i64 7, .string ⟨#[]⟩, .slice A 1 1, .slice none 0 0]) ∧ MsgAt w' w'.heap.size smallM A 1 none 0 := by
  go_enter Tryd.func19, Tryd.ntmps19
  go_wp2
  have b1 := Blk.new w 25 #[.int .i64 7, .string ⟨#[]⟩, .slice (some ⟨w.heap.size + 1, 0, none⟩) 1 1, .slice none 0 0]
  have hb1 : Below w.heap.size w (w.alloc (.cells #[.int .i64 7, .string ⟨#[]⟩, .slice (some ⟨w.heap.size + 1, 0, none⟩) 1 1, .slice none 0 0] 25)) := (Below.refl _ _).alloc (Nat.le_refl _) _
  have hs1 : (w.alloc (.cells #[.int .i64 7, .string ⟨#[]⟩, .slice (some ⟨w.heap.size + 1, 0, none⟩) 1 1, .slice none 0 0] 25)).heap.size = w.heap.size + 1 := by simp
  generalize w.alloc (.cells #[.int .i64 7, .string ⟨#[]⟩, .slice (some ⟨w.heap.size + 1, 0, none⟩) 1 1, .slice none 0 0] 25) = w1 at *
  have b2 := Blk.new w1 41 #[.string ⟨#[97, 64, 98]⟩, .int .u8 80]
  rw [hs1] at b2
  refine bodyPost_ret (res_msg1 rfl (b1.alloc _) rfl) rfl ⟨hb1.alloc (by omega) _, _, rfl, ?_⟩
  refine ⟨.inr ⟨w.heap.size + 1, 0, rfl, by simp [hs1], fun i hi => ?_⟩, .inl rfl, by decide, by decide, by decide, by decide, by decide, by decide, by decide, by decide, by decide, fun r hr => ?_⟩
  · obtain rfl : i = 0 := by simp [smallM] at hi; exact hi
    exact ⟨b2.cell 0, b2.cell 1⟩
  · simp [smallM] at hr
    subst hr; decide
/-! ### a row of recipients behind a row -/
set_option maxRecDepth 100000 in
theorem run_appR (w : World) (base : Nat) (ty : TypeId) {v : Value} {l k : List Rc} (hown : OwnR w base 41 v l) {B : Nat} {A : Option Addr} (c : Nat) (hr : RR w B A k)
    (hbytes : l.length + k.length ≤ 9000000000000) (hbase : base ≤ w.heap.size) :
    ∃ v' w', (Builtin.append_ #[22, 22] ty #[v, .slice A k.length c]).run Tryd.prog w = .ok v' w' ∧ OwnR w' base 41 v' (l ++ k) ∧ w.grownBy w' v.ownBlock := by
  obtain ⟨ii, hi1, hi2, hi3, hi4⟩ := info_parts (show (Tryd.prog.info? 41).map (fun i => (i.zero, i.size, i.bytes)) = some (some (.agg #[.string ⟨#[]⟩, .int .u8 0]), 2, 24) by kernel_rfl)
  have hone : ∀ u ∈ rcCells k, u.oneCell' = true := by
    intro u hu
    simp only [rcCells, List.mem_flatMap] at hu
    obtain ⟨b, _, hu⟩ := hu
    simp at hu
    rcases hu with rfl | rfl <;> rfl
  rcases A with _ | ad
  · obtain rfl : k = [] := by
      rcases hr with hr | ⟨_, _, hA, _⟩
      · exact hr
      · cases hA
    exact ⟨v, w, run_append_of_nil w base 22 ty 41 ii 2 Tryd.underlying22 hi1 v l.length _ hown c, by simpa using hown, World.grownBy.refl w _⟩
  · have hcells : ∀ j u, (rcCells k)[j]? = some u → w.cell? (ad.add j) = some u := by
      intro j u hu
      have hj : j < k.length * 2 := by
        have := (List.getElem?_eq_some_iff.1 hu).1
        rwa [rcCells_len] at this
      have hi : j / 2 < k.length := by omega
      obtain ⟨b, off, hA, _, hc⟩ := hr.at_ hi
      injection hA with hA
      subst hA
      obtain ⟨c1, c2⟩ := hc _ hi
      obtain ⟨e1, e2⟩ := rcCells_at k _ hi
      rw [Addr.add_lit]
      rcases Nat.mod_two_eq_zero_or_one j with hm | hm
      · have ej : j / 2 * 2 = j := by omega
        rw [ej] at c1 e1
        rw [c1, ← e1, hu]
      · have ej : j / 2 * 2 + 1 = j := by omega
        rw [ej] at e2
        rw [show off + j / 2 * 2 + 1 = off + j by omega] at c2
        rw [c2, ← e2, hu]
    obtain ⟨v', w', hrun, h3, h4, _⟩ := run_append_own_wide (P := Tryd.prog) w base 22 ty 41 ii (.agg #[.string ⟨#[]⟩, .int .u8 0]) 2 24 Tryd.underlying22 hi1 hi2 hi3 hi4 rfl (by omega) v l.length (rcCells l) hown ad k.length c (rcCells k)
      (rcCells_len k) hcells hone (by simp only [maxLen]; omega) (by omega) hbase
    refine ⟨v', w', hrun, ?_, h4⟩
    unfold OwnR
    rw [List.length_append, rcCells_app]
    exact h3
theorem wpList_appR (w : World) {ops : Array Oper} {rest : List Oper} {o : Oper} {a : Act} {Q : Exit → Act → World → Prop} (s x : Operand)
    (ho : o.op = .call { callee := .builtin .append, args := #[s, x], argTypes := #[22, 22] }) (hgd : o.guard = none)
    (base : Nat) {v : Value} {l k : List Rc} (hs : a.eval s = v) (hown : OwnR w base 41 v l) {B : Nat} {A : Option Addr} (m c : Nat) (hx : a.eval x = .slice A m c) (hm : m = k.length) (hr : RR w B A k)
    (hbytes : l.length + k.length ≤ 9000000000000) (hbase : base ≤ w.heap.size)
    (h : ∀ v' w', OwnR w' base 41 v' (l ++ k) → w.grownBy w' v.ownBlock → wpList Tryd.prog ops Q rest (a.put o.dst v') w') : wpList Tryd.prog ops Q (o :: rest) a w := by
  subst hm
  refine wpList_plain hgd fun K hK => ?_
  obtain ⟨v', w', hrun, h2, h3⟩ := run_appR w base o.type hown c hr hbytes hbase
  unfold Oper.wp execOp
  simp only [ho, resolve, invoke, builtin, Sem.run_bind, Sem.run_pure, Result.andThen_ok, List.map_toArray, List.map_cons, List.map_nil, hs, hx, hrun]
  exact hK _ _ (h v' w' h2 h3)
/-- a message of the caller's own, in blocks from base on -/
def MsgOwn (w : World) (base : Nat) (m : Msg) (v1 v2 : Value) : Prop := OwnR w base 41 v1 m.rcpts ∧ OwnW w base v2 m.data
theorem copy_walk (m : Msg) (A1 : Option Addr) (c1 : Nat) (A2 : Option Addr) (c2 : Nat) (w : World) (h : MsgAt w w.heap.size m A1 c1 A2 c2) :
    Calls Tryd.prog 8 #[.agg (mCells m A1 c1 A2 c2)] w fun e w' => Below w.heap.size w w' ∧ ∃ v1 v2, e = .returned (.agg #[.int .i64 m.time, .string m.frm, v1, v2]) ∧ MsgOwn w' w.heap.size m v1 v2 := by
  have b1 := Blk.new w 25 (mCells m A1 c1 A2 c2)
  have a1 : Below w.heap.size w (w.alloc (.cells (mCells m A1 c1 A2 c2) 25)) := (Below.refl _ _).alloc (Nat.le_refl _) _
  have s1 : (w.alloc (.cells (mCells m A1 c1 A2 c2) 25)).heap.size = w.heap.size + 1 := by simp
  generalize hw1 : w.alloc (.cells (mCells m A1 c1 A2 c2) 25) = w1 at *
  have b2 := Blk.new w1 25 #[.int .i64 0, .string ⟨#[]⟩, .slice none 0 0, .slice none 0 0]
  have a2 : Below w.heap.size w (w1.alloc (.cells #[.int .i64 0, .string ⟨#[]⟩, .slice none 0 0, .slice none 0 0] 25)) := a1.alloc (by omega) _
  have s2 : (w1.alloc (.cells #[.int .i64 0, .string ⟨#[]⟩, .slice none 0 0, .slice none 0 0] 25)).heap.size = w.heap.size + 1 + 1 := by simp [s1]
  have b1' := b1.alloc (.cells #[.int .i64 0, .string ⟨#[]⟩, .slice none 0 0, .slice none 0 0] 25)
  rw [s1] at b2
  generalize hw2 : w1.alloc (.cells #[.int .i64 0, .string ⟨#[]⟩, .slice none 0 0, .slice none 0 0] 25) = w2 at *
  have b3 := Blk.new w2 25 #[.int .i64 m.time, .string m.frm, .slice none 0 0, .slice none 0 0]
  have a3 : Below w.heap.size w (w2.alloc (.cells #[.int .i64 m.time, .string m.frm, .slice none 0 0, .slice none 0 0] 25)) := a2.alloc (by omega) _
  have s3 : (w2.alloc (.cells #[.int .i64 m.time, .string m.frm, .slice none 0 0, .slice none 0 0] 25)).heap.size = w.heap.size + 1 + 1 + 1 := by simp [s2]
  have b1'' := b1'.alloc (.cells #[.int .i64 m.time, .string m.frm, .slice none 0 0, .slice none 0 0] 25)
  have b2' := b2.alloc (.cells #[.int .i64 m.time, .string m.frm, .slice none 0 0, .slice none 0 0] 25)
  rw [s2] at b3
  have k0 : w2.cell? ⟨w.heap.size, 0, none⟩ = some (.int .i64 m.time) := b1'.cell 0
  have k1 : w2.cell? ⟨w.heap.size, 1, none⟩ = some (.string m.frm) := b1'.cell 1
  have q0 : (w2.alloc (.cells #[.int .i64 m.time, .string m.frm, .slice none 0 0, .slice none 0 0] 25)).cell? ⟨w.heap.size + 1 + 1, 2, none⟩ = some (.slice none 0 0) := b3.cell 2
  have q1 : (w2.alloc (.cells #[.int .i64 m.time, .string m.frm, .slice none 0 0, .slice none 0 0] 25)).cell? ⟨w.heap.size, 2, none⟩ = some (.slice A1 m.rcpts.length c1) := b1''.cell 2
  have hRR := Lib.hid (h.rr.below a3)
  have hRB := Lib.hid h.rb
  have hl1 := h.m1
  have hl2 := h.m2
  have HA3 := Lib.hid a3
  have HB1 := Lib.hid b1''
  have HB2 := Lib.hid b2'
  have HB3 := Lib.hid b3
  obtain ⟨t, fr, L, d⟩ := m
  unfold mCells at *
  dsimp only at *
  clear b1 b1' b1'' b2 b2' b3 a1 a2 a3 h
  go_enter Tryd.func8, Tryd.ntmps8
  go_wp2_with (first
    | (at_builtin; refine wpList_appR _ (.tmp 10) (.tmp 12) rfl rfl (w.heap.size + 1 + 1 + 1) rfl (OwnR.nil _ _ _) _ _ rfl rfl hRR.out (by simp only [List.length_nil]; omega) (by omega) ?_; intro v1 w4 hv1 hg4; have hb4 : Below (w.heap.size + 1 + 1 + 1) _ w4 := ⟨hg4.os, hg4.tape, hg4.output, hg4.size, fun k hk => hg4.block k (by omega) (fun e => by cases e)⟩; have s4 := hb4.size; have B1 := HB1.out.below hb4 (by omega); have B2 := HB2.out.below hb4 (by omega); have B3 := HB3.out.below hb4 (by omega); have A4 := Lib.hid (HA3.out.trans (hb4.mono (show w.heap.size ≤ w.heap.size + 1 + 1 + 1 by omega))); obtain ⟨Av, nv, cv, rfl⟩ := own_sl hv1; have HV1 := Lib.hid hv1; have m2 : w4.cell? ⟨w.heap.size + 1 + 1, 2, none⟩ = some (.slice none 0 0) := B3.cell 2; have f2 := B3.frozen 2; have q2 : w4.cell? ⟨w.heap.size + 1 + 1, 3, none⟩ = some (.slice none 0 0) := B3.cell 3; have q3 : w4.cell? ⟨w.heap.size, 3, none⟩ = some (.slice A2 d.length c2) := B1.cell 3; have C1 := Lib.hid B1; have C2 := Lib.hid B2; have C3 := Lib.hid (B3.set_ 2 (.slice Av nv cv)); clear B1 B2 B3 hv1 hg4 hb4)
    | (at_builtin; go_loud (refine wpList_appB _ isU8 (.tmp 16) (.tmp 18) rfl rfl (w4.setCell ⟨w.heap.size + 1 + 1, 2, none⟩ (.slice Av nv cv)).heap.size rfl (OwnB.nil _ _ _) (k := d) _ _ rfl rfl (hRB.out.below (A4.out.setCell (by simp <;> omega) _)) (by simp only [List.length_nil]; omega) (Nat.le_refl _) ?_; intro v2 w5 hv2 hb5; have s5 := hb5.size; simp only [World.size_setCell] at s5; have B2 := (C2.out.far (p := ⟨w.heap.size + 1 + 1, 2, none⟩) (by simp <;> omega) (.slice Av nv cv)).keep hb5; have B3 := C3.out.keep hb5; have A5 := Lib.hid ((A4.out.setCell (p := ⟨w.heap.size + 1 + 1, 2, none⟩) (by simp <;> omega) (.slice Av nv cv)).trans (hb5.mono (by simp <;> omega))); have O1 := Lib.hid (OwnR.below (own_far HV1.out (p := ⟨w.heap.size + 1 + 1, 2, none⟩) (by simp <;> omega) (.slice Av nv cv)) hb5); have O2 := Lib.hid (OwnW.of_own hv2); obtain ⟨Aw, nw, cw, rfl⟩ := hv2.sl; have m3 : w5.cell? ⟨w.heap.size + 1 + 1, 3, none⟩ = some (.slice none 0 0) := B3.cell 3; have f3 := B3.frozen 3; have q4 : w5.cell? ⟨w.heap.size + 1 + 1, 0, none⟩ = some (.int .i64 t) := B3.cell 0; have q5 : w5.cell? ⟨w.heap.size + 1 + 1, 1, none⟩ = some (.string fr) := B3.cell 1; have q6 : w5.cell? ⟨w.heap.size + 1 + 1, 2, none⟩ = some (.slice Av nv cv) := B3.cell 2; have g0 := B2.frozen 0; have g1 := B2.frozen 1; have g2 := B2.frozen 2; have g3 := B2.frozen 3; have r0 := B2.cell 0; have r1 := B2.cell 1; have r2 := B2.cell 2; have r3 := B2.cell 3; have D2 := Lib.hid B2; clear B2 B3 hb5 hv2)))
  have B0 := (((((D2.out.far (p := ⟨w.heap.size + 1 + 1, 3, none⟩) (by simp <;> omega) (.slice Aw nw cw)).set_ 0 (.int .i64 t)).set_ 1 (.string fr)).set_ 2 (.slice Av nv cv)).set_ 3 (.slice Aw nw cw))
  refine bodyPost_ret (res_msg1 rfl B0 rfl) rfl ⟨((((A5.out.setCell (by simp <;> omega) _).setCell (by simp <;> omega) _).setCell (by simp <;> omega) _).setCell (by simp <;> omega) _).setCell (by simp <;> omega) _, _, _, rfl, ?_, ?_⟩
  · exact own_base_lt ((own_far (own_far (own_far (own_far (own_far O1.out (p := ⟨w.heap.size + 1 + 1, 3, none⟩) (by simp <;> omega) _) (p := ⟨w.heap.size + 1, 0, none⟩) (by simp <;> omega) _) (p := ⟨w.heap.size + 1, 1, none⟩) (by simp <;> omega) _) (p := ⟨w.heap.size + 1, 2, none⟩) (by simp <;> omega) _) (p := ⟨w.heap.size + 1, 3, none⟩) (by simp <;> omega) _)) (by omega)
  · exact (((((O2.out.far (p := ⟨w.heap.size + 1 + 1, 3, none⟩) (by simp <;> omega) _).far (p := ⟨w.heap.size + 1, 0, none⟩) (by simp <;> omega) _).far (p := ⟨w.heap.size + 1, 1, none⟩) (by simp <;> omega) _).far (p := ⟨w.heap.size + 1, 2, none⟩) (by simp <;> omega) _).far (p := ⟨w.heap.size + 1, 3, none⟩) (by simp <;> omega) _).mono (by simp <;> omega)
end Go.Proofs.YtfnhaddgdfkmcaaDoor
