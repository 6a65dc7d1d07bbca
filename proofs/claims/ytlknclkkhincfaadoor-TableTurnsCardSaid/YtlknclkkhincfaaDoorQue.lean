/-
  A slice of bytes that begins anywhere in a block of the call's own, and append onto it; over any program. No condition but the sizes.
-/
import Derived.Test.YtlknclkkhincfaaDoorWri
import Derived.ArgAppend
import Derived.Deep.Upon
namespace Go.Proofs.YtlknclkkhincfaaDoor
open Go.RowKit
set_option linter.unusedVariables false

/-- v reads as l; if it has room for a byte, its cells up to its capacity lie in block own, from base on, and may be written -/
def OwnQ (w : World) (base : Nat) (own : Option Nat) (v : Value) (l : List UInt8) : Prop :=
  ∃ A c, v = .slice A l.length c ∧ l.length ≤ c ∧ c ≤ maxLen ∧ ((c = 0 ∧ own = none) ∨ ∃ g off, own = some g ∧ A = some ⟨g, off, none⟩ ∧ base ≤ g ∧ g < w.heap.size ∧ (∀ i, i < l.length → w.cell? ⟨g, off + i, none⟩ = some (.int .u8 (bt l i))) ∧ ∀ i, i < c → (w.cell? ⟨g, off + i, none⟩).isSome = true ∧ w.frozen? ⟨g, off + i, none⟩ = false)
section
variable {w w' : World} {base base' : Nat} {own : Option Nat} {v : Value} {l : List UInt8}
theorem OwnQ.nil (w : World) (base : Nat) (A : Option Addr) : OwnQ w base none (.slice A 0 0) [] := ⟨A, 0, rfl, Nat.le_refl _, by simp [maxLen], .inl ⟨rfl, rfl⟩⟩
theorem OwnQ.out (h : OwnQ w base own v l) : Out w v l := by
  obtain ⟨A, c, rfl, h1, h2, h3⟩ := h
  refine ⟨A, c, rfl, h1, h2, ?_⟩
  rcases h3 with ⟨h3, _⟩ | ⟨g, off, _, rfl, _, hg, hc, _⟩
  · exact .inl (List.eq_nil_of_length_eq_zero (by omega))
  · exact .inr ⟨g, off, rfl, hg, hc⟩
theorem OwnQ.kept {row : Option Nat} (h : OwnQ w base own v l) (hg : w.grownBy w' row) (hne : own = none ∨ own ≠ row) : OwnQ w' base own v l := by
  obtain ⟨A, c, rfl, h1, h2, h3⟩ := h
  refine ⟨A, c, rfl, h1, h2, ?_⟩
  rcases h3 with h3 | ⟨g, off, rfl, rfl, hb, hlt, hc, hf⟩
  · exact .inl h3
  · have e := hg.block g hlt (by rcases hne with h | h; · cases h
                                 · exact h)
    refine .inr ⟨g, off, rfl, rfl, hb, Nat.lt_of_lt_of_le hlt hg.size, fun i hi => ?_, fun i hi => ?_⟩
    · rw [← hc i hi]; exact World.cell?_of_block e
    · rw [World.cell?_of_block (w := w) e, World.frozen?_of_block (w := w) e]; exact hf i hi
theorem OwnQ.below (h : OwnQ w base own v l) (hb : Below w.heap.size w w') : OwnQ w' base own v l :=
  h.kept (grownBy_of_below hb none) (by cases own <;> simp)
theorem OwnQ.alloc (h : OwnQ w base own v l) (o : Obj) : OwnQ (w.alloc o) base own v l := h.kept (World.grownBy_alloc w o none) (by cases own <;> simp)
theorem OwnQ.far (h : OwnQ w base own v l) {p : Addr} (hp : own ≠ some p.block) (u : Value) : OwnQ (w.setCell p u) base own v l :=
  h.kept (row := some p.block) ⟨rfl, rfl, rfl, by simp, fun i hi hne => Below.heap_setCell w p u i (fun e => hne (by rw [e]))⟩ (.inr hp)
theorem OwnQ.base_ (h : OwnQ w base own v l) {g : Nat} (hg : own = some g) : base ≤ g ∧ g < w.heap.size := by
  obtain ⟨A, c, rfl, h1, h2, h3⟩ := h
  rcases h3 with ⟨_, h3⟩ | ⟨g', off, h3, rfl, hb, hlt, hc, hf⟩
  · rw [h3] at hg; cases hg
  · rw [h3] at hg; cases hg; exact ⟨hb, hlt⟩
theorem OwnQ.rb {A : Option Addr} {n c : Nat} (h : OwnQ w base own (.slice A n c) l) : RB w w.heap.size A l ∧ n = l.length ∧ n ≤ c ∧ c ≤ maxLen := by
  obtain ⟨A', c', e, h1, h2, hr⟩ := h.out
  injection e with e1 e2 e3
  subst e1; subst e2; subst e3
  exact ⟨hr, rfl, h1, h2⟩
/-- what is left of it behind some bytes -/
theorem OwnQ.tail {A : Option Addr} {n c : Nat} (h : OwnQ w base own (.slice A n c) l) (k : Nat) (hk : k ≤ l.length) :
    ∃ own', (own' = own ∨ own' = none) ∧ OwnQ w base own' (.slice (if c = k then A else A.map fun a => a.add k) (n - k) (c - k)) (l.drop k) := by
  obtain ⟨A', c', e, h1, h2, h3⟩ := h
  injection e with e1 e2 e3
  subst e1; subst e2; subst e3
  by_cases hck : c = k
  · refine ⟨none, .inr rfl, A, 0, ?_, ?_, by simp [maxLen], .inl ⟨rfl, rfl⟩⟩
    · rw [if_pos hck, List.length_drop, hck, Nat.sub_self]
    · rw [List.length_drop]; omega
  · rcases h3 with ⟨h3, h4⟩ | ⟨g, off, h3, rfl, hb, hlt, hc, hf⟩
    · omega
    · refine ⟨own, .inl rfl, some ⟨g, off + k, none⟩, c - k, ?_, ?_, by omega, .inr ⟨g, off + k, h3, rfl, hb, hlt, fun i hi => ?_, fun i hi => ?_⟩⟩
      · rw [if_neg hck, List.length_drop]
        simp [Addr.add_lit]
      · rw [List.length_drop]; omega
      · rw [List.length_drop] at hi
        rw [Nat.add_assoc, hc (k + i) (by omega)]
        unfold bt
        rw [List.getD_eq_getElem?_getD, List.getD_eq_getElem?_getD, List.getElem?_drop]
      · rw [Nat.add_assoc]; exact hf (k + i) (by omega)
end
theorem bt_app_l {l k : List UInt8} {i : Nat} (h : i < l.length) : bt (l ++ k) i = bt l i := by
  unfold bt; rw [List.getD_eq_getElem?_getD, List.getD_eq_getElem?_getD, List.getElem?_append_left h]
theorem bt_app_r {l k : List UInt8} {i : Nat} : bt (l ++ k) (l.length + i) = bt k i := by
  unfold bt; rw [List.getD_eq_getElem?_getD, List.getD_eq_getElem?_getD, List.getElem?_append_right (by omega), Nat.add_sub_cancel_left]
theorem keptBlk_setCells (b : Nat) : ∀ (vs : List Value) (o : Nat) (w : World), w.grownBy (w.setCells b o vs) (some b)
  | [], o, w => World.grownBy.refl w _
  | v :: r, o, w => by
    have ih := keptBlk_setCells b r (o + 1) (w.setCell ⟨b, o, none⟩ v)
    refine ⟨ih.os, ih.tape, ih.output, Nat.le_trans (by simp) ih.size, fun i hi hne => ?_⟩
    rw [World.setCells, ih.block i (by simpa using hi) hne]
    exact Below.heap_setCell w ⟨b, o, none⟩ v i (fun e => hne (by rw [e]))
theorem byteCells_at {k : List UInt8} {j : Nat} {u : Value} (h : (Lib.byteCells k)[j]? = some u) : j < k.length ∧ u = .int .u8 (bt k j) := by
  have hj : j < k.length := by
    have := (List.getElem?_eq_some_iff.1 h).1
    simpa [Lib.byteCells] using this
  refine ⟨hj, ?_⟩
  rw [bt_getElem hj]
  simpa [Lib.byteCells, hj] using h.symm
theorem byteCells_one (k : List UInt8) : ∀ u ∈ Lib.byteCells k, u.oneCell' = true := by
  intro u hu
  simp only [Lib.byteCells, List.mem_map] at hu
  obtain ⟨b, _, rfl⟩ := hu
  rfl
theorem byteCells_len (k : List UInt8) : (Lib.byteCells k).length = k.length := by simp [Lib.byteCells]
section
variable {P : Program} (w : World)
/-- the new block of an append that grows -/
theorem OwnQ.newRow {E : TypeId} (base : Nat) (l : List UInt8) (c : Nat) (z : Array Value) (hz : z.size = c - l.length) (hl : l.length ≤ c) (hm : c ≤ maxLen) (hb : base ≤ w.heap.size) (cs : Array Value) (hcs : cs = (Lib.byteCells l).toArray ++ z) :
    OwnQ (w.alloc (.cells cs E)) base (some w.heap.size) (.slice (some ⟨w.heap.size, 0, none⟩) l.length c) l := by
  subst hcs
  have hB := Blk.new w E ((Lib.byteCells l).toArray ++ z)
  refine ⟨_, c, rfl, hl, hm, .inr ⟨w.heap.size, 0, rfl, rfl, hb, by simp, fun i hi => ?_, fun i hi => ?_⟩⟩
  · rw [Nat.zero_add, hB.cell i, Array.getElem?_append_left (by simpa [byteCells_len] using hi), bt_getElem hi]
    simp [Lib.byteCells, hi]
  · rw [Nat.zero_add, hB.cell i]
    refine ⟨?_, hB.frozen i⟩
    rw [Array.getElem?_eq_getElem (by simp [byteCells_len]; omega)]
    rfl
theorem run_appQ {t E : TypeId} (hU : U8 P t E) (base : Nat) (ty : TypeId) {own : Option Nat} {v : Value} {l k : List UInt8} (hown : OwnQ w base own v l) {B : Nat} {A : Option Addr} (c : Nat) (hr : RB w B A k)
    (hbytes : l.length + k.length ≤ 140737488355328) (hbase : base ≤ w.heap.size) :
    ∃ v' own' w', (Builtin.append_ #[t, t] ty #[v, .slice A k.length c]).run P w = .ok v' w' ∧ OwnQ w' base own' v' (l ++ k) ∧ w.grownBy w' own ∧ (own' = own ∨ own' = some w.heap.size) := by
  obtain ⟨i, hi, hz, h1, h2⟩ := hU.hi
  obtain ⟨Av, cv, rfl, hle, hmx, hq⟩ := hown
  rcases Nat.eq_zero_or_pos k.length with h0 | h0
  · obtain rfl : k = [] := List.eq_nil_of_length_eq_zero h0
    refine ⟨.slice Av l.length cv, own, w, ?_, by rw [List.append_nil]; exact ⟨Av, cv, rfl, hle, hmx, hq⟩, World.grownBy.refl w _, .inl rfl⟩
    rcases A with _ | ad
    · cases Av <;> simp [Builtin.append_, run_underlying hU.ht, sizeOf, typeInfo, hi, Builtin.lenOf, Builtin.firstCells, hle, storeCells]
    · have hl := run_loadCells_list (P := P) w ad [] (fun j v hj => by simp at hj)
      simp at hl
      cases Av <;> simp [Builtin.append_, run_underlying hU.ht, sizeOf, typeInfo, hi, Builtin.lenOf, Builtin.firstCells, hle, storeCells, h1, hl]
  · obtain ⟨b, off, rfl, _, hc⟩ := hr.at_ h0
    have hnews : ∀ j u, (Lib.byteCells k)[j]? = some u → w.cell? ((⟨b, off, none⟩ : Addr).add j) = some u := fun j u hu => by
      obtain ⟨hj, rfl⟩ := byteCells_at hu
      rw [Addr.add_lit]; exact hc j hj
    have hgf : cv < l.length + k.length → Builtin.nextslicecap (l.length + k.length) cv * i.bytes ≤ 281474976710656 := fun hg => growslice_fits hg (by rw [h2]; omega)
    have hml : l.length + k.length ≤ maxLen := by simp only [maxLen]; omega
    have hmi : ((l.length + k.length : Nat) : Int) ≤ 9223372036854775807 := by omega
    by_cases hroom : l.length + k.length ≤ cv
    · rcases hq with ⟨hq, _⟩ | ⟨g, o, rfl, rfl, hb, hlt, hcl, hf⟩
      · omega
      · have hfit : ∀ j, j < (Lib.byteCells k).length → o + l.length * i.size + j = o + (l.length + j) := fun j _ => by rw [h1]; omega
        have hrun := run_append_room_cells (P := P) w t ty E i hU.ht hi g o l.length cv ⟨b, off, none⟩ k.length c (Lib.byteCells k) (by rw [byteCells_len, h1, Nat.mul_one]) hnews (byteCells_one k) hroom
          (fun j hj => by rw [hfit j hj]; rw [byteCells_len] at hj; exact (hf (l.length + j) (by omega)).1)
          (fun j hj => by rw [hfit j hj]; rw [byteCells_len] at hj; exact (hf (l.length + j) (by omega)).2)
        have hkb := keptBlk_setCells g (Lib.byteCells k) (o + l.length * i.size) w
        have ein : ∀ j, (hj : j < k.length) → (w.setCells g (o + l.length * i.size) (Lib.byteCells k)).cell? ⟨g, o + l.length * i.size + j, none⟩ = some (.int .u8 (bt k j)) := fun j hj => by
          rw [World.cell?_setCells_in g (Lib.byteCells k) (o + l.length * i.size) w (fun j hj => by rw [hfit j hj]; rw [byteCells_len] at hj; exact (hf (l.length + j) (by omega)).1) j (by rw [byteCells_len]; exact hj), bt_getElem hj]
          simp [Lib.byteCells]
        have eout : ∀ x, x < l.length ∨ l.length + k.length ≤ x → (w.setCells g (o + l.length * i.size) (Lib.byteCells k)).cell? ⟨g, o + x, none⟩ = w.cell? ⟨g, o + x, none⟩ := fun x hx =>
          World.cell?_setCells_out g (Lib.byteCells k) (o + l.length * i.size) w ⟨g, o + x, none⟩ (fun _ _ => by rw [byteCells_len, h1]; show o + x < _ ∨ _ ≤ o + x; omega)
        refine ⟨_, some g, _, hrun, ⟨_, cv, by rw [List.length_append], by rw [List.length_append]; exact hroom, hmx, .inr ⟨g, o, rfl, rfl, hb, Nat.lt_of_lt_of_le hlt hkb.size, fun x hx => ?_, fun x hx => ⟨?_, ?_⟩⟩⟩, hkb, .inl rfl⟩
        · rw [List.length_append] at hx
          rcases Nat.lt_or_ge x l.length with hxl | hxl
          · rw [eout x (.inl hxl), hcl x hxl, bt_app_l hxl]
          · have := ein (x - l.length) (by omega)
            rw [h1, show o + l.length * 1 + (x - l.length) = o + x by omega] at this
            rw [h1, this, ← bt_app_r (l := l), show l.length + (x - l.length) = x by omega]
        · by_cases hx2 : x < l.length ∨ l.length + k.length ≤ x
          · rw [eout x hx2]; exact (hf x hx).1
          · have := ein (x - l.length) (by omega)
            rw [h1, show o + l.length * 1 + (x - l.length) = o + x by omega] at this
            rw [h1, this]; rfl
        · rw [World.frozen?_setCells]; exact (hf x hx).2
    · rcases Av with _ | av
      · have hcv : cv = 0 ∧ own = none := by
          rcases hq with hq | ⟨g, o, _, hA, _⟩
          · exact hq
          · cases hA
        obtain ⟨rfl, rfl⟩ := hcv
        obtain rfl : l = [] := List.eq_nil_of_length_eq_zero (by omega)
        have hrun := run_append_nil (P := P) w t ty E i (.int .u8 0) hU.ht hi hz ⟨b, off, none⟩ k.length c (Lib.byteCells k) (by rw [byteCells_len, h1, Nat.mul_one]) hnews h0 (by simpa using hmi) (by rw [h2]; simp at hbytes; omega)
        refine ⟨_, some w.heap.size, _, hrun, ?_, ⟨rfl, rfl, rfl, by simp, fun x hx _ => Below.heap_alloc w.drew _ x hx⟩, .inr rfl⟩
        exact OwnQ.newRow w.drew base k (grownCap w k.length 0 E) _ (by rw [size_zeroCells]; exact Nat.mul_one _) (grownCap_ge w _ _ _) (grownCap_le_maxLen w _ _ _ (by simpa using hml)) hbase _ rfl
      · have hrun := run_append_grow (P := P) w t ty E i (.int .u8 0) hU.ht hi hz av l.length cv (Lib.byteCells l) (by rw [byteCells_len, h1, Nat.mul_one])
          (fun j u hu => by
            obtain ⟨hj, rfl⟩ := byteCells_at hu
            rcases hq with ⟨hq, _⟩ | ⟨g, o, _, hA, _, _, hcl, _⟩
            · omega
            · cases hA; rw [Addr.add_lit]; exact hcl j hj)
          ⟨b, off, none⟩ k.length c (Lib.byteCells k) (by rw [byteCells_len, h1, Nat.mul_one]) hnews (by omega) hmi (hgf (by omega))
        refine ⟨_, some w.heap.size, _, hrun, ?_, ⟨rfl, rfl, rfl, by simp, fun x hx _ => Below.heap_alloc w.drew _ x hx⟩, .inr rfl⟩
        have := OwnQ.newRow (E := E) w.drew base (l ++ k) (grownCap w (l.length + k.length) cv E) (Builtin.zeroCells (Value.int .u8 0).cells (grownCap w (l.length + k.length) cv E - (l.length + k.length)))
          (by rw [size_zeroCells, List.length_append]; exact Nat.mul_one _) (by rw [List.length_append]; exact grownCap_ge w _ _ _) (grownCap_le_maxLen w _ _ _ hml) hbase _ (by rw [Lib.byteCells_append, ← List.append_toArray])
        rw [List.length_append] at this
        exact this
theorem wpList_appQ {ops : Array Oper} {rest : List Oper} {o : Oper} {a : Act} {Q : Exit → Act → World → Prop} {t E : TypeId} (hU : U8 P t E) (s x : Operand)
    (ho : o.op = .call { callee := .builtin .append, args := #[s, x], argTypes := #[t, t] }) (hgd : o.guard = none)
    (base : Nat) {own : Option Nat} {v : Value} {l k : List UInt8} (hs : a.eval s = v) (hown : OwnQ w base own v l) {B : Nat} {A : Option Addr} (m c : Nat) (hx : a.eval x = .slice A m c) (hm : m = k.length) (hr : RB w B A k)
    (hbytes : l.length + k.length ≤ 140737488355328) (hbase : base ≤ w.heap.size)
    (h : ∀ v' own' w', OwnQ w' base own' v' (l ++ k) → w.grownBy w' own → (own' = own ∨ own' = some w.heap.size) → wpList P ops Q rest (a.put o.dst v') w') : wpList P ops Q (o :: rest) a w := by
  subst hm
  refine wpList_plain hgd fun K hK => ?_
  obtain ⟨v', own', w', hrun, h2, h3, h4⟩ := run_appQ (P := P) w hU base o.type hown c hr hbytes hbase
  unfold Oper.wp execOp
  simp only [ho, resolve, invoke, builtin, Sem.run_bind, Sem.run_pure, Result.andThen_ok, List.map_toArray, List.map_cons, List.map_nil, hs, hx, hrun]
  exact hK _ _ (h v' own' w' h2 h3 h4)
/-- at a step of a region that draws its order -/
theorem step_appQ {ops : Array Oper} {o : Oper} {a : Act} {K : Act → World → Prop} {Q : Exit → Act → World → Prop} {E' : Prop} (hgd : o.guard = none) {t E : TypeId} (hU : U8 P t E) (s x : Operand)
    (ho : o.op = .call { callee := .builtin .append, args := #[s, x], argTypes := #[t, t] })
    (base : Nat) {own : Option Nat} {v : Value} {l k : List UInt8} (hs : a.eval s = v) (hown : OwnQ w base own v l) {B : Nat} {A : Option Addr} (m c : Nat) (hx : a.eval x = .slice A m c) (hm : m = k.length) (hr : RB w B A k)
    (hbytes : l.length + k.length ≤ 140737488355328) (hbase : base ≤ w.heap.size)
    (h : ∀ v' own' w', OwnQ w' base own' v' (l ++ k) → w.grownBy w' own → (own' = own ∨ own' = some w.heap.size) → K (a.put o.dst v') w') :
    if Region.wanted o (yielded ops a.tmps) = true then Oper.wp P o a w K Q else E' := by
  subst hm
  have hw : Region.wanted o (yielded ops a.tmps) = true := by simp [Region.wanted, hgd]
  rw [if_pos hw]
  obtain ⟨v', own', w', hrun, h2, h3, h4⟩ := run_appQ (P := P) w hU base o.type hown c hr hbytes hbase
  unfold Oper.wp execOp
  simp only [ho, resolve, invoke, builtin, Sem.run_bind, Sem.run_pure, Result.andThen_ok, List.map_toArray, List.map_cons, List.map_nil, hs, hx, hrun]
  exact h v' own' w' h2 h3 h4
end
end Go.Proofs.YtlknclkkhincfaaDoor
