/-
  Several texts in one: Que, Chg, LnPl. Conditions: each part names its own.
-/
import Derived.Test.YtjnjnccfojfghaaGreatDoorMg2
import Derived.ArgAppend
import Derived.Deep.Upon
import Derived.Test.YtjnjnccfojfghaaGreatDoorMg1
import Derived.Lib.IndexLaws
import Derived.Lib.CountLaws
import Derived.Lib.Bytes2
set_option linter.unusedSimpArgs false
/-! A slice of bytes that begins anywhere in a block of the call's own, and append onto it; over any program. No condition but the sizes. -/
namespace Go.Proofs.YtjnjnccfojfghaaGreatDoor
open Go.RowKit
set_option linter.unusedVariables false

/-- v reads as l; if it has room for a byte, its cells up to its capacity lie in block own, from base on, and may be written -/
def OwnQ (w : World) (base : Nat) (own : Option Nat) (v : Value) (l : List UInt8) : Prop :=
  ∃ A c, v = .slice A l.length c ∧ l.length ≤ c ∧ c ≤ maxLen ∧ ((c = 0 ∧ own = none) ∨ ∃ g off, own = some g ∧ A = some ⟨g, off, none⟩ ∧ base ≤ g ∧ g < w.heap.size ∧ (∀ i, i < l.length → w.cell? ⟨g, off + i, none⟩ = some (.int .u8 (bt l i))) ∧ ∀ i, i < c → (w.cell? ⟨g, off + i, none⟩).isSome = true ∧ w.frozen? ⟨g, off + i, none⟩ = false)
section
variable {w w' : World} {base base' : Nat} {own : Option Nat} {v : Value} {l : List UInt8}
theorem OwnQ.nil (w : World) (base : Nat) (A : Option Addr) : OwnQ w base none (.slice A 0 0) [] := ⟨A, 0, rfl, Nat.le_refl _, by simp [maxLen], .inl ⟨rfl, rfl⟩⟩
theorem OwnQ.out (h : OwnQ w base own v l) : Out w v l := by
  obtain ⟨A, c, rfl, h1, h2, h3⟩ := h
  refine ⟨A, c, rfl, h1, h2, ?_⟩
  rcases h3 with ⟨h3, _⟩ | ⟨g, off, _, rfl, _, hg, hc, _⟩
  · exact .inl (List.eq_nil_of_length_eq_zero (by omega))
  · exact .inr ⟨g, off, rfl, hg, hc⟩
theorem OwnQ.kept {row : Option Nat} (h : OwnQ w base own v l) (hg : w.grownBy w' row) (hne : own = none ∨ own ≠ row) : OwnQ w' base own v l := by
  obtain ⟨A, c, rfl, h1, h2, h3⟩ := h
  refine ⟨A, c, rfl, h1, h2, ?_⟩
  rcases h3 with h3 | ⟨g, off, rfl, rfl, hb, hlt, hc, hf⟩
  · exact .inl h3
  · have e := hg.block g hlt (by rcases hne with h | h; · cases h
                                 · exact h)
    refine .inr ⟨g, off, rfl, rfl, hb, Nat.lt_of_lt_of_le hlt hg.size, fun i hi => ?_, fun i hi => ?_⟩
    · rw [← hc i hi]; exact World.cell?_of_block e
    · rw [World.cell?_of_block (w := w) e, World.frozen?_of_block (w := w) e]; exact hf i hi
theorem OwnQ.below (h : OwnQ w base own v l) (hb : Below w.heap.size w w') : OwnQ w' base own v l :=
  h.kept (grownBy_of_below hb none) (by cases own <;> simp)
theorem OwnQ.alloc (h : OwnQ w base own v l) (o : Obj) : OwnQ (w.alloc o) base own v l := h.kept (World.grownBy_alloc w o none) (by cases own <;> simp)
theorem OwnQ.far (h : OwnQ w base own v l) {p : Addr} (hp : own ≠ some p.block) (u : Value) : OwnQ (w.setCell p u) base own v l :=
  h.kept (row := some p.block) ⟨rfl, rfl, rfl, by simp, fun i hi hne => Below.heap_setCell w p u i (fun e => hne (by rw [e]))⟩ (.inr hp)
theorem OwnQ.base_ (h : OwnQ w base own v l) {g : Nat} (hg : own = some g) : base ≤ g ∧ g < w.heap.size := by
  obtain ⟨A, c, rfl, h1, h2, h3⟩ := h
  rcases h3 with ⟨_, h3⟩ | ⟨g', off, h3, rfl, hb, hlt, hc, hf⟩
  · rw [h3] at hg; cases hg
  · rw [h3] at hg; cases hg; exact ⟨hb, hlt⟩
theorem OwnQ.rb {A : Option Addr} {n c : Nat} (h : OwnQ w base own (.slice A n c) l) : RB w w.heap.size A l ∧ n = l.length ∧ n ≤ c ∧ c ≤ maxLen := by
  obtain ⟨A', c', e, h1, h2, hr⟩ := h.out
  injection e with e1 e2 e3
  subst e1; subst e2; subst e3
  exact ⟨hr, rfl, h1, h2⟩
/-- what is left of it behind some bytes -/
theorem OwnQ.tail {A : Option Addr} {n c : Nat} (h : OwnQ w base own (.slice A n c) l) (k : Nat) (hk : k ≤ l.length) :
    ∃ own', (own' = own ∨ own' = none) ∧ OwnQ w base own' (.slice (if c = k then A else A.map fun a => a.add k) (n - k) (c - k)) (l.drop k) := by
  obtain ⟨A', c', e, h1, h2, h3⟩ := h
  injection e with e1 e2 e3
  subst e1; subst e2; subst e3
  by_cases hck : c = k
  · refine ⟨none, .inr rfl, A, 0, ?_, ?_, by simp [maxLen], .inl ⟨rfl, rfl⟩⟩
    · rw [if_pos hck, List.length_drop, hck, Nat.sub_self]
    · rw [List.length_drop]; omega
  · rcases h3 with ⟨h3, h4⟩ | ⟨g, off, h3, rfl, hb, hlt, hc, hf⟩
    · omega
    · refine ⟨own, .inl rfl, some ⟨g, off + k, none⟩, c - k, ?_, ?_, by omega, .inr ⟨g, off + k, h3, rfl, hb, hlt, fun i hi => ?_, fun i hi => ?_⟩⟩
      · rw [if_neg hck, List.length_drop]
        simp [Addr.add_lit]
      · rw [List.length_drop]; omega
      · rw [List.length_drop] at hi
        rw [Nat.add_assoc, hc (k + i) (by omega)]
        unfold bt
        rw [List.getD_eq_getElem?_getD, List.getD_eq_getElem?_getD, List.getElem?_drop]
      · rw [Nat.add_assoc]; exact hf (k + i) (by omega)
end
theorem bt_app_l {l k : List UInt8} {i : Nat} (h : i < l.length) : bt (l ++ k) i = bt l i := by
  unfold bt; rw [List.getD_eq_getElem?_getD, List.getD_eq_getElem?_getD, List.getElem?_append_left h]
theorem bt_app_r {l k : List UInt8} {i : Nat} : bt (l ++ k) (l.length + i) = bt k i := by
  unfold bt; rw [List.getD_eq_getElem?_getD, List.getD_eq_getElem?_getD, List.getElem?_append_right (by omega), Nat.add_sub_cancel_left]
theorem keptBlk_setCells (b : Nat) : ∀ (vs : List Value) (o : Nat) (w : World), w.grownBy (w.setCells b o vs) (some b)
  | [], o, w => World.grownBy.refl w _
  | v :: r, o, w => by
    have ih := keptBlk_setCells b r (o + 1) (w.setCell ⟨b, o, none⟩ v)
    refine ⟨ih.os, ih.tape, ih.output, Nat.le_trans (by simp) ih.size, fun i hi hne => ?_⟩
    rw [World.setCells, ih.block i (by simpa using hi) hne]
    exact Below.heap_setCell w ⟨b, o, none⟩ v i (fun e => hne (by rw [e]))
theorem byteCells_at {k : List UInt8} {j : Nat} {u : Value} (h : (Lib.byteCells k)[j]? = some u) : j < k.length ∧ u = .int .u8 (bt k j) := by
  have hj : j < k.length := by
    have := (List.getElem?_eq_some_iff.1 h).1
    simpa [Lib.byteCells] using this
  refine ⟨hj, ?_⟩
  rw [bt_getElem hj]
  simpa [Lib.byteCells, hj] using h.symm
theorem byteCells_one (k : List UInt8) : ∀ u ∈ Lib.byteCells k, u.oneCell' = true := by
  intro u hu
  simp only [Lib.byteCells, List.mem_map] at hu
  obtain ⟨b, _, rfl⟩ := hu
  rfl
theorem byteCells_len (k : List UInt8) : (Lib.byteCells k).length = k.length := by simp [Lib.byteCells]
section
variable {P : Program} (w : World)
/-- the new block of an append that grows -/
theorem OwnQ.newRow {E : TypeId} (base : Nat) (l : List UInt8) (c : Nat) (z : Array Value) (hz : z.size = c - l.length) (hl : l.length ≤ c) (hm : c ≤ maxLen) (hb : base ≤ w.heap.size) (cs : Array Value) (hcs : cs = (Lib.byteCells l).toArray ++ z) :
    OwnQ (w.alloc (.cells cs E)) base (some w.heap.size) (.slice (some ⟨w.heap.size, 0, none⟩) l.length c) l := by
  subst hcs
  have hB := Blk.new w E ((Lib.byteCells l).toArray ++ z)
  refine ⟨_, c, rfl, hl, hm, .inr ⟨w.heap.size, 0, rfl, rfl, hb, by simp, fun i hi => ?_, fun i hi => ?_⟩⟩
  · rw [Nat.zero_add, hB.cell i, Array.getElem?_append_left (by simpa [byteCells_len] using hi), bt_getElem hi]
    simp [Lib.byteCells, hi]
  · rw [Nat.zero_add, hB.cell i]
    refine ⟨?_, hB.frozen i⟩
    rw [Array.getElem?_eq_getElem (by simp [byteCells_len]; omega)]
    rfl
theorem run_appQ {t E : TypeId} (hU : U8 P t E) (base : Nat) (ty : TypeId) {own : Option Nat} {v : Value} {l k : List UInt8} (hown : OwnQ w base own v l) {B : Nat} {A : Option Addr} (c : Nat) (hr : RB w B A k)
    (hbytes : l.length + k.length ≤ 140737488355328) (hbase : base ≤ w.heap.size) :
    ∃ v' own' w', (Builtin.append_ #[t, t] ty #[v, .slice A k.length c]).run P w = .ok v' w' ∧ OwnQ w' base own' v' (l ++ k) ∧ w.grownBy w' own ∧ (own' = own ∨ own' = some w.heap.size) := by
  obtain ⟨i, hi, hz, h1, h2⟩ := hU.hi
  obtain ⟨Av, cv, rfl, hle, hmx, hq⟩ := hown
  rcases Nat.eq_zero_or_pos k.length with h0 | h0
  · obtain rfl : k = [] := List.eq_nil_of_length_eq_zero h0
    refine ⟨.slice Av l.length cv, own, w, ?_, by rw [List.append_nil]; exact ⟨Av, cv, rfl, hle, hmx, hq⟩, World.grownBy.refl w _, .inl rfl⟩
    rcases A with _ | ad
    · cases Av <;> simp [Builtin.append_, run_underlying hU.ht, sizeOf, typeInfo, hi, Builtin.lenOf, Builtin.firstCells, hle, storeCells]
    · have hl := run_loadCells_list (P := P) w ad [] (fun j v hj => by simp at hj)
      simp at hl
      cases Av <;> simp [Builtin.append_, run_underlying hU.ht, sizeOf, typeInfo, hi, Builtin.lenOf, Builtin.firstCells, hle, storeCells, h1, hl]
  · obtain ⟨b, off, rfl, _, hc⟩ := hr.at_ h0
    have hnews : ∀ j u, (Lib.byteCells k)[j]? = some u → w.cell? ((⟨b, off, none⟩ : Addr).add j) = some u := fun j u hu => by
      obtain ⟨hj, rfl⟩ := byteCells_at hu
      rw [Addr.add_lit]; exact hc j hj
    have hgf : cv < l.length + k.length → Builtin.nextslicecap (l.length + k.length) cv * i.bytes ≤ 281474976710656 := fun hg => growslice_fits hg (by rw [h2]; omega)
    have hml : l.length + k.length ≤ maxLen := by simp only [maxLen]; omega
    have hmi : ((l.length + k.length : Nat) : Int) ≤ 9223372036854775807 := by omega
    by_cases hroom : l.length + k.length ≤ cv
    · rcases hq with ⟨hq, _⟩ | ⟨g, o, rfl, rfl, hb, hlt, hcl, hf⟩
      · omega
      · have hfit : ∀ j, j < (Lib.byteCells k).length → o + l.length * i.size + j = o + (l.length + j) := fun j _ => by rw [h1]; omega
        have hrun := run_append_room_cells (P := P) w t ty E i hU.ht hi g o l.length cv ⟨b, off, none⟩ k.length c (Lib.byteCells k) (by rw [byteCells_len, h1, Nat.mul_one]) hnews (byteCells_one k) hroom
          (fun j hj => by rw [hfit j hj]; rw [byteCells_len] at hj; exact (hf (l.length + j) (by omega)).1)
          (fun j hj => by rw [hfit j hj]; rw [byteCells_len] at hj; exact (hf (l.length + j) (by omega)).2)
        have hkb := keptBlk_setCells g (Lib.byteCells k) (o + l.length * i.size) w
        have ein : ∀ j, (hj : j < k.length) → (w.setCells g (o + l.length * i.size) (Lib.byteCells k)).cell? ⟨g, o + l.length * i.size + j, none⟩ = some (.int .u8 (bt k j)) := fun j hj => by
          rw [World.cell?_setCells_in g (Lib.byteCells k) (o + l.length * i.size) w (fun j hj => by rw [hfit j hj]; rw [byteCells_len] at hj; exact (hf (l.length + j) (by omega)).1) j (by rw [byteCells_len]; exact hj), bt_getElem hj]
          simp [Lib.byteCells]
        have eout : ∀ x, x < l.length ∨ l.length + k.length ≤ x → (w.setCells g (o + l.length * i.size) (Lib.byteCells k)).cell? ⟨g, o + x, none⟩ = w.cell? ⟨g, o + x, none⟩ := fun x hx =>
          World.cell?_setCells_out g (Lib.byteCells k) (o + l.length * i.size) w ⟨g, o + x, none⟩ (fun _ _ => by rw [byteCells_len, h1]; show o + x < _ ∨ _ ≤ o + x; omega)
        refine ⟨_, some g, _, hrun, ⟨_, cv, by rw [List.length_append], by rw [List.length_append]; exact hroom, hmx, .inr ⟨g, o, rfl, rfl, hb, Nat.lt_of_lt_of_le hlt hkb.size, fun x hx => ?_, fun x hx => ⟨?_, ?_⟩⟩⟩, hkb, .inl rfl⟩
        · rw [List.length_append] at hx
          rcases Nat.lt_or_ge x l.length with hxl | hxl
          · rw [eout x (.inl hxl), hcl x hxl, bt_app_l hxl]
          · have := ein (x - l.length) (by omega)
            rw [h1, show o + l.length * 1 + (x - l.length) = o + x by omega] at this
            rw [h1, this, ← bt_app_r (l := l), show l.length + (x - l.length) = x by omega]
        · by_cases hx2 : x < l.length ∨ l.length + k.length ≤ x
          · rw [eout x hx2]; exact (hf x hx).1
          · have := ein (x - l.length) (by omega)
            rw [h1, show o + l.length * 1 + (x - l.length) = o + x by omega] at this
            rw [h1, this]; rfl
        · rw [World.frozen?_setCells]; exact (hf x hx).2
    · rcases Av with _ | av
      · have hcv : cv = 0 ∧ own = none := by
          rcases hq with hq | ⟨g, o, _, hA, _⟩
          · exact hq
          · cases hA
        obtain ⟨rfl, rfl⟩ := hcv
        obtain rfl : l = [] := List.eq_nil_of_length_eq_zero (by omega)
        have hrun := run_append_nil (P := P) w t ty E i (.int .u8 0) hU.ht hi hz ⟨b, off, none⟩ k.length c (Lib.byteCells k) (by rw [byteCells_len, h1, Nat.mul_one]) hnews h0 (by simpa using hmi) (by rw [h2]; simp at hbytes; omega)
        refine ⟨_, some w.heap.size, _, hrun, ?_, ⟨rfl, rfl, rfl, by simp, fun x hx _ => Below.heap_alloc w.drew _ x hx⟩, .inr rfl⟩
        exact OwnQ.newRow w.drew base k (grownCap w k.length 0 E) _ (by rw [size_zeroCells]; exact Nat.mul_one _) (grownCap_ge w _ _ _) (grownCap_le_maxLen w _ _ _ (by simpa using hml)) hbase _ rfl
      · have hrun := run_append_grow (P := P) w t ty E i (.int .u8 0) hU.ht hi hz av l.length cv (Lib.byteCells l) (by rw [byteCells_len, h1, Nat.mul_one])
          (fun j u hu => by
            obtain ⟨hj, rfl⟩ := byteCells_at hu
            rcases hq with ⟨hq, _⟩ | ⟨g, o, _, hA, _, _, hcl, _⟩
            · omega
            · cases hA; rw [Addr.add_lit]; exact hcl j hj)
          ⟨b, off, none⟩ k.length c (Lib.byteCells k) (by rw [byteCells_len, h1, Nat.mul_one]) hnews (by omega) hmi (hgf (by omega))
        refine ⟨_, some w.heap.size, _, hrun, ?_, ⟨rfl, rfl, rfl, by simp, fun x hx _ => Below.heap_alloc w.drew _ x hx⟩, .inr rfl⟩
        have := OwnQ.newRow (E := E) w.drew base (l ++ k) (grownCap w (l.length + k.length) cv E) (Builtin.zeroCells (Value.int .u8 0).cells (grownCap w (l.length + k.length) cv E - (l.length + k.length)))
          (by rw [size_zeroCells, List.length_append]; exact Nat.mul_one _) (by rw [List.length_append]; exact grownCap_ge w _ _ _) (grownCap_le_maxLen w _ _ _ hml) hbase _ (by rw [Lib.byteCells_append, ← List.append_toArray])
        rw [List.length_append] at this
        exact this
theorem wpList_appQ {ops : Array Oper} {rest : List Oper} {o : Oper} {a : Act} {Q : Exit → Act → World → Prop} {t E : TypeId} (hU : U8 P t E) (s x : Operand)
    (ho : o.op = .call { callee := .builtin .append, args := #[s, x], argTypes := #[t, t] }) (hgd : o.guard = none)
    (base : Nat) {own : Option Nat} {v : Value} {l k : List UInt8} (hs : a.eval s = v) (hown : OwnQ w base own v l) {B : Nat} {A : Option Addr} (m c : Nat) (hx : a.eval x = .slice A m c) (hm : m = k.length) (hr : RB w B A k)
    (hbytes : l.length + k.length ≤ 140737488355328) (hbase : base ≤ w.heap.size)
    (h : ∀ v' own' w', OwnQ w' base own' v' (l ++ k) → w.grownBy w' own → (own' = own ∨ own' = some w.heap.size) → wpList P ops Q rest (a.put o.dst v') w') : wpList P ops Q (o :: rest) a w := by
  subst hm
  refine wpList_plain hgd fun K hK => ?_
  obtain ⟨v', own', w', hrun, h2, h3, h4⟩ := run_appQ (P := P) w hU base o.type hown c hr hbytes hbase
  unfold Oper.wp execOp
  simp only [ho, resolve, invoke, builtin, Sem.run_bind, Sem.run_pure, Result.andThen_ok, List.map_toArray, List.map_cons, List.map_nil, hs, hx, hrun]
  exact hK _ _ (h v' own' w' h2 h3 h4)
/-- at a step of a region that draws its order -/
theorem step_appQ {ops : Array Oper} {o : Oper} {a : Act} {K : Act → World → Prop} {Q : Exit → Act → World → Prop} {E' : Prop} (hgd : o.guard = none) {t E : TypeId} (hU : U8 P t E) (s x : Operand)
    (ho : o.op = .call { callee := .builtin .append, args := #[s, x], argTypes := #[t, t] })
    (base : Nat) {own : Option Nat} {v : Value} {l k : List UInt8} (hs : a.eval s = v) (hown : OwnQ w base own v l) {B : Nat} {A : Option Addr} (m c : Nat) (hx : a.eval x = .slice A m c) (hm : m = k.length) (hr : RB w B A k)
    (hbytes : l.length + k.length ≤ 140737488355328) (hbase : base ≤ w.heap.size)
    (h : ∀ v' own' w', OwnQ w' base own' v' (l ++ k) → w.grownBy w' own → (own' = own ∨ own' = some w.heap.size) → K (a.put o.dst v') w') :
    if Region.wanted o (yielded ops a.tmps) = true then Oper.wp P o a w K Q else E' := by
  subst hm
  have hw : Region.wanted o (yielded ops a.tmps) = true := by simp [Region.wanted, hgd]
  rw [if_pos hw]
  obtain ⟨v', own', w', hrun, h2, h3, h4⟩ := run_appQ (P := P) w hU base o.type hown c hr hbytes hbase
  unfold Oper.wp execOp
  simp only [ho, resolve, invoke, builtin, Sem.run_bind, Sem.run_pure, Result.andThen_ok, List.map_toArray, List.map_cons, List.map_nil, hs, hx, hrun]
  exact h v' own' w' h2 h3 h4
end
end Go.Proofs.YtjnjnccfojfghaaGreatDoor

/-! A world in which two blocks alone have changed, and new ones have come; what a reader of a stream holds; over any program. No condition. -/
namespace Go.Proofs.YtjnjnccfojfghaaGreatDoor
open Go.RowKit
set_option linter.unusedVariables false
/-- only blocks p and own may have changed -/
structure Chg (p : Nat) (own : Option Nat) (w w' : World) : Prop where
  os : w'.os = w.os
  tape : w'.tape = w.tape
  output : w'.output = w.output
  size : w.heap.size ≤ w'.heap.size
  block : ∀ i, i < w.heap.size → i ≠ p → some i ≠ own → w'.heap[i]? = w.heap[i]?
section
variable {p : Nat} {own : Option Nat} {w w' w2 : World}
theorem Chg.below {base : Nat} (h : Chg p own w w') (hp : base ≤ p) (ho : ∀ g, own = some g → base ≤ g) (hb : base ≤ w.heap.size) : Below base w w' :=
  ⟨h.os, h.tape, h.output, h.size, fun k hk => h.block k (by omega) (by omega) (fun e => by have := ho k e.symm; omega)⟩
theorem Chg.of_below (h : Below w.heap.size w w') : Chg p own w w' := ⟨h.os, h.tape, h.output, h.size, fun i hi _ _ => h.block i hi⟩
theorem Chg.of_grown (h : w.grownBy w' own) : Chg p own w w' := ⟨h.os, h.tape, h.output, h.size, fun i hi _ h2 => h.block i hi h2⟩
theorem Chg.refl (w : World) : Chg p own w w := Chg.of_below (Below.refl _ _)
theorem Chg.trans {own2 : Option Nat} (h : Chg p own w w') (k : Chg p own2 w' w2) (hn : own2 = own ∨ own2 = none ∨ ∃ g, own2 = some g ∧ w.heap.size ≤ g) : Chg p own w w2 :=
  ⟨k.os.trans h.os, k.tape.trans h.tape, k.output.trans h.output, Nat.le_trans h.size k.size, fun i hi h1 h2 => (k.block i (Nat.lt_of_lt_of_le hi h.size) h1 (by
    rcases hn with rfl | rfl | ⟨g, rfl, hg⟩
    · exact h2
    · intro e; cases e
    · intro e; injection e with e; omega)).trans (h.block i hi h1 h2)⟩
theorem Chg.setCell (h : Chg p own w w') (i : Nat) (v : Value) : Chg p own w (w'.setCell ⟨p, i, none⟩ v) :=
  ⟨h.os, h.tape, h.output, by simpa using h.size, fun k hk h1 h2 => (Below.heap_setCell w' ⟨p, i, none⟩ v k h1).trans (h.block k hk h1 h2)⟩
theorem Blk.chg {g : Nat} {t : TypeId} {cs : Array Value} (h : Blk w g t cs) (hc : Chg p own w w') (h1 : g ≠ p) (h2 : own ≠ some g) : Blk w' g t cs :=
  (hc.block g h.lt h1 (fun e => h2 e.symm)).trans h
theorem OwnQ.blocks {base : Nat} {o : Option Nat} {v : Value} {l : List UInt8} (h : OwnQ w base o v l) (hs : w.heap.size ≤ w'.heap.size) (hk : ∀ g, o = some g → g < w.heap.size → w'.heap[g]? = w.heap[g]?) : OwnQ w' base o v l := by
  obtain ⟨A, c, rfl, h1, h2, h3⟩ := h
  refine ⟨A, c, rfl, h1, h2, ?_⟩
  rcases h3 with h3 | ⟨g, off, rfl, rfl, hb, hlt, hc, hf⟩
  · exact .inl h3
  · have e := hk g rfl hlt
    refine .inr ⟨g, off, rfl, rfl, hb, Nat.lt_of_lt_of_le hlt hs, fun i hi => ?_, fun i hi => ?_⟩
    · rw [← hc i hi]; exact World.cell?_of_block e
    · rw [World.cell?_of_block (w := w) e, World.frozen?_of_block (w := w) e]; exact hf i hi
theorem OwnQ.chg {base : Nat} {o : Option Nat} {v : Value} {l : List UInt8} (h : OwnQ w base o v l) (hc : Chg p own w w') (h1 : o ≠ some p) (h2 : o = none ∨ o ≠ own) : OwnQ w' base o v l :=
  h.blocks hc.size fun g hg hlt => hc.block g hlt (fun e => h1 (by rw [hg, e])) (fun e => by rcases h2 with h2 | h2; rw [h2] at hg; cases hg; exact h2 (by rw [hg, e]))
theorem OwnQ.mono_ {base base' : Nat} {o : Option Nat} {v : Value} {l : List UInt8} (h : OwnQ w base o v l) (hb : base' ≤ base) : OwnQ w base' o v l := by
  obtain ⟨A, c, rfl, h1, h2, h3⟩ := h
  refine ⟨A, c, rfl, h1, h2, ?_⟩
  rcases h3 with h3 | ⟨g, off, h4, rfl, hb', hlt, hc, hf⟩
  · exact .inl h3
  · exact .inr ⟨g, off, h4, rfl, by omega, hlt, hc, hf⟩
/-- a reader: how long its lines may be, what waits -/
def Rd (w : World) (T : TypeId) (base p : Nat) (own : Option Nat) (most : Nat) (l : List UInt8) : Prop :=
  base ≤ p ∧ own ≠ some p ∧ ∃ v, Blk w p T #[.int .i64 (most : Int), v] ∧ OwnQ w base own v l
theorem Rd.chg {T : TypeId} {base q : Nat} {o : Option Nat} {most : Nat} {l : List UInt8} (h : Rd w T base q o most l) (hc : Chg p own w w') (h0 : q ≠ p) (h1 : own ≠ some q) (h2 : o ≠ some p) (h3 : o = none ∨ o ≠ own) : Rd w' T base q o most l := by
  obtain ⟨a, b, v, hB, hO⟩ := h
  exact ⟨a, b, v, hB.chg hc h0 h1, hO.chg hc h2 h3⟩
theorem Rd.below {T : TypeId} {base q : Nat} {o : Option Nat} {most : Nat} {l : List UInt8} (h : Rd w T base q o most l) (hb : Below w.heap.size w w') : Rd w' T base q o most l := by
  obtain ⟨a, b, v, hB, hO⟩ := h
  exact ⟨a, b, v, hB.keep hb, hO.below hb⟩
theorem Rd.lt {T : TypeId} {base q : Nat} {o : Option Nat} {most : Nat} {l : List UInt8} (h : Rd w T base q o most l) : base ≤ q ∧ q < w.heap.size ∧ ∀ g, o = some g → base ≤ g ∧ g < w.heap.size := by
  obtain ⟨a, b, v, hB, hO⟩ := h
  exact ⟨a, hB.lt, fun g hg => hO.base_ hg⟩
end
/-- v reads as l, in a block from base on whose bytes may be written, wherever it begins there -/
def OwnV (w : World) (base : Nat) (v : Value) (l : List UInt8) : Prop :=
  ∃ A c, v = .slice A l.length c ∧ l.length ≤ c ∧ c ≤ maxLen ∧ (l = [] ∨ ∃ g off, A = some ⟨g, off, none⟩ ∧ base ≤ g ∧ g < w.heap.size ∧ ∀ i, i < l.length → w.cell? ⟨g, off + i, none⟩ = some (.int .u8 (bt l i)) ∧ w.frozen? ⟨g, off + i, none⟩ = false)
section
variable {w w' : World} {base base' : Nat} {v : Value} {l : List UInt8}
theorem OwnV.of_q {own : Option Nat} (h : OwnQ w base own v l) : OwnV w base v l := by
  obtain ⟨A, c, rfl, h1, h2, h3⟩ := h
  refine ⟨A, c, rfl, h1, h2, ?_⟩
  rcases h3 with ⟨h3, _⟩ | ⟨g, off, _, rfl, hb, hlt, hc, hf⟩
  · exact .inl (List.eq_nil_of_length_eq_zero (by omega))
  · exact .inr ⟨g, off, rfl, hb, hlt, fun i hi => ⟨hc i hi, (hf i (by omega)).2⟩⟩
theorem OwnV.of_w (h : OwnW w base v l) : OwnV w base v l := by
  obtain ⟨A, c, rfl, h1, h2, h3⟩ := h
  refine ⟨A, c, rfl, h1, h2, ?_⟩
  rcases h3 with h3 | ⟨g, rfl, hb, hlt, hc⟩
  · exact .inl h3
  · exact .inr ⟨g, 0, rfl, hb, hlt, fun i hi => by rw [Nat.zero_add]; exact hc i hi⟩
theorem OwnV.of_own {E : Nat} (h : OwnB w base E v l) : OwnV w base v l := OwnV.of_w (OwnW.of_own h)
theorem OwnV.out (h : OwnV w base v l) : Out w v l := by
  obtain ⟨A, c, rfl, h1, h2, h3⟩ := h
  refine ⟨A, c, rfl, h1, h2, ?_⟩
  rcases h3 with h3 | ⟨g, off, rfl, _, hg, hc⟩
  · exact .inl h3
  · exact .inr ⟨g, off, rfl, hg, fun i hi => (hc i hi).1⟩
theorem OwnV.mono (h : OwnV w base v l) (hb : base' ≤ base) : OwnV w base' v l := by
  obtain ⟨A, c, rfl, h1, h2, h3⟩ := h
  refine ⟨A, c, rfl, h1, h2, ?_⟩
  rcases h3 with h3 | ⟨g, off, rfl, hb', hg, hc⟩
  · exact .inl h3
  · exact .inr ⟨g, off, rfl, by omega, hg, hc⟩
theorem OwnV.blocks (h : OwnV w base v l) (hs : w.heap.size ≤ w'.heap.size) (hk : ∀ g, base ≤ g → g < w.heap.size → v.ownBlock = some g ∨ True → w'.heap[g]? = w.heap[g]?) : OwnV w' base v l := by
  obtain ⟨A, c, rfl, h1, h2, h3⟩ := h
  refine ⟨A, c, rfl, h1, h2, ?_⟩
  rcases h3 with h3 | ⟨g, off, rfl, hb, hg, hc⟩
  · exact .inl h3
  · have e := hk g hb hg (.inr trivial)
    refine .inr ⟨g, off, rfl, hb, Nat.lt_of_lt_of_le hg hs, fun i hi => ?_⟩
    rw [World.cell?_of_block (w := w) e, World.frozen?_of_block (w := w) e]
    exact hc i hi
theorem OwnV.below (h : OwnV w base v l) (hb : Below w.heap.size w w') : OwnV w' base v l := h.blocks hb.size fun g _ hg _ => hb.block g hg
/-- other, older blocks alone have changed -/
theorem OwnV.chg {p : Nat} {own : Option Nat} (h : OwnV w base v l) (hc : Chg p own w w') (hp : p < base) (ho : ∀ g, own = some g → g < base) : OwnV w' base v l :=
  h.blocks hc.size fun g hb hg _ => hc.block g hg (by omega) (fun e => by have := ho g e.symm; omega)
theorem OwnV.take {A : Option Addr} {n c : Nat} (h : OwnV w base (.slice A n c) l) (k : Nat) (hk : k ≤ l.length) : OwnV w base (.slice A k c) (l.take k) := by
  obtain ⟨A', c', e, h1, h2, h3⟩ := h
  injection e with e1 e2 e3
  subst e1; subst e2; subst e3
  have hl : (l.take k).length = k := by rw [List.length_take]; omega
  refine ⟨A, c, by rw [hl], by rw [hl]; omega, h2, ?_⟩
  rcases h3 with h3 | ⟨g, off, rfl, hb, hg, hc⟩
  · subst h3; exact .inl (by simp)
  · refine .inr ⟨g, off, rfl, hb, hg, fun i hi => ?_⟩
    rw [hl] at hi
    obtain ⟨a, b⟩ := hc i (by omega)
    refine ⟨?_, b⟩
    rw [a]
    unfold bt
    rw [List.getD_eq_getElem?_getD, List.getD_eq_getElem?_getD, List.getElem?_take_of_lt hi]
theorem OwnV.sl {A : Option Addr} {n c : Nat} (h : OwnV w base (.slice A n c) l) : n = l.length ∧ n ≤ c ∧ c ≤ maxLen ∧ RB w w.heap.size A l := by
  obtain ⟨A', c', e, h1, h2, hr⟩ := h.out
  injection e with e1 e2 e3
  subst e1; subst e2; subst e3
  exact ⟨rfl, h1, h2, hr⟩
end
end Go.Proofs.YtjnjnccfojfghaaGreatDoor

/-! Lines of a stream, contents and their dots, in plain words. No program in sight. No condition. -/
namespace Go.Proofs.YtjnjnccfojfghaaGreatDoor
set_option linter.unusedVariables false

/-- the first byte c: what stands ahead of it, what behind -/
def cutAt (c : UInt8) : List UInt8 → Option (List UInt8 × List UInt8)
  | [] => none
  | b :: r => if b = c then some ([], r) else match cutAt c r with
    | none => none
    | some (x, y) => some (b :: x, y)
theorem cutAt_some {c : UInt8} : ∀ {l x y : List UInt8}, cutAt c l = some (x, y) → l = x ++ c :: y ∧ c ∉ x
  | [], _, _, h => by cases h
  | b :: r, x, y, h => by
    unfold cutAt at h
    split at h
    · rename_i hb
      injection h with h
      injection h with h1 h2
      subst h1 h2
      exact ⟨by rw [hb]; rfl, by simp⟩
    · rename_i hb
      split at h
      · cases h
      · rename_i x' y' e
        injection h with h
        injection h with h1 h2
        subst h1 h2
        obtain ⟨h3, h4⟩ := cutAt_some e
        exact ⟨by rw [h3]; rfl, fun hm => by rcases List.mem_cons.1 hm with h5 | h5; exact hb h5.symm; exact h4 h5⟩
theorem cutAt_none {c : UInt8} : ∀ {l : List UInt8}, cutAt c l = none → c ∉ l
  | [], _ => by simp
  | b :: r, h => by
    unfold cutAt at h
    split at h
    · cases h
    · rename_i hb
      split at h
      · rename_i e
        have := cutAt_none e
        exact fun hm => by rcases List.mem_cons.1 hm with h5 | h5; exact hb h5.symm; exact this h5
      · cases h
theorem cutAt_app {c : UInt8} : ∀ {x : List UInt8} (y : List UInt8), c ∉ x → cutAt c (x ++ c :: y) = some (x, y)
  | [], y, _ => if_pos rfl
  | b :: x, y, h => by
    have hb : ¬ b = c := fun e => h (by simp [e])
    rw [List.cons_append, cutAt, if_neg hb, cutAt_app y (fun hm => h (by simp [hm]))]
theorem cutAt_not {c : UInt8} : ∀ {l : List UInt8}, c ∉ l → cutAt c l = none
  | [], _ => rfl
  | b :: r, h => by
    have hb : ¬ b = c := fun e => h (by simp [e])
    rw [cutAt, if_neg hb, cutAt_not (fun hm => h (by simp [hm]))]
theorem cutAt_more {c : UInt8} {l x y : List UInt8} (m : List UInt8) (h : cutAt c l = some (x, y)) : cutAt c (l ++ m) = some (x, y ++ m) := by
  obtain ⟨h1, h2⟩ := cutAt_some h
  rw [h1, List.append_assoc, List.cons_append]
  exact cutAt_app _ h2
/-- a line, its end struck, and what is wrong with it -/
def nxLine (most : Nat) (x : List UInt8) : List UInt8 × Int :=
  if most < (Lib.trimSuffix x [13]).length then ((Lib.trimSuffix x [13]).take most, 120) else
  if (0 : UInt8) ∈ Lib.trimSuffix x [13] then (Lib.trimSuffix x [13], 122) else
  if Lib.hasSuffix x [13] = false ∨ (13 : UInt8) ∈ Lib.trimSuffix x [13] then (Lib.trimSuffix x [13], 121) else (Lib.trimSuffix x [13], 0)
def nextP (most : Nat) (l : List UInt8) : Option ((List UInt8 × Int) × List UInt8) := match cutAt 10 l with
  | none => none
  | some (x, y) => some (nxLine most x, y)
theorem next_more {most : Nat} {l y : List UInt8} {r : List UInt8 × Int} (m : List UInt8) (h : nextP most l = some (r, y)) : nextP most (l ++ m) = some (r, y ++ m) := by
  unfold nextP at h ⊢
  split at h
  · cases h
  · rename_i x y' e
    injection h with h
    injection h with h1 h2
    subst h1 h2
    rw [cutAt_more m e]
theorem next_len {most : Nat} {l y : List UInt8} {r : List UInt8 × Int} (h : nextP most l = some (r, y)) : y.length < l.length := by
  unfold nextP at h
  split at h
  · cases h
  · rename_i x y' e
    injection h with h
    injection h with h1 h2
    subst h2
    rw [(cutAt_some e).1]
    simp
    omega
/-! ### contents -/
def cutCR : List UInt8 → Option (List UInt8 × List UInt8)
  | [] => none
  | [_] => none
  | a :: b :: r => if a = 13 ∧ b = 10 then some ([], r) else match cutCR (b :: r) with
    | none => none
    | some (x, y) => some (a :: x, y)
/-- no CR LF in it -/
def noCR (l : List UInt8) : Prop := ∀ u v, l ≠ u ++ 13 :: 10 :: v
theorem cutCR_none : ∀ {l : List UInt8}, cutCR l = none → noCR l
  | [], _ => fun u v h => by cases u <;> simp at h
  | [a], _ => fun u v h => by
    cases u with
    | nil => simp at h
    | cons p t => cases t <;> simp at h
  | a :: b :: r, h => fun u v e => by
    rw [cutCR] at h
    split at h
    · cases h
    · rename_i hab
      split at h
      · rename_i e2
        have ih := cutCR_none e2
        cases u with
        | nil =>
          simp only [List.nil_append, List.cons.injEq] at e
          exact hab ⟨e.1, e.2.1⟩
        | cons p t =>
          simp only [List.cons_append, List.cons.injEq] at e
          exact ih t v e.2
      · cases h
theorem cutCR_some : ∀ {l x y : List UInt8}, cutCR l = some (x, y) → l = x ++ 13 :: 10 :: y ∧ noCR (x ++ [13])
  | [], _, _, h => by cases h
  | [a], _, _, h => by cases h
  | a :: b :: r, x, y, h => by
    rw [cutCR] at h
    split at h
    · rename_i hab
      injection h with h
      injection h with h1 h2
      subst h1 h2
      refine ⟨by rw [hab.1, hab.2]; rfl, fun u v e => ?_⟩
      cases u with
      | nil => simp at e
      | cons p t => cases t <;> simp at e
    · rename_i hab
      split at h
      · cases h
      · rename_i x' y' e2
        injection h with h
        injection h with h1 h2
        subst h1 h2
        obtain ⟨h3, h4⟩ := cutCR_some e2
        refine ⟨by rw [h3]; rfl, fun u v e => ?_⟩
        cases u with
        | nil =>
          simp only [List.nil_append, List.cons_append, List.cons.injEq] at e
          cases x' with
          | nil => simp at e
          | cons p t =>
            simp only [List.cons_append, List.cons.injEq] at e h3
            exact hab ⟨e.1, by rw [h3.1]; exact e.2.1⟩
        | cons p t =>
          simp only [List.cons_append, List.cons.injEq] at e
          exact h4 t v e.2
def contF : Nat → List UInt8 → Bool → Int
  | 0, _, _ => 0
  | n + 1, d, long => if d = [] then (if long = true then 120 else 0) else match cutCR d with
    | none => 121
    | some (x, y) => if (13 : UInt8) ∈ x ∨ (10 : UInt8) ∈ x then 121 else contF n y (long || decide (998 < x.length))
/-- what is wrong with a content; 0: nothing -/
def contP (d : List UInt8) : Int := if (0 : UInt8) ∈ d then 122 else contF (d.length + 1) d false
/-- the document's scan -/
def rC (prev : UInt8) : List UInt8 → Int → Bool → Bool → Int
  | [], n, long, bare => if bare = true then 121 else if long = true then 120 else 0
  | c :: r, n, long, bare =>
    if c = 0 then 122 else
    if c = 13 then rC 13 r (n + 1) long (bare || decide (r.head? ≠ some 10)) else
    if c = 10 then rC 10 r 0 (long || decide (998 < n - 1)) (bare || decide (prev ≠ 13)) else
    rC c r (n + 1) long bare
def bareEnd (d : List UInt8) : Bool := decide (d ≠ [] ∧ d.getLast? ≠ some 10)
def refC (d : List UInt8) : Int := rC 0 d 0 false (bareEnd d)
theorem rC_nul : ∀ (d : List UInt8) (p : UInt8) (n : Int) (long bare : Bool), (0 : UInt8) ∈ d → rC p d n long bare = 122
  | [], _, _, _, _, h => by cases h
  | c :: r, p, n, long, bare, h => by
    rw [rC]
    by_cases h0 : c = 0
    · rw [if_pos h0]
    · have hr : (0 : UInt8) ∈ r := by rcases List.mem_cons.1 h with h | h; exact absurd h.symm h0; exact h
      rw [if_neg h0]
      split
      · exact rC_nul r _ _ _ _ hr
      split
      · exact rC_nul r _ _ _ _ hr
      · exact rC_nul r _ _ _ _ hr
theorem rC_bare : ∀ (d : List UInt8) (p : UInt8) (n : Int) (long : Bool), (0 : UInt8) ∉ d → rC p d n long true = 121
  | [], _, _, _, _ => rfl
  | c :: r, p, n, long, h => by
    have h0 : ¬ c = 0 := fun e => h (by simp [e])
    have hr : (0 : UInt8) ∉ r := fun e => h (by simp [e])
    rw [rC, if_neg h0]
    simp only [Bool.true_or]
    split
    · exact rC_bare r _ _ _ hr
    split
    · exact rC_bare r _ _ _ hr
    · exact rC_bare r _ _ _ hr
theorem rC_cr : ∀ (u v : List UInt8) (p : UInt8) (n : Int) (long bare : Bool), (0 : UInt8) ∉ u ++ 13 :: v → v.head? ≠ some 10 → rC p (u ++ 13 :: v) n long bare = 121
  | [], v, p, n, long, bare, h, hv => by
    rw [List.nil_append, rC, if_neg (by decide), if_pos rfl, decide_eq_true hv, Bool.or_true]
    exact rC_bare v _ _ _ (fun e => h (by simp [e]))
  | c :: u, v, p, n, long, bare, h, hv => by
    have h0 : ¬ c = 0 := fun e => h (by simp [e])
    have hr : (0 : UInt8) ∉ u ++ 13 :: v := fun e => h (by rw [List.cons_append]; exact List.mem_cons_of_mem _ e)
    rw [List.cons_append, rC, if_neg h0]
    split
    · exact rC_cr u v _ _ _ _ hr hv
    split
    · exact rC_cr u v _ _ _ _ hr hv
    · exact rC_cr u v _ _ _ _ hr hv
theorem rC_lf : ∀ (u v : List UInt8) (p : UInt8) (n : Int) (long bare : Bool), (0 : UInt8) ∉ u ++ 10 :: v → u.getLast?.getD p ≠ 13 → rC p (u ++ 10 :: v) n long bare = 121
  | [], v, p, n, long, bare, h, hv => by
    rw [List.nil_append, rC, if_neg (by decide), if_neg (by decide), if_pos rfl, decide_eq_true (show p ≠ 13 from hv), Bool.or_true]
    exact rC_bare v _ _ _ (fun e => h (by simp [e]))
  | c :: u, v, p, n, long, bare, h, hv => by
    have h0 : ¬ c = 0 := fun e => h (by simp [e])
    have hr : (0 : UInt8) ∉ u ++ 10 :: v := fun e => h (by rw [List.cons_append]; exact List.mem_cons_of_mem _ e)
    have hl : u.getLast?.getD c ≠ 13 := by
      cases u with
      | nil => simpa using hv
      | cons a t => rw [List.getLast?_cons_cons] at hv; rw [List.getLast?_cons] at hv ⊢; simpa using hv
    rw [List.cons_append, rC, if_neg h0]
    split
    · rename_i h13; subst h13; exact rC_lf u v _ _ _ _ hr hl
    split
    · rename_i h10; subst h10; exact rC_lf u v _ _ _ _ hr hl
    · exact rC_lf u v _ _ _ _ hr hl
theorem rC_line : ∀ (x y : List UInt8) (p : UInt8) (n : Int) (long bare : Bool), (0 : UInt8) ∉ x → (13 : UInt8) ∉ x → (10 : UInt8) ∉ x →
    rC p (x ++ 13 :: 10 :: y) n long bare = rC 10 y 0 (long || decide (998 < n + x.length)) bare
  | [], y, p, n, long, bare, _, _, _ => by
    rw [List.nil_append, rC, if_neg (by decide), if_pos rfl, rC, if_neg (by decide), if_neg (by decide), if_pos rfl]
    simp
  | c :: x, y, p, n, long, bare, h0, h13, h10 => by
    have a0 : ¬ c = 0 := fun e => h0 (by simp [e])
    have a13 : ¬ c = 13 := fun e => h13 (by simp [e])
    have a10 : ¬ c = 10 := fun e => h10 (by simp [e])
    rw [List.cons_append, rC, if_neg a0, if_neg a13, if_neg a10, rC_line x y c (n + 1) long bare (fun e => h0 (by simp [e])) (fun e => h13 (by simp [e])) (fun e => h10 (by simp [e]))]
    congr 2
    congr 1
    simp; omega
theorem bareEnd_line (x y : List UInt8) : bareEnd (x ++ 13 :: 10 :: y) = bareEnd y := by
  unfold bareEnd
  cases y with
  | nil => simp
  | cons a t => simp [List.getLast?_append, List.getLast?_cons]
theorem cont_eqF : ∀ (k : Nat) (d : List UInt8) (n : Nat) (p : UInt8) (long : Bool), d.length ≤ k → d.length < n → (0 : UInt8) ∉ d → p ≠ 13 → rC p d 0 long (bareEnd d) = contF n d long
  | k, d, 0, p, long, _, hn, _, _ => by omega
  | k, d, n + 1, p, long, hk, hn, h0, hp => by
    rw [contF]
    by_cases hd : d = []
    · subst hd; rfl
    · rw [if_neg hd]
      cases e : cutCR d with
      | none =>
        have hno := cutCR_none e
        show rC p d 0 long (bareEnd d) = 121
        by_cases hb : d.getLast? = some 10
        · obtain ⟨z, hz⟩ : ∃ z, d = z ++ [10] := by
            rw [List.getLast?_eq_some_iff] at hb
            exact hb
          have hlast : z.getLast? ≠ some 13 := fun h13 => by
            rw [List.getLast?_eq_some_iff] at h13
            obtain ⟨z', hz'⟩ := h13
            exact hno z' [] (by rw [hz, hz']; simp)
          rw [hz]
          refine rC_lf z [] p 0 long _ (by rw [← hz]; exact h0) ?_
          cases hzl : z.getLast? with
          | none => exact hp
          | some a => rw [hzl] at hlast; exact fun e => hlast (by rw [← e]; rfl)
        · have : bareEnd d = true := decide_eq_true ⟨hd, hb⟩
          rw [this]
          exact rC_bare d _ _ _ h0
      | some xy =>
        obtain ⟨x, y⟩ := xy
        obtain ⟨h1, h2⟩ := cutCR_some e
        show rC p d 0 long (bareEnd d) = if (13 : UInt8) ∈ x ∨ (10 : UInt8) ∈ x then 121 else contF n y (long || decide (998 < x.length))
        have hx0 : (0 : UInt8) ∉ x := fun h => h0 (by rw [h1]; simp [h])
        have hy0 : (0 : UInt8) ∉ y := fun h => h0 (by rw [h1]; simp [h])
        by_cases h13 : (13 : UInt8) ∈ x
        · rw [if_pos (.inl h13)]
          obtain ⟨u, v, huv⟩ := List.append_of_mem h13
          have e1 : d = u ++ 13 :: (v ++ 13 :: 10 :: y) := by rw [h1, huv]; simp
          rw [e1]
          refine rC_cr u _ p 0 long _ (by rw [← e1]; exact h0) ?_
          cases v with
          | nil => simp
          | cons a t =>
            intro ha
            simp only [List.cons_append, List.head?_cons, Option.some.injEq] at ha
            exact h2 u (t ++ [13]) (by rw [huv, ha]; simp)
        · by_cases h10 : (10 : UInt8) ∈ x
          · rw [if_pos (.inr h10)]
            obtain ⟨u, v, huv⟩ := List.append_of_mem h10
            have e1 : d = u ++ 10 :: (v ++ 13 :: 10 :: y) := by rw [h1, huv]; simp
            rw [e1]
            refine rC_lf u _ p 0 long _ (by rw [← e1]; exact h0) ?_
            cases hul : u.getLast? with
            | none => exact hp
            | some a =>
              intro ha
              have ha' : a = 13 := ha
              subst ha'
              rw [List.getLast?_eq_some_iff] at hul
              obtain ⟨u', hu'⟩ := hul
              exact h13 (by rw [huv, hu']; simp)
          · rw [if_neg (fun h => h.elim h13 h10), h1, bareEnd_line, rC_line x y p 0 long _ hx0 h13 h10]
            have hl : d.length = x.length + (y.length + 2) := by rw [h1]; simp
            have := cont_eqF (k - 1) y n 10 (long || decide (998 < x.length)) (by omega) (by omega) hy0 (by decide)
            rw [← this]
            congr 3
            simp
            omega
theorem cont_eq (d : List UInt8) : refC d = contP d := by
  unfold refC contP
  by_cases h0 : (0 : UInt8) ∈ d
  · rw [if_pos h0]; exact rC_nul d _ _ _ _ h0
  · rw [if_neg h0]; exact cont_eqF d.length d _ 0 false (Nat.le_refl _) (by omega) h0 (by decide)
end Go.Proofs.YtjnjnccfojfghaaGreatDoor
