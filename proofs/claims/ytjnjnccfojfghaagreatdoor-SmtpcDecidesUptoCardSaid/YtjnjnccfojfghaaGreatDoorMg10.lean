/-
  Several texts in one: RowX, Turn, Safe, ScSay. Conditions: each part names its own.
-/
import Derived.Test.YtjnjnccfojfghaaGreatDoorMg3
import Derived.Test.YtjnjnccfojfghaaGreatDoorMg8
import Derived.Test.YtjnjnccfojfghaaGreatDoorMg9
set_option linter.unusedSimpArgs false
/-! A slice of values, sz cells each, that begins anywhere in a block of its own, and append onto it; over any program. No condition but the sizes. -/
namespace Go.Proofs.YtjnjnccfojfghaaGreatDoor
open Go.RowKit
set_option linter.unusedVariables false

/-- v holds the cells xs, sz for each element; if it has room for an element, its cells up to its capacity lie in block own and may be written -/
def OwnX (sz : Nat) (w : World) (own : Option Nat) (v : Value) (xs : List Value) : Prop :=
  ∃ A n c, v = .slice A n c ∧ xs.length = n * sz ∧ n ≤ c ∧ c ≤ maxLen ∧ ((c = 0 ∧ own = none) ∨ ∃ g off, own = some g ∧ A = some ⟨g, off, none⟩ ∧ g < w.heap.size ∧ (∀ i, i < xs.length → w.cell? ⟨g, off + i, none⟩ = xs[i]?) ∧ ∀ i, i < c * sz → (w.cell? ⟨g, off + i, none⟩).isSome = true ∧ w.frozen? ⟨g, off + i, none⟩ = false)
/-- t is a type of slices of E, E of sz cells -/
structure UX (P : Program) (t E : TypeId) (sz : Nat) : Prop where
  ht : P.underlying t = some (.slice E)
  hi : ∃ i z, P.info? E = some i ∧ i.zero = some z ∧ z.cells.size = sz ∧ i.size = sz ∧ i.bytes ≤ 128
  h0 : 0 < sz
section
variable {sz : Nat} {w w' : World} {own : Option Nat} {v : Value} {xs : List Value}
theorem OwnX.nil (w : World) (A : Option Addr) : OwnX sz w none (.slice A 0 0) [] := ⟨A, 0, 0, rfl, by simp, Nat.le_refl _, by simp [maxLen], .inl ⟨rfl, rfl⟩⟩
theorem OwnX.same (h : OwnX sz w own v xs) (hs : w.heap.size ≤ w'.heap.size) (hb : ∀ g, own = some g → w'.heap[g]? = w.heap[g]?) : OwnX sz w' own v xs := by
  obtain ⟨A, n, c, rfl, h0, h1, h2, h3⟩ := h
  refine ⟨A, n, c, rfl, h0, h1, h2, ?_⟩
  rcases h3 with h3 | ⟨g, off, rfl, rfl, hlt, hc, hf⟩
  · exact .inl h3
  · have e := hb g rfl
    refine .inr ⟨g, off, rfl, rfl, Nat.lt_of_lt_of_le hlt hs, fun i hi => ?_, fun i hi => ?_⟩
    · rw [← hc i hi]; exact World.cell?_of_block e
    · rw [World.cell?_of_block (w := w) e, World.frozen?_of_block (w := w) e]; exact hf i hi
theorem OwnX.below (h : OwnX sz w own v xs) (hb : Below w.heap.size w w') (ho : ∀ g, own = some g → g < w.heap.size) : OwnX sz w' own v xs :=
  h.same hb.size fun g hg => hb.block g (ho g hg)
theorem OwnX.lt (h : OwnX sz w own v xs) {g : Nat} (hg : own = some g) : g < w.heap.size := by
  obtain ⟨A, n, c, rfl, h0, h1, h2, h3⟩ := h
  rcases h3 with ⟨_, h3⟩ | ⟨g', off, h3, rfl, hlt, hc, hf⟩
  · rw [h3] at hg; cases hg
  · rw [h3] at hg; cases hg; exact hlt
theorem OwnX.form {A : Option Addr} {n c : Nat} (h : OwnX sz w own (.slice A n c) xs) : xs.length = n * sz ∧ n ≤ c ∧ c ≤ maxLen := by
  obtain ⟨A', n', c', e, h0, h1, h2, h3⟩ := h
  injection e with e1 e2 e3
  subst e1 e2 e3
  exact ⟨h0, h1, h2⟩
theorem OwnX.sl (h : OwnX sz w own v xs) : ∃ A n c, v = .slice A n c ∧ xs.length = n * sz ∧ n ≤ c ∧ c ≤ maxLen := by
  obtain ⟨A, n, c, e, h0, h1, h2, h3⟩ := h
  exact ⟨A, n, c, e, h0, h1, h2⟩
/-- where its cells lie -/
theorem OwnX.at_ {A : Option Addr} {n c : Nat} (h : OwnX sz w own (.slice A n c) xs) (hc : 0 < c) : ∃ g off, own = some g ∧ A = some ⟨g, off, none⟩ ∧ g < w.heap.size ∧ (∀ i, i < xs.length → w.cell? ⟨g, off + i, none⟩ = xs[i]?) ∧ ∀ i, i < c * sz → (w.cell? ⟨g, off + i, none⟩).isSome = true ∧ w.frozen? ⟨g, off + i, none⟩ = false := by
  obtain ⟨A', n', c', e, h0, h1, h2, h3⟩ := h
  injection e with e1 e2 e3
  subst e1 e2 e3
  rcases h3 with ⟨h3, _⟩ | h3
  · omega
  · exact h3
/-- what is left of it behind some elements -/
theorem OwnX.tail {A : Option Addr} {n c : Nat} (h : OwnX sz w own (.slice A n c) xs) (k : Nat) (hk : k ≤ n) :
    ∃ own', (own' = own ∨ own' = none) ∧ OwnX sz w own' (.slice (if c = k then A else A.map fun a => a.add (k * sz)) (n - k) (c - k)) (xs.drop (k * sz)) := by
  obtain ⟨A', n', c', e, h0, h1, h2, h3⟩ := h
  injection e with e1 e2 e3
  subst e1; subst e2; subst e3
  have hl : (xs.drop (k * sz)).length = (n - k) * sz := by rw [List.length_drop, h0, Nat.sub_mul]
  by_cases hck : c = k
  · refine ⟨none, .inr rfl, A, n - k, 0, ?_, hl, by omega, by simp [maxLen], .inl ⟨rfl, rfl⟩⟩
    rw [if_pos hck, hck, Nat.sub_self]
  · rcases h3 with ⟨h3, h4⟩ | ⟨g, off, h3, rfl, hlt, hc, hf⟩
    · omega
    · refine ⟨own, .inl rfl, some ⟨g, off + k * sz, none⟩, n - k, c - k, ?_, hl, by omega, by omega, .inr ⟨g, off + k * sz, h3, rfl, hlt, fun i hi => ?_, fun i hi => ?_⟩⟩
      · rw [if_neg hck]
        simp [Addr.add_lit]
      · rw [List.length_drop] at hi
        rw [Nat.add_assoc, hc (k * sz + i) (by omega), List.getElem?_drop]
      · rw [Nat.sub_mul] at hi
        rw [Nat.add_assoc]; exact hf (k * sz + i) (by omega)
/-- a store into one of its cells -/
theorem OwnX.set_ {g off n c : Nat} (h : OwnX sz w own (.slice (some ⟨g, off, none⟩) n c) xs) (hc : 0 < c) (i : Nat) (hi : i < xs.length) (u : Value) : OwnX sz (w.setCell ⟨g, off + i, none⟩ u) own (.slice (some ⟨g, off, none⟩) n c) (xs.set i u) := by
  obtain ⟨h0, h1, h2⟩ := h.form
  obtain ⟨g', off', ho, e, hlt, hcl, hf⟩ := h.at_ hc
  injection e with e
  injection e with e1 e2
  subst e1 e2
  refine ⟨_, n, c, rfl, by rw [List.length_set]; exact h0, h1, h2, .inr ⟨g, off, ho, rfl, by simpa using hlt, fun j hj => ?_, fun j hj => ⟨?_, ?_⟩⟩⟩
  · rw [List.length_set] at hj
    by_cases e : i = j
    · subst e
      obtain ⟨v0, hv0⟩ := Option.isSome_iff_exists.1 (hf i (Nat.lt_of_lt_of_le hi (by rw [h0]; exact Nat.mul_le_mul_right _ h1))).1
      rw [World.cell?_setCell_same' _ _ _ (by rw [hv0]; rfl), List.getElem?_set_self hi]
    · rw [World.cell?_setCell_other _ _ _ _ (by intro e2; injection e2 with e3 e4; omega), hcl j hj, List.getElem?_set_ne e]
  · obtain ⟨v0, hv0⟩ := Option.isSome_iff_exists.1 (hf j hj).1
    obtain ⟨v1, hv1⟩ := cell?_setCell_some (p := ⟨g, off + i, none⟩) (x := u) hv0
    rw [hv1]; rfl
  · rw [World.frozen?_setCell]; exact (hf j hj).2
end
section
variable {P : Program} (w : World)
theorem OwnX.newRow {sz E : Nat} (xs : List Value) (n c : Nat) (z : Array Value) (hn : xs.length = n * sz) (hz : z.size = (c - n) * sz) (hl : n ≤ c) (hm : c ≤ maxLen) (cs : Array Value) (hcs : cs = xs.toArray ++ z) :
    OwnX sz (w.alloc (.cells cs E)) (some w.heap.size) (.slice (some ⟨w.heap.size, 0, none⟩) n c) xs := by
  subst hcs
  have hB := Blk.new w E (xs.toArray ++ z)
  refine ⟨_, n, c, rfl, hn, hl, hm, .inr ⟨w.heap.size, 0, rfl, rfl, by simp, fun i hi => ?_, fun i hi => ?_⟩⟩
  · rw [Nat.zero_add, hB.cell i, Array.getElem?_append_left (by simpa using hi)]
    simp
  · rw [Nat.zero_add, hB.cell i]
    refine ⟨?_, hB.frozen i⟩
    rw [Nat.sub_mul] at hz
    have h2 : n * sz ≤ c * sz := Nat.mul_le_mul_right _ hl
    rw [Array.getElem?_eq_getElem (by simp; omega)]
    rfl
theorem run_appX {t E : TypeId} {sz : Nat} (hU : UX P t E sz) (ty : TypeId) {own : Option Nat} {v : Value} {xs : List Value} (hown : OwnX sz w own v xs) (A : Option Addr) (m c : Nat) (news : List Value) (hl : news.length = m * sz)
    (hA : A = none → m = 0) (hnews : ∀ ad, A = some ad → ∀ j u, news[j]? = some u → w.cell? (ad.add j) = some u) (h1 : ∀ u ∈ news, u.oneCell' = true) (hbytes : xs.length + m * sz ≤ 1000000000000) :
    ∃ v' own' w', (Builtin.append_ #[t, t] ty #[v, .slice A m c]).run P w = .ok v' w' ∧ OwnX sz w' own' v' (xs ++ news) ∧ w.grownBy w' own ∧ (own' = own ∨ own' = some w.heap.size) := by
  obtain ⟨i, z, hi, hz, hzs, hs, hb⟩ := hU.hi
  have hp := hU.h0
  obtain ⟨Av, n, cv, rfl, hx, hle, hmx, hq⟩ := hown
  rcases Nat.eq_zero_or_pos m with h0 | h0
  · subst h0
    obtain rfl : news = [] := List.eq_nil_of_length_eq_zero (by rw [hl, Nat.zero_mul])
    refine ⟨.slice Av n cv, own, w, ?_, by rw [List.append_nil]; exact ⟨Av, n, cv, rfl, hx, hle, hmx, hq⟩, World.grownBy.refl w _, .inl rfl⟩
    rcases A with _ | ad
    · cases Av <;> simp [Builtin.append_, run_underlying hU.ht, sizeOf, typeInfo, hi, Builtin.lenOf, Builtin.firstCells, hle, storeCells]
    · have hl := run_loadCells_list (P := P) w ad [] (fun j v hj => by simp at hj)
      simp at hl
      cases Av <;> simp [Builtin.append_, run_underlying hU.ht, sizeOf, typeInfo, hi, Builtin.lenOf, Builtin.firstCells, hle, storeCells, hl]
  · obtain ⟨ad, rfl⟩ : ∃ ad, A = some ad := by
      rcases A with _ | ad
      · have := hA rfl; omega
      · exact ⟨ad, rfl⟩
    have hcn := hnews ad rfl
    have hnm : n + m ≤ 1000000000000 := by
      have : (n + m) * 1 ≤ (n + m) * sz := Nat.mul_le_mul_left _ hp
      rw [Nat.add_mul n m sz] at this
      omega
    have hbb : (n + m) * i.bytes ≤ 140737488355328 := Nat.le_trans (Nat.mul_le_mul hnm hb) (by decide)
    have hgf : cv < n + m → Builtin.nextslicecap (n + m) cv * i.bytes ≤ 281474976710656 := fun hg => growslice_fits hg hbb
    have hml : n + m ≤ maxLen := by simp only [maxLen]; omega
    have hmi : ((n + m : Nat) : Int) ≤ 9223372036854775807 := by omega
    have hxl : (xs ++ news).length = (n + m) * sz := by rw [List.length_append, hx, hl, Nat.add_mul]
    by_cases hroom : n + m ≤ cv
    · rcases hq with ⟨hq, _⟩ | ⟨g, o, rfl, rfl, hlt, hcl, hf⟩
      · omega
      · have hmul : (n + m) * sz ≤ cv * sz := Nat.mul_le_mul_right _ hroom
        rw [Nat.add_mul] at hmul
        have hfit : ∀ j, j < news.length → o + n * i.size + j = o + (xs.length + j) := fun j _ => by rw [hs, hx]; omega
        have hrun := run_append_room_cells (P := P) w t ty E i hU.ht hi g o n cv ad m c news (by rw [hl, hs]) hcn h1 hroom
          (fun j hj => by rw [hfit j hj]; exact (hf (xs.length + j) (by omega)).1)
          (fun j hj => by rw [hfit j hj]; exact (hf (xs.length + j) (by omega)).2)
        have hkb := keptBlk_setCells g news (o + n * i.size) w
        have hso : o + n * i.size = o + xs.length := by rw [hs, hx]
        have ein : ∀ j, (hj : j < news.length) → (w.setCells g (o + n * i.size) news).cell? ⟨g, o + n * i.size + j, none⟩ = news[j]? := fun j hj => by
          rw [World.cell?_setCells_in g news (o + n * i.size) w (fun j hj => by rw [hfit j hj]; exact (hf (xs.length + j) (by omega)).1) j hj]
          simp [hj]
        have eout : ∀ x, x < xs.length ∨ xs.length + news.length ≤ x → (w.setCells g (o + n * i.size) news).cell? ⟨g, o + x, none⟩ = w.cell? ⟨g, o + x, none⟩ := fun x hx2 =>
          World.cell?_setCells_out g news (o + n * i.size) w ⟨g, o + x, none⟩ (fun _ _ => by show o + x < _ ∨ _ ≤ o + x; omega)
        refine ⟨_, some g, _, hrun, ⟨_, n + m, cv, rfl, hxl, hroom, hmx, .inr ⟨g, o, rfl, rfl, Nat.lt_of_lt_of_le hlt hkb.size, fun x hx2 => ?_, fun x hx2 => ⟨?_, ?_⟩⟩⟩, hkb, .inl rfl⟩
        · rw [List.length_append] at hx2
          rcases Nat.lt_or_ge x xs.length with hxl2 | hxl2
          · rw [eout x (.inl hxl2), hcl x hxl2, List.getElem?_append_left hxl2]
          · have := ein (x - xs.length) (by omega)
            rw [show o + n * i.size + (x - xs.length) = o + x by omega] at this
            rw [this, List.getElem?_append_right hxl2]
        · by_cases hx3 : x < xs.length ∨ xs.length + news.length ≤ x
          · rw [eout x hx3]; exact (hf x hx2).1
          · have := ein (x - xs.length) (by omega)
            rw [show o + n * i.size + (x - xs.length) = o + x by omega] at this
            rw [this, List.getElem?_eq_getElem (by omega)]; rfl
        · rw [World.frozen?_setCells]; exact (hf x hx2).2
    · rcases Av with _ | av
      · have hcv : cv = 0 ∧ own = none := by
          rcases hq with hq | ⟨g, o, _, hA2, _⟩
          · exact hq
          · cases hA2
        obtain ⟨rfl, rfl⟩ := hcv
        obtain rfl : n = 0 := by omega
        obtain rfl : xs = [] := List.eq_nil_of_length_eq_zero (by rw [hx, Nat.zero_mul])
        have hrun := run_append_nil (P := P) w t ty E i z hU.ht hi hz ad m c news (by rw [hl, hs]) hcn h0 (by simpa using hmi) (by rw [Nat.zero_add] at hbb; omega)
        refine ⟨_, some w.heap.size, _, hrun, ?_, ⟨rfl, rfl, rfl, by simp, fun x hx _ => Below.heap_alloc w.drew _ x hx⟩, .inr rfl⟩
        exact OwnX.newRow w.drew news m (grownCap w m 0 E) _ hl (by rw [size_zeroCells, hzs]) (grownCap_ge w _ _ _) (grownCap_le_maxLen w _ _ _ (by simpa using hml)) _ rfl
      · have hrun := run_append_grow (P := P) w t ty E i z hU.ht hi hz av n cv xs (by rw [hx, hs])
          (fun j u hu => by
            have hj : j < xs.length := (List.getElem?_eq_some_iff.1 hu).1
            rcases hq with ⟨hq, _⟩ | ⟨g, o, _, hA2, _, hcl, _⟩
            · have : xs.length = 0 := by rw [hx]; obtain rfl : n = 0 := by omega
                                         exact Nat.zero_mul _
              omega
            · cases hA2; rw [Addr.add_lit, hcl j hj]; exact hu)
          ad m c news (by rw [hl, hs]) hcn (by omega) hmi (hgf (by omega))
        refine ⟨_, some w.heap.size, _, hrun, ?_, ⟨rfl, rfl, rfl, by simp, fun x hx _ => Below.heap_alloc w.drew _ x hx⟩, .inr rfl⟩
        exact OwnX.newRow (E := E) w.drew (xs ++ news) (n + m) (grownCap w (n + m) cv E) (Builtin.zeroCells z.cells (grownCap w (n + m) cv E - (n + m))) hxl
          (by rw [size_zeroCells, hzs]) (grownCap_ge w _ _ _) (grownCap_le_maxLen w _ _ _ hml) _ (by rw [← List.append_toArray])
theorem wpList_appX {ops : Array Oper} {rest : List Oper} {o : Oper} {a : Act} {Q : Exit → Act → World → Prop} {t E : TypeId} {sz : Nat} (hU : UX P t E sz) (s x : Operand)
    (ho : o.op = .call { callee := .builtin .append, args := #[s, x], argTypes := #[t, t] }) (hgd : o.guard = none)
    {own : Option Nat} {v : Value} {xs : List Value} (hs : a.eval s = v) (hown : OwnX sz w own v xs) (A : Option Addr) (m c : Nat) (hx : a.eval x = .slice A m c) (news : List Value) (hl : news.length = m * sz)
    (hA : A = none → m = 0) (hnews : ∀ ad, A = some ad → ∀ j u, news[j]? = some u → w.cell? (ad.add j) = some u) (h1 : ∀ u ∈ news, u.oneCell' = true) (hbytes : xs.length + m * sz ≤ 1000000000000)
    (h : ∀ v' own' w', OwnX sz w' own' v' (xs ++ news) → w.grownBy w' own → (own' = own ∨ own' = some w.heap.size) → wpList P ops Q rest (a.put o.dst v') w') : wpList P ops Q (o :: rest) a w := by
  refine wpList_plain hgd fun K hK => ?_
  obtain ⟨v', own', w', hrun, h2, h3, h4⟩ := run_appX (P := P) w hU o.type hown A m c news hl hA hnews h1 hbytes
  unfold Oper.wp execOp
  simp only [ho, resolve, invoke, builtin, Sem.run_bind, Sem.run_pure, Result.andThen_ok, List.map_toArray, List.map_cons, List.map_nil, hs, hx, hrun]
  exact hK _ _ (h v' own' w' h2 h3 h4)
/-- at a step of a region that draws its order -/
theorem step_appX {ops : Array Oper} {o : Oper} {a : Act} {K : Act → World → Prop} {Q : Exit → Act → World → Prop} {E' : Prop} (hgd : o.guard = none) {t E : TypeId} {sz : Nat} (hU : UX P t E sz) (s x : Operand)
    (ho : o.op = .call { callee := .builtin .append, args := #[s, x], argTypes := #[t, t] })
    {own : Option Nat} {v : Value} {xs : List Value} (hs : a.eval s = v) (hown : OwnX sz w own v xs) (A : Option Addr) (m c : Nat) (hx : a.eval x = .slice A m c) (news : List Value) (hl : news.length = m * sz)
    (hA : A = none → m = 0) (hnews : ∀ ad, A = some ad → ∀ j u, news[j]? = some u → w.cell? (ad.add j) = some u) (h1 : ∀ u ∈ news, u.oneCell' = true) (hbytes : xs.length + m * sz ≤ 1000000000000)
    (h : ∀ v' own' w', OwnX sz w' own' v' (xs ++ news) → w.grownBy w' own → (own' = own ∨ own' = some w.heap.size) → K (a.put o.dst v') w') :
    if Region.wanted o (yielded ops a.tmps) = true then Oper.wp P o a w K Q else E' := by
  have hw : Region.wanted o (yielded ops a.tmps) = true := by simp [Region.wanted, hgd]
  rw [if_pos hw]
  obtain ⟨v', own', w', hrun, h2, h3, h4⟩ := run_appX (P := P) w hU o.type hown A m c news hl hA hnews h1 hbytes
  unfold Oper.wp execOp
  simp only [ho, resolve, invoke, builtin, Sem.run_bind, Sem.run_pure, Result.andThen_ok, List.map_toArray, List.map_cons, List.map_nil, hs, hx, hrun]
  exact h v' own' w' h2 h3 h4
end
end Go.Proofs.YtjnjnccfojfghaaGreatDoor

/-! Whose a block is: blocks of other marks stay; rows of strings anywhere in a block; over any program. No condition. -/
namespace Go.Proofs.YtjnjnccfojfghaaGreatDoor
open Go.RowKit
set_option linter.unusedVariables false
/-- the blocks whose mark is not among cl are as they were, and so are their marks -/
structure Turn (cl : Nat × Nat → Prop) (w w' : World) (own own' : Nat → Nat × Nat) : Prop where
  os : w'.os = w.os
  tape : w'.tape = w.tape
  output : w'.output = w.output
  size : w.heap.size ≤ w'.heap.size
  block : ∀ k, k < w.heap.size → ¬ cl (own k) → w'.heap[k]? = w.heap[k]?
  mark : ∀ k, k < w.heap.size → ¬ cl (own k) → own' k = own k
section
variable {cl : Nat × Nat → Prop} {w w' w'' : World} {own own' own'' : Nat → Nat × Nat}
theorem Turn.refl (cl : Nat × Nat → Prop) (w : World) (own : Nat → Nat × Nat) : Turn cl w w own own := ⟨rfl, rfl, rfl, Nat.le_refl _, fun _ _ _ => rfl, fun _ _ _ => rfl⟩
theorem Turn.trans (h : Turn cl w w' own own') (h' : Turn cl w' w'' own' own'') : Turn cl w w'' own own'' :=
  ⟨h'.os.trans h.os, h'.tape.trans h.tape, h'.output.trans h.output, Nat.le_trans h.size h'.size,
    fun k hk hc => (h'.block k (Nat.lt_of_lt_of_le hk h.size) (by rw [h.mark k hk hc]; exact hc)).trans (h.block k hk hc),
    fun k hk hc => (h'.mark k (Nat.lt_of_lt_of_le hk h.size) (by rw [h.mark k hk hc]; exact hc)).trans (h.mark k hk hc)⟩
theorem Turn.mono {cl' : Nat × Nat → Prop} (h : Turn cl w w' own own') (hc : ∀ t, cl t → cl' t) : Turn cl' w w' own own' :=
  ⟨h.os, h.tape, h.output, h.size, fun k hk hn => h.block k hk fun hx => hn (hc _ hx), fun k hk hn => h.mark k hk fun hx => hn (hc _ hx)⟩
/-- new blocks alone -/
theorem Turn.of_below (h : Below w.heap.size w w') (hm : ∀ k, k < w.heap.size → own' k = own k) : Turn cl w w' own own' :=
  ⟨h.os, h.tape, h.output, h.size, fun k hk _ => h.block k hk, fun k hk _ => hm k hk⟩
/-- what is nobody's stays -/
theorem Turn.below (h : Turn cl w w' own own') {B : Nat} (hB : B ≤ w.heap.size) (hz : ∀ k, k < B → own k = (0, 0)) (hc : ¬ cl (0, 0)) : Below B w w' :=
  ⟨h.os, h.tape, h.output, h.size, fun k hk => h.block k (Nat.lt_of_lt_of_le hk hB) (by rw [hz k hk]; exact hc)⟩
theorem Turn.zero (h : Turn cl w w' own own') {B : Nat} (hB : B ≤ w.heap.size) (hz : ∀ k, k < B → own k = (0, 0)) (hc : ¬ cl (0, 0)) : ∀ k, k < B → own' k = (0, 0) := fun k hk => by
  rw [h.mark k (Nat.lt_of_lt_of_le hk hB) (by rw [hz k hk]; exact hc), hz k hk]
theorem Turn.drewN (h : Turn cl w w' own own') (n : Nat) : Turn cl w (w'.drewN n) own own' := ⟨h.os, h.tape, h.output, h.size, h.block, h.mark⟩
end
/-! ### rows of strings -/
theorem belowX {B : Nat} {w w1 w2 : World} {own : Option Nat} (hb : Below B w w1) (hg : w1.grownBy w2 own) (ho : ∀ k, own = some k → B ≤ k) (hB : B ≤ w1.heap.size) : Below B w w2 :=
  ⟨hg.os.trans hb.os, hg.tape.trans hb.tape, hg.output.trans hb.output, Nat.le_trans hb.size hg.size, fun k hk => (hg.block k (by omega) (fun e => by have := ho k e.symm; omega)).trans (hb.block k hk)⟩
theorem OwnX.rs {w : World} {own : Option Nat} {A : Option Addr} {n c : Nat} {L : List ByteArray} (h : OwnX 1 w own (.slice A n c) (L.map Value.string)) : n = L.length ∧ n ≤ c ∧ c ≤ maxLen ∧ RS w w.heap.size A L := by
  obtain ⟨e1, e2, e3⟩ := h.form
  rw [List.length_map, Nat.mul_one] at e1
  refine ⟨e1.symm, e2, e3, ?_⟩
  rcases Nat.eq_zero_or_pos L.length with h0 | h0
  · exact .inl (List.eq_nil_of_length_eq_zero h0)
  · obtain ⟨g, off, -, rfl, hlt, hc, -⟩ := h.at_ (by omega)
    refine .inr ⟨g, off, rfl, hlt, fun i hi => ?_⟩
    rw [hc i (by rw [List.length_map]; exact hi), List.getElem?_map, List.getElem?_eq_getElem hi, st_getElem hi]
    rfl
theorem map_oneS (L : List ByteArray) : ∀ u ∈ L.map Value.string, u.oneCell' = true := by
  intro u hu
  obtain ⟨s, _, rfl⟩ := List.mem_map.1 hu
  rfl
theorem RS.news {w : World} {B : Nat} {A : Option Addr} {L : List ByteArray} (h : RS w B A L) : ∀ ad, A = some ad → ∀ j u, (L.map Value.string)[j]? = some u → w.cell? (ad.add j) = some u := by
  intro ad e j u hu
  have hj : j < L.length := by have := (List.getElem?_eq_some_iff.1 hu).1; simpa using this
  obtain ⟨b, off, rfl, -, hc⟩ := h.at_ hj
  cases e
  rw [Addr.add_lit, hc j hj, ← hu, List.getElem?_map, List.getElem?_eq_getElem hj, st_getElem hj]
  rfl
theorem RS.none_ {w : World} {B : Nat} {A : Option Addr} {L : List ByteArray} (h : RS w B A L) (hA : A = none) : L = [] := by
  rcases h with h | ⟨_, _, h, _⟩
  · exact h
  · rw [hA] at h; cases h
theorem RS.take {w : World} {B : Nat} {A : Option Addr} {L : List ByteArray} (h : RS w B A L) (k : Nat) : RS w B A (L.take k) := by
  rcases h with rfl | ⟨b, off, rfl, hb, hc⟩
  · exact .inl (by simp)
  · refine .inr ⟨b, off, rfl, hb, fun i hi => ?_⟩
    rw [List.length_take] at hi
    rw [hc i (by omega)]
    unfold st
    rw [List.getD_eq_getElem?_getD, List.getD_eq_getElem?_getD, List.getElem?_take_of_lt (by omega)]
theorem RS.dropA {w : World} {B : Nat} {A : Option Addr} {L : List ByteArray} (h : RS w B A L) (c k : Nat) (hc : L.length ≤ c) : RS w B (if c = k then A else A.map fun a => a.add (k * 1)) (L.drop k) := by
  rcases h with rfl | ⟨b, off, rfl, hb, hcl⟩
  · exact .inl (by simp)
  · by_cases h1 : L.length ≤ k
    · exact .inl (List.drop_of_length_le h1)
    · rw [if_neg (by omega)]
      refine .inr ⟨b, off + k, by simp [Addr.add_lit], hb, fun i hi => ?_⟩
      rw [List.length_drop] at hi
      rw [Nat.add_assoc, hcl (k + i) (by omega)]
      unfold st
      rw [List.getD_eq_getElem?_getD, List.getD_eq_getElem?_getD, List.getElem?_drop]
theorem map_snocS (L : List ByteArray) (s : ByteArray) : L.map Value.string ++ [Value.string s] = (L ++ [s]).map Value.string := by simp
theorem one_newS (w : World) (E : TypeId) (s : ByteArray) : ∀ ad, (some (⟨w.heap.size, 0, none⟩ : Addr)) = some ad → ∀ j u, ([.string s] : List Value)[j]? = some u → (w.alloc (.cells #[.string s] E)).cell? (ad.add j) = some u := by
  intro ad e j u hu
  cases e
  have hj : j = 0 := by
    have := (List.getElem?_eq_some_iff.1 hu).1
    simpa using this
  subst hj
  simp at hu
  subst hu
  rw [Addr.add_lit]
  exact (Blk.new w E #[.string s]).cell 0
theorem res0 {fn : Func} (h : fn.results = #[]) (tm : Array Value) (P : Program) (W : World) : (results fn tm).run P W = .ok (.tuple #[]) W := by simp [results, h]
end Go.Proofs.YtjnjnccfojfghaaGreatDoor

/-! Some blocks stay as they are; over any program. No condition. -/
namespace Go.Proofs.YtjnjnccfojfghaaGreatDoor
open Go.RowKit
set_option linter.unusedVariables false
structure Safe (S : Nat → Prop) (w w' : World) : Prop where
  os : w'.os = w.os
  tape : w'.tape = w.tape
  output : w'.output = w.output
  size : w.heap.size ≤ w'.heap.size
  block : ∀ k, S k → w'.heap[k]? = w.heap[k]?
section
variable {S : Nat → Prop} {w w' w'' : World}
theorem Safe.refl (S : Nat → Prop) (w : World) : Safe S w w := ⟨rfl, rfl, rfl, Nat.le_refl _, fun _ _ => rfl⟩
theorem Safe.trans (h : Safe S w w') (h' : Safe S w' w'') : Safe S w w'' :=
  ⟨h'.os.trans h.os, h'.tape.trans h.tape, h'.output.trans h.output, Nat.le_trans h.size h'.size, fun k hk => (h'.block k hk).trans (h.block k hk)⟩
theorem Safe.of_below (h : Below w.heap.size w w') (hS : ∀ k, S k → k < w.heap.size) : Safe S w w' := ⟨h.os, h.tape, h.output, h.size, fun k hk => h.block k (hS k hk)⟩
theorem Safe.below (h : Safe S w w') (hb : Below w'.heap.size w' w'') (hS : ∀ k, S k → k < w'.heap.size) : Safe S w w'' := h.trans (Safe.of_below hb hS)
theorem Safe.set_ (h : Safe S w w') {p : Addr} (hp : ¬ S p.block) (v : Value) : Safe S w (w'.setCell p v) :=
  ⟨h.os, h.tape, h.output, by simpa using h.size, fun k hk => (Below.heap_setCell w' p v k (fun e => hp (by rw [← e]; exact hk))).trans (h.block k hk)⟩
theorem Safe.grown {g : Option Nat} (h : Safe S w w') (hg : w'.grownBy w'' g) (hS : ∀ k, S k → k < w'.heap.size ∧ g ≠ some k) : Safe S w w'' :=
  ⟨hg.os.trans h.os, hg.tape.trans h.tape, hg.output.trans h.output, Nat.le_trans h.size hg.size, fun k hk => (hg.block k (hS k hk).1 (fun e => (hS k hk).2 e.symm)).trans (h.block k hk)⟩
theorem Safe.drewN (h : Safe S w w') (n : Nat) : Safe S w (w'.drewN n) := ⟨h.os, h.tape, h.output, h.size, h.block⟩
theorem Safe.to_below (h : Safe S w w') {B : Nat} (hB : ∀ k, k < B → S k) : Below B w w' := ⟨h.os, h.tape, h.output, h.size, fun k hk => h.block k (hB k hk)⟩
theorem Safe.mono {S' : Nat → Prop} (h : Safe S w w') (hS : ∀ k, S' k → S k) : Safe S' w w' := ⟨h.os, h.tape, h.output, h.size, fun k hk => h.block k (hS k hk)⟩
theorem Blk.safe {g : Nat} {t : TypeId} {cs : Array Value} (h : Blk w g t cs) (hs : Safe S w w') (hg : S g) : Blk w' g t cs := (hs.block g hg).trans h
theorem OwnX.safe {sz : Nat} {o : Option Nat} {v : Value} {xs : List Value} (h : OwnX sz w o v xs) (hs : Safe S w w') (hg : ∀ k, o = some k → S k) : OwnX sz w' o v xs := h.same hs.size fun k hk => hs.block k (hg k hk)
end
end Go.Proofs.YtjnjnccfojfghaaGreatDoor

/-! The walk of smtpc's say. Condition: the lengths. -/
namespace Go.Proofs.YtjnjnccfojfghaaGreatDoor
open Go.RowKit
set_option linter.unusedVariables false
/-- the blocks that a call on the client in cb, whose text lies in ob, leaves alone -/
def Stay (n cb : Nat) (ob : Option Nat) (k : Nat) : Prop := k < n ∧ k ≠ cb ∧ ob ≠ some k
def NewOr (n : Nat) (ob : Option Nat) (v : Value) : Prop := v.ownBlock = ob ∨ ∃ q, v.ownBlock = some q ∧ n ≤ q
theorem st_flat (L : List Tx) {j : Nat} {x : Tx} (h : L[j]? = some x) : (L.take (j + 1)).flatten = (L.take j).flatten ++ x := by
  rw [List.take_add_one, h]
  simp
theorem flat_le (L : List Tx) {j : Nat} {x : Tx} (h : L[j]? = some x) : (L.take j).flatten.length + x.length ≤ L.flatten.length := by
  have h1 := st_flat L h
  have h2 : L.flatten = (L.take (j + 1)).flatten ++ (L.drop (j + 1)).flatten := by rw [← List.flatten_append, List.take_append_drop]
  rw [h2, h1, List.length_append, List.length_append]
  omega
def SayPost (w : World) (cb : Nat) (cs : Array Value) (B : Nat) (ob : Option Nat) (l : Tx) (e : Ending) (w' : World) : Prop :=
  e = .returned (.tuple #[]) ∧ ∃ v', Blk w' cb 72 (cs.setIfInBounds 7 v') ∧ OwnB w' B 5 v' l ∧ NewOr w.heap.size ob v' ∧ Safe (Stay w.heap.size cb ob) w w'
set_option maxRecDepth 4000 in
set_option maxHeartbeats 4000000 in
theorem say_walk (w : World) (cb : Nat) (cs : Array Value) (hcs : cs.size = 10) (v : Value) (hv : cs[7]? = some v) (hb : Blk w cb 72 cs) (B : Nat) (hB : B ≤ w.heap.size) (l : Tx) (ho : OwnB w B 5 v l) (hne : v.ownBlock ≠ some cb)
    (g : Nat) (L : List Tx) (n : Nat) (hn : n = L.length) (hg : g < w.heap.size) (hgc : g ≠ cb) (hgv : v.ownBlock ≠ some g) (hr : RS w w.heap.size (some ⟨g, 0, none⟩) (L.map bs)) (hln : L.length ≤ 1000) (hlen : l.length + L.flatten.length ≤ 100000000000) :
    Calls Tryz.prog 129 #[.pointer (some ⟨cb, 0, none⟩), .slice (some ⟨g, 0, none⟩) n n] w (SayPost w cb cs B v.ownBlock (l ++ L.flatten ++ [13, 10])) := by
  subst hn
  have hvv : ∃ A m c, v = .slice A m c := ho.sl
  have HB := Lib.hid hb
  have HO := Lib.hid ho
  have HR := Lib.hid hr
  have HNE := Lib.hid hne
  have HGV := Lib.hid hgv
  have HCV := Lib.hid hv
  have HCS := Lib.hid hcs
  have PO : Hid (∀ w' v', Blk w' cb 72 (cs.setIfInBounds 7 v') → OwnB w' B 5 v' (l ++ L.flatten ++ [13, 10]) → NewOr w.heap.size v.ownBlock v' → Safe (Stay w.heap.size cb v.ownBlock) w w' → SayPost w cb cs B v.ownBlock (l ++ L.flatten ++ [13, 10]) (.returned (.tuple #[])) w') := Lib.hid fun w' v' h1 h2 h3 h4 => ⟨rfl, v', h1, h2, h3, h4⟩
  have HSL := Lib.hid (fun (v' : Value) => show (cs.setIfInBounds 7 v')[7]? = some v' by rw [Array.getElem?_setIfInBounds_self_of_lt (by omega)])
  have hus := Tryz.underlying9
  generalize SayPost w cb cs B v.ownBlock (l ++ L.flatten ++ [13, 10]) = Post at *
  have HSELF : Hid (cs.setIfInBounds 7 v = cs) := Lib.hid (by
    apply Array.ext_getElem?
    intro i
    by_cases hi : i = 7
    · subst hi; rw [HSL.out, hv]
    · rw [Array.getElem?_setIfInBounds_ne (by omega)])
  clear hb ho hr hne hgv hv hcs hvv
  go_enter Tryz.func129, Tryz.ntmps129
  go_wp2_with fail
  go_loopg [5, 8] L.length (fun k s5 i wr => ∃ j : Nat, i = .int .i64 (j : Int) ∧ j + k = L.length ∧ Hid (∃ vj, Blk wr cb 72 (cs.setIfInBounds 7 vj) ∧ OwnB wr B 5 vj (l ++ (L.take j).flatten) ∧ NewOr w.heap.size v.ownBlock vj) ∧ Hid (Safe (Stay w.heap.size cb v.ownBlock) w wr))
  case atStart => exact ⟨0, rfl, by omega, Lib.hid ⟨v, by rw [HSELF.out]; exact HB.out, by simpa using HO.out, .inl rfl⟩, Lib.hid (Safe.refl _ _)⟩
  case round =>
    obtain ⟨j, rfl, hj, HI, HS⟩ := hrel
    obtain ⟨vj, hbj, hoj, hnj⟩ := HI.out
    have HBJ := Lib.hid hbj
    have HOJ := Lib.hid hoj
    have HNJ := Lib.hid hnj
    have k7 : wr.cell? ⟨cb, 7, none⟩ = some vj := (hbj.cell 7).trans (HSL.out vj)
    have kf := hbj.frozen 7
    have hsz : B ≤ wr.heap.size := Nat.le_trans hB HS.out.size
    have hcl : cb < wr.heap.size := hbj.lt
    have HCJ : Hid (vj.ownBlock ≠ some cb) := Lib.hid (by
      rcases hnj with h | ⟨q, h, hq⟩
      · rw [h]; exact HNE.out
      · rw [h]
        intro e
        injection e with e
        have := HB.out.lt
        omega)
    have HSJ : Hid (∀ k, Stay w.heap.size cb v.ownBlock k → k < wr.heap.size ∧ vj.ownBlock ≠ some k) := Lib.hid fun k hk => by
      have h1 := HS.out.size
      refine ⟨Nat.lt_of_lt_of_le hk.1 h1, ?_⟩
      rcases hnj with h | ⟨q, h, hq⟩
      · rw [h]; exact hk.2.2
      · rw [h]
        intro e
        injection e with e
        have := hk.1
        omega
    have HSS : Hid (∀ (cs' : Array Value) (a b : Value), (cs'.setIfInBounds 7 a).setIfInBounds 7 b = cs'.setIfInBounds 7 b) := Lib.hid fun cs' a b => Array.setIfInBounds_setIfInBounds _
    clear HI hbj hoj hnj
    by_cases hlt : j < L.length
    · have hj1 : (j : Int) < (L.length : Int) := by omega
      obtain ⟨b, off, hA, hBb, hcell⟩ := HR.out.at_ (j := j) (by rw [List.length_map]; exact hlt)
      obtain ⟨rfl, rfl⟩ : g = b ∧ 0 = off := by injection hA with h; injection h with h1 h2; exact ⟨h1, h2⟩
      obtain ⟨x, hx⟩ : ∃ x, L[j]? = some x := ⟨_, List.getElem?_eq_getElem hlt⟩
      have cj0 := hcell j (by rw [List.length_map]; exact hlt)
      rw [st_map hx, Nat.zero_add] at cj0
      have cj : wr.cell? ⟨g, j, none⟩ = some (.string (bs x)) := by
        have hh := HS.out.block g ⟨hg, hgc, HGV.out⟩
        rw [← cj0]
        unfold World.cell?
        simp only [hh]
      have hxs : (bs x).size = x.length := bs_size x
      have hfl := flat_le L hx
      have HFX := Lib.hid (st_flat L hx)
      have hbytes : (l ++ (L.take j).flatten).length + (bs x).size ≤ 140737488355328 := by rw [List.length_append, hxs]; omega
      clear hcell hA cj0 hxs hfl
      go_wp2_with (at_builtin; refine wpList_appT u8c hus _ _ rfl rfl B rfl HOJ.out (bs x) rfl hbytes hsz ?_)
      intro v6 w6 ho6 hg6 hn6
      obtain ⟨A6, m6, c6, rfl⟩ := ho6.sl
      have hb6 := HBJ.out.grown hg6 HCJ.out.symm
      have k76 := (hb6.cell 7).trans (HSL.out vj)
      have kf6 := hb6.frozen 7
      have HB6 := Lib.hid hb6
      have HO6 := Lib.hid ho6
      have HG6 := Lib.hid hg6
      have HN6 := Lib.hid hn6
      clear hb6 ho6 hg6 hn6
      go_wp2_with fail
      have hz6 := HG6.out.size
      have HV6 : Hid ((Value.slice A6 m6 c6).ownBlock ≠ some cb) := Lib.hid (by
        rcases HN6.out with h | h
        · rw [h]; exact HCJ.out
        · rw [h]; intro e; injection e with e; omega)
      have HNO6 : Hid (NewOr w.heap.size v.ownBlock (Value.slice A6 m6 c6)) := Lib.hid (by
        rcases HN6.out with h | h
        · rcases HNJ.out with h2 | ⟨q, h2, hq⟩
          · exact .inl (h.trans h2)
          · exact .inr ⟨q, h.trans h2, hq⟩
        · exact .inr ⟨_, h, HS.out.size⟩)
      have HBE := Lib.hid (by have h := HB6.out.set_ 7 (Value.slice A6 m6 c6); rw [HSS.out] at h; exact h)
      have HOE := Lib.hid (HO6.out.only ((Only.refl (g := cb) w6).set_ 7 (Value.slice A6 m6 c6)) HV6.out)
      have HSE := Lib.hid ((HS.out.grown HG6.out HSJ.out).set_ (p := ⟨cb, 7, none⟩) (fun h => h.2.1 rfl) (Value.slice A6 m6 c6))
      rw [bs_list, ← HFX.out] at HOE
      go_roundg (gk - 1)
      case rel => exact ⟨j + 1, by go_num, by omega, Lib.hid ⟨Value.slice A6 m6 c6, HBE.out, HOE.out, HNO6.out⟩, HSE⟩
      case measure => omega
    · have hj1 : ¬ (j : Int) < (L.length : Int) := by omega
      obtain rfl : j = L.length := by omega
      rw [List.take_of_length_le (Nat.le_refl _)] at HOJ
      clear hlt
      have hbytes : (l ++ L.flatten).length + (⟨#[13, 10]⟩ : ByteArray).size ≤ 140737488355328 := by rw [List.length_append]; show l.length + L.flatten.length + 2 ≤ _; omega
      go_wp2_with (at_builtin; refine wpList_appT u8c hus _ _ rfl rfl B rfl HOJ.out ⟨#[13, 10]⟩ rfl hbytes hsz ?_)
      intro v6 w6 ho6 hg6 hn6
      obtain ⟨A6, m6, c6, rfl⟩ := ho6.sl
      have hb6 := HBJ.out.grown hg6 HCJ.out.symm
      have k76 := (hb6.cell 7).trans (HSL.out vj)
      have kf6 := hb6.frozen 7
      have HB6 := Lib.hid hb6
      have HO6 := Lib.hid ho6
      have HG6 := Lib.hid hg6
      have HN6 := Lib.hid hn6
      clear hb6 ho6 hg6 hn6
      go_wp2_with fail
      have hz6 := HG6.out.size
      have HV6 : Hid ((Value.slice A6 m6 c6).ownBlock ≠ some cb) := Lib.hid (by
        rcases HN6.out with h | h
        · rw [h]; exact HCJ.out
        · rw [h]; intro e; injection e with e; omega)
      have HNO6 : Hid (NewOr w.heap.size v.ownBlock (Value.slice A6 m6 c6)) := Lib.hid (by
        rcases HN6.out with h | h
        · rcases HNJ.out with h2 | ⟨q, h2, hq⟩
          · exact .inl (h.trans h2)
          · exact .inr ⟨q, h.trans h2, hq⟩
        · exact .inr ⟨_, h, HS.out.size⟩)
      have HBE := Lib.hid (by have h := HB6.out.set_ 7 (Value.slice A6 m6 c6); rw [HSS.out] at h; exact h)
      have HOE := Lib.hid (HO6.out.only ((Only.refl (g := cb) w6).set_ 7 (Value.slice A6 m6 c6)) HV6.out)
      have HSE := Lib.hid ((HS.out.grown HG6.out HSJ.out).set_ (p := ⟨cb, 7, none⟩) (fun h => h.2.1 rfl) (Value.slice A6 m6 c6))
      refine bodyPost_end (v := .tuple #[]) (by simp [results, show (Tryz.f129).results = #[] from rfl]) rfl ?_
      exact PO.out _ (Value.slice A6 m6 c6) HBE.out (by rw [List.append_assoc]; exact HOE.out) HNO6.out HSE.out
end Go.Proofs.YtjnjnccfojfghaaGreatDoor
