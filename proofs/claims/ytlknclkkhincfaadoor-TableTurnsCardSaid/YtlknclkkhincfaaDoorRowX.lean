/-
  A slice of values, sz cells each, that begins anywhere in a block of its own, and append onto it; over any program. No condition but the sizes.
-/
import Derived.Test.YtlknclkkhincfaaDoorQue
namespace Go.Proofs.YtlknclkkhincfaaDoor
open Go.RowKit
set_option linter.unusedVariables false

/-- v holds the cells xs, sz for each element; if it has room for an element, its cells up to its capacity lie in block own and may be written -/
def OwnX (sz : Nat) (w : World) (own : Option Nat) (v : Value) (xs : List Value) : Prop :=
  ∃ A n c, v = .slice A n c ∧ xs.length = n * sz ∧ n ≤ c ∧ c ≤ maxLen ∧ ((c = 0 ∧ own = none) ∨ ∃ g off, own = some g ∧ A = some ⟨g, off, none⟩ ∧ g < w.heap.size ∧ (∀ i, i < xs.length → w.cell? ⟨g, off + i, none⟩ = xs[i]?) ∧ ∀ i, i < c * sz → (w.cell? ⟨g, off + i, none⟩).isSome = true ∧ w.frozen? ⟨g, off + i, none⟩ = false)
/-- t is a type of slices of E, E of sz cells -/
structure UX (P : Program) (t E : TypeId) (sz : Nat) : Prop where
  ht : P.underlying t = some (.slice E)
  hi : ∃ i z, P.info? E = some i ∧ i.zero = some z ∧ z.cells.size = sz ∧ i.size = sz ∧ i.bytes ≤ 128
  h0 : 0 < sz
section
variable {sz : Nat} {w w' : World} {own : Option Nat} {v : Value} {xs : List Value}
theorem OwnX.nil (w : World) (A : Option Addr) : OwnX sz w none (.slice A 0 0) [] := ⟨A, 0, 0, rfl, by simp, Nat.le_refl _, by simp [maxLen], .inl ⟨rfl, rfl⟩⟩
theorem OwnX.same (h : OwnX sz w own v xs) (hs : w.heap.size ≤ w'.heap.size) (hb : ∀ g, own = some g → w'.heap[g]? = w.heap[g]?) : OwnX sz w' own v xs := by
  obtain ⟨A, n, c, rfl, h0, h1, h2, h3⟩ := h
  refine ⟨A, n, c, rfl, h0, h1, h2, ?_⟩
  rcases h3 with h3 | ⟨g, off, rfl, rfl, hlt, hc, hf⟩
  · exact .inl h3
  · have e := hb g rfl
    refine .inr ⟨g, off, rfl, rfl, Nat.lt_of_lt_of_le hlt hs, fun i hi => ?_, fun i hi => ?_⟩
    · rw [← hc i hi]; exact World.cell?_of_block e
    · rw [World.cell?_of_block (w := w) e, World.frozen?_of_block (w := w) e]; exact hf i hi
theorem OwnX.below (h : OwnX sz w own v xs) (hb : Below w.heap.size w w') (ho : ∀ g, own = some g → g < w.heap.size) : OwnX sz w' own v xs :=
  h.same hb.size fun g hg => hb.block g (ho g hg)
theorem OwnX.lt (h : OwnX sz w own v xs) {g : Nat} (hg : own = some g) : g < w.heap.size := by
  obtain ⟨A, n, c, rfl, h0, h1, h2, h3⟩ := h
  rcases h3 with ⟨_, h3⟩ | ⟨g', off, h3, rfl, hlt, hc, hf⟩
  · rw [h3] at hg; cases hg
  · rw [h3] at hg; cases hg; exact hlt
theorem OwnX.form {A : Option Addr} {n c : Nat} (h : OwnX sz w own (.slice A n c) xs) : xs.length = n * sz ∧ n ≤ c ∧ c ≤ maxLen := by
  obtain ⟨A', n', c', e, h0, h1, h2, h3⟩ := h
  injection e with e1 e2 e3
  subst e1 e2 e3
  exact ⟨h0, h1, h2⟩
theorem OwnX.sl (h : OwnX sz w own v xs) : ∃ A n c, v = .slice A n c ∧ xs.length = n * sz ∧ n ≤ c ∧ c ≤ maxLen := by
  obtain ⟨A, n, c, e, h0, h1, h2, h3⟩ := h
  exact ⟨A, n, c, e, h0, h1, h2⟩
/-- where its cells lie -/
theorem OwnX.at_ {A : Option Addr} {n c : Nat} (h : OwnX sz w own (.slice A n c) xs) (hc : 0 < c) : ∃ g off, own = some g ∧ A = some ⟨g, off, none⟩ ∧ g < w.heap.size ∧ (∀ i, i < xs.length → w.cell? ⟨g, off + i, none⟩ = xs[i]?) ∧ ∀ i, i < c * sz → (w.cell? ⟨g, off + i, none⟩).isSome = true ∧ w.frozen? ⟨g, off + i, none⟩ = false := by
  obtain ⟨A', n', c', e, h0, h1, h2, h3⟩ := h
  injection e with e1 e2 e3
  subst e1 e2 e3
  rcases h3 with ⟨h3, _⟩ | h3
  · omega
  · exact h3
/-- what is left of it behind some elements -/
theorem OwnX.tail {A : Option Addr} {n c : Nat} (h : OwnX sz w own (.slice A n c) xs) (k : Nat) (hk : k ≤ n) :
    ∃ own', (own' = own ∨ own' = none) ∧ OwnX sz w own' (.slice (if c = k then A else A.map fun a => a.add (k * sz)) (n - k) (c - k)) (xs.drop (k * sz)) := by
  obtain ⟨A', n', c', e, h0, h1, h2, h3⟩ := h
  injection e with e1 e2 e3
  subst e1; subst e2; subst e3
  have hl : (xs.drop (k * sz)).length = (n - k) * sz := by rw [List.length_drop, h0, Nat.sub_mul]
  by_cases hck : c = k
  · refine ⟨none, .inr rfl, A, n - k, 0, ?_, hl, by omega, by simp [maxLen], .inl ⟨rfl, rfl⟩⟩
    rw [if_pos hck, hck, Nat.sub_self]
  · rcases h3 with ⟨h3, h4⟩ | ⟨g, off, h3, rfl, hlt, hc, hf⟩
    · omega
    · refine ⟨own, .inl rfl, some ⟨g, off + k * sz, none⟩, n - k, c - k, ?_, hl, by omega, by omega, .inr ⟨g, off + k * sz, h3, rfl, hlt, fun i hi => ?_, fun i hi => ?_⟩⟩
      · rw [if_neg hck]
        simp [Addr.add_lit]
      · rw [List.length_drop] at hi
        rw [Nat.add_assoc, hc (k * sz + i) (by omega), List.getElem?_drop]
      · rw [Nat.sub_mul] at hi
        rw [Nat.add_assoc]; exact hf (k * sz + i) (by omega)
/-- a store into one of its cells -/
theorem OwnX.set_ {g off n c : Nat} (h : OwnX sz w own (.slice (some ⟨g, off, none⟩) n c) xs) (hc : 0 < c) (i : Nat) (hi : i < xs.length) (u : Value) : OwnX sz (w.setCell ⟨g, off + i, none⟩ u) own (.slice (some ⟨g, off, none⟩) n c) (xs.set i u) := by
  obtain ⟨h0, h1, h2⟩ := h.form
  obtain ⟨g', off', ho, e, hlt, hcl, hf⟩ := h.at_ hc
  injection e with e
  injection e with e1 e2
  subst e1 e2
  refine ⟨_, n, c, rfl, by rw [List.length_set]; exact h0, h1, h2, .inr ⟨g, off, ho, rfl, by simpa using hlt, fun j hj => ?_, fun j hj => ⟨?_, ?_⟩⟩⟩
  · rw [List.length_set] at hj
    by_cases e : i = j
    · subst e
      obtain ⟨v0, hv0⟩ := Option.isSome_iff_exists.1 (hf i (Nat.lt_of_lt_of_le hi (by rw [h0]; exact Nat.mul_le_mul_right _ h1))).1
      rw [World.cell?_setCell_same' _ _ _ (by rw [hv0]; rfl), List.getElem?_set_self hi]
    · rw [World.cell?_setCell_other _ _ _ _ (by intro e2; injection e2 with e3 e4; omega), hcl j hj, List.getElem?_set_ne e]
  · obtain ⟨v0, hv0⟩ := Option.isSome_iff_exists.1 (hf j hj).1
    obtain ⟨v1, hv1⟩ := cell?_setCell_some (p := ⟨g, off + i, none⟩) (x := u) hv0
    rw [hv1]; rfl
  · rw [World.frozen?_setCell]; exact (hf j hj).2
end
section
variable {P : Program} (w : World)
theorem OwnX.newRow {sz E : Nat} (xs : List Value) (n c : Nat) (z : Array Value) (hn : xs.length = n * sz) (hz : z.size = (c - n) * sz) (hl : n ≤ c) (hm : c ≤ maxLen) (cs : Array Value) (hcs : cs = xs.toArray ++ z) :
    OwnX sz (w.alloc (.cells cs E)) (some w.heap.size) (.slice (some ⟨w.heap.size, 0, none⟩) n c) xs := by
  subst hcs
  have hB := Blk.new w E (xs.toArray ++ z)
  refine ⟨_, n, c, rfl, hn, hl, hm, .inr ⟨w.heap.size, 0, rfl, rfl, by simp, fun i hi => ?_, fun i hi => ?_⟩⟩
  · rw [Nat.zero_add, hB.cell i, Array.getElem?_append_left (by simpa using hi)]
    simp
  · rw [Nat.zero_add, hB.cell i]
    refine ⟨?_, hB.frozen i⟩
    rw [Nat.sub_mul] at hz
    have h2 : n * sz ≤ c * sz := Nat.mul_le_mul_right _ hl
    rw [Array.getElem?_eq_getElem (by simp; omega)]
    rfl
theorem run_appX {t E : TypeId} {sz : Nat} (hU : UX P t E sz) (ty : TypeId) {own : Option Nat} {v : Value} {xs : List Value} (hown : OwnX sz w own v xs) (A : Option Addr) (m c : Nat) (news : List Value) (hl : news.length = m * sz)
    (hA : A = none → m = 0) (hnews : ∀ ad, A = some ad → ∀ j u, news[j]? = some u → w.cell? (ad.add j) = some u) (h1 : ∀ u ∈ news, u.oneCell' = true) (hbytes : xs.length + m * sz ≤ 1000000000000) :
    ∃ v' own' w', (Builtin.append_ #[t, t] ty #[v, .slice A m c]).run P w = .ok v' w' ∧ OwnX sz w' own' v' (xs ++ news) ∧ w.grownBy w' own ∧ (own' = own ∨ own' = some w.heap.size) := by
  obtain ⟨i, z, hi, hz, hzs, hs, hb⟩ := hU.hi
  have hp := hU.h0
  obtain ⟨Av, n, cv, rfl, hx, hle, hmx, hq⟩ := hown
  rcases Nat.eq_zero_or_pos m with h0 | h0
  · subst h0
    obtain rfl : news = [] := List.eq_nil_of_length_eq_zero (by rw [hl, Nat.zero_mul])
    refine ⟨.slice Av n cv, own, w, ?_, by rw [List.append_nil]; exact ⟨Av, n, cv, rfl, hx, hle, hmx, hq⟩, World.grownBy.refl w _, .inl rfl⟩
    rcases A with _ | ad
    · cases Av <;> simp [Builtin.append_, run_underlying hU.ht, sizeOf, typeInfo, hi, Builtin.lenOf, Builtin.firstCells, hle, storeCells]
    · have hl := run_loadCells_list (P := P) w ad [] (fun j v hj => by simp at hj)
      simp at hl
      cases Av <;> simp [Builtin.append_, run_underlying hU.ht, sizeOf, typeInfo, hi, Builtin.lenOf, Builtin.firstCells, hle, storeCells, hl]
  · obtain ⟨ad, rfl⟩ : ∃ ad, A = some ad := by
      rcases A with _ | ad
      · have := hA rfl; omega
      · exact ⟨ad, rfl⟩
    have hcn := hnews ad rfl
    have hnm : n + m ≤ 1000000000000 := by
      have : (n + m) * 1 ≤ (n + m) * sz := Nat.mul_le_mul_left _ hp
      rw [Nat.add_mul n m sz] at this
      omega
    have hbb : (n + m) * i.bytes ≤ 140737488355328 := Nat.le_trans (Nat.mul_le_mul hnm hb) (by decide)
    have hgf : cv < n + m → Builtin.nextslicecap (n + m) cv * i.bytes ≤ 281474976710656 := fun hg => growslice_fits hg hbb
    have hml : n + m ≤ maxLen := by simp only [maxLen]; omega
    have hmi : ((n + m : Nat) : Int) ≤ 9223372036854775807 := by omega
    have hxl : (xs ++ news).length = (n + m) * sz := by rw [List.length_append, hx, hl, Nat.add_mul]
    by_cases hroom : n + m ≤ cv
    · rcases hq with ⟨hq, _⟩ | ⟨g, o, rfl, rfl, hlt, hcl, hf⟩
      · omega
      · have hmul : (n + m) * sz ≤ cv * sz := Nat.mul_le_mul_right _ hroom
        rw [Nat.add_mul] at hmul
        have hfit : ∀ j, j < news.length → o + n * i.size + j = o + (xs.length + j) := fun j _ => by rw [hs, hx]; omega
        have hrun := run_append_room_cells (P := P) w t ty E i hU.ht hi g o n cv ad m c news (by rw [hl, hs]) hcn h1 hroom
          (fun j hj => by rw [hfit j hj]; exact (hf (xs.length + j) (by omega)).1)
          (fun j hj => by rw [hfit j hj]; exact (hf (xs.length + j) (by omega)).2)
        have hkb := keptBlk_setCells g news (o + n * i.size) w
        have hso : o + n * i.size = o + xs.length := by rw [hs, hx]
        have ein : ∀ j, (hj : j < news.length) → (w.setCells g (o + n * i.size) news).cell? ⟨g, o + n * i.size + j, none⟩ = news[j]? := fun j hj => by
          rw [World.cell?_setCells_in g news (o + n * i.size) w (fun j hj => by rw [hfit j hj]; exact (hf (xs.length + j) (by omega)).1) j hj]
          simp [hj]
        have eout : ∀ x, x < xs.length ∨ xs.length + news.length ≤ x → (w.setCells g (o + n * i.size) news).cell? ⟨g, o + x, none⟩ = w.cell? ⟨g, o + x, none⟩ := fun x hx2 =>
          World.cell?_setCells_out g news (o + n * i.size) w ⟨g, o + x, none⟩ (fun _ _ => by show o + x < _ ∨ _ ≤ o + x; omega)
        refine ⟨_, some g, _, hrun, ⟨_, n + m, cv, rfl, hxl, hroom, hmx, .inr ⟨g, o, rfl, rfl, Nat.lt_of_lt_of_le hlt hkb.size, fun x hx2 => ?_, fun x hx2 => ⟨?_, ?_⟩⟩⟩, hkb, .inl rfl⟩
        · rw [List.length_append] at hx2
          rcases Nat.lt_or_ge x xs.length with hxl2 | hxl2
          · rw [eout x (.inl hxl2), hcl x hxl2, List.getElem?_append_left hxl2]
          · have := ein (x - xs.length) (by omega)
            rw [show o + n * i.size + (x - xs.length) = o + x by omega] at this
            rw [this, List.getElem?_append_right hxl2]
        · by_cases hx3 : x < xs.length ∨ xs.length + news.length ≤ x
          · rw [eout x hx3]; exact (hf x hx2).1
          · have := ein (x - xs.length) (by omega)
            rw [show o + n * i.size + (x - xs.length) = o + x by omega] at this
            rw [this, List.getElem?_eq_getElem (by omega)]; rfl
        · rw [World.frozen?_setCells]; exact (hf x hx2).2
    · rcases Av with _ | av
      · have hcv : cv = 0 ∧ own = none := by
          rcases hq with hq | ⟨g, o, _, hA2, _⟩
          · exact hq
          · cases hA2
        obtain ⟨rfl, rfl⟩ := hcv
        obtain rfl : n = 0 := by omega
        obtain rfl : xs = [] := List.eq_nil_of_length_eq_zero (by rw [hx, Nat.zero_mul])
        have hrun := run_append_nil (P := P) w t ty E i z hU.ht hi hz ad m c news (by rw [hl, hs]) hcn h0 (by simpa using hmi) (by rw [Nat.zero_add] at hbb; omega)
        refine ⟨_, some w.heap.size, _, hrun, ?_, ⟨rfl, rfl, rfl, by simp, fun x hx _ => Below.heap_alloc w.drew _ x hx⟩, .inr rfl⟩
        exact OwnX.newRow w.drew news m (grownCap w m 0 E) _ hl (by rw [size_zeroCells, hzs]) (grownCap_ge w _ _ _) (grownCap_le_maxLen w _ _ _ (by simpa using hml)) _ rfl
      · have hrun := run_append_grow (P := P) w t ty E i z hU.ht hi hz av n cv xs (by rw [hx, hs])
          (fun j u hu => by
            have hj : j < xs.length := (List.getElem?_eq_some_iff.1 hu).1
            rcases hq with ⟨hq, _⟩ | ⟨g, o, _, hA2, _, hcl, _⟩
            · have : xs.length = 0 := by rw [hx]; obtain rfl : n = 0 := by omega
                                         exact Nat.zero_mul _
              omega
            · cases hA2; rw [Addr.add_lit, hcl j hj]; exact hu)
          ad m c news (by rw [hl, hs]) hcn (by omega) hmi (hgf (by omega))
        refine ⟨_, some w.heap.size, _, hrun, ?_, ⟨rfl, rfl, rfl, by simp, fun x hx _ => Below.heap_alloc w.drew _ x hx⟩, .inr rfl⟩
        exact OwnX.newRow (E := E) w.drew (xs ++ news) (n + m) (grownCap w (n + m) cv E) (Builtin.zeroCells z.cells (grownCap w (n + m) cv E - (n + m))) hxl
          (by rw [size_zeroCells, hzs]) (grownCap_ge w _ _ _) (grownCap_le_maxLen w _ _ _ hml) _ (by rw [← List.append_toArray])
theorem wpList_appX {ops : Array Oper} {rest : List Oper} {o : Oper} {a : Act} {Q : Exit → Act → World → Prop} {t E : TypeId} {sz : Nat} (hU : UX P t E sz) (s x : Operand)
    (ho : o.op = .call { callee := .builtin .append, args := #[s, x], argTypes := #[t, t] }) (hgd : o.guard = none)
    {own : Option Nat} {v : Value} {xs : List Value} (hs : a.eval s = v) (hown : OwnX sz w own v xs) (A : Option Addr) (m c : Nat) (hx : a.eval x = .slice A m c) (news : List Value) (hl : news.length = m * sz)
    (hA : A = none → m = 0) (hnews : ∀ ad, A = some ad → ∀ j u, news[j]? = some u → w.cell? (ad.add j) = some u) (h1 : ∀ u ∈ news, u.oneCell' = true) (hbytes : xs.length + m * sz ≤ 1000000000000)
    (h : ∀ v' own' w', OwnX sz w' own' v' (xs ++ news) → w.grownBy w' own → (own' = own ∨ own' = some w.heap.size) → wpList P ops Q rest (a.put o.dst v') w') : wpList P ops Q (o :: rest) a w := by
  refine wpList_plain hgd fun K hK => ?_
  obtain ⟨v', own', w', hrun, h2, h3, h4⟩ := run_appX (P := P) w hU o.type hown A m c news hl hA hnews h1 hbytes
  unfold Oper.wp execOp
  simp only [ho, resolve, invoke, builtin, Sem.run_bind, Sem.run_pure, Result.andThen_ok, List.map_toArray, List.map_cons, List.map_nil, hs, hx, hrun]
  exact hK _ _ (h v' own' w' h2 h3 h4)
/-- at a step of a region that draws its order -/
theorem step_appX {ops : Array Oper} {o : Oper} {a : Act} {K : Act → World → Prop} {Q : Exit → Act → World → Prop} {E' : Prop} (hgd : o.guard = none) {t E : TypeId} {sz : Nat} (hU : UX P t E sz) (s x : Operand)
    (ho : o.op = .call { callee := .builtin .append, args := #[s, x], argTypes := #[t, t] })
    {own : Option Nat} {v : Value} {xs : List Value} (hs : a.eval s = v) (hown : OwnX sz w own v xs) (A : Option Addr) (m c : Nat) (hx : a.eval x = .slice A m c) (news : List Value) (hl : news.length = m * sz)
    (hA : A = none → m = 0) (hnews : ∀ ad, A = some ad → ∀ j u, news[j]? = some u → w.cell? (ad.add j) = some u) (h1 : ∀ u ∈ news, u.oneCell' = true) (hbytes : xs.length + m * sz ≤ 1000000000000)
    (h : ∀ v' own' w', OwnX sz w' own' v' (xs ++ news) → w.grownBy w' own → (own' = own ∨ own' = some w.heap.size) → K (a.put o.dst v') w') :
    if Region.wanted o (yielded ops a.tmps) = true then Oper.wp P o a w K Q else E' := by
  have hw : Region.wanted o (yielded ops a.tmps) = true := by simp [Region.wanted, hgd]
  rw [if_pos hw]
  obtain ⟨v', own', w', hrun, h2, h3, h4⟩ := run_appX (P := P) w hU o.type hown A m c news hl hA hnews h1 hbytes
  unfold Oper.wp execOp
  simp only [ho, resolve, invoke, builtin, Sem.run_bind, Sem.run_pure, Result.andThen_ok, List.map_toArray, List.map_cons, List.map_nil, hs, hx, hrun]
  exact h v' own' w' h2 h3 h4
end
end Go.Proofs.YtlknclkkhincfaaDoor
