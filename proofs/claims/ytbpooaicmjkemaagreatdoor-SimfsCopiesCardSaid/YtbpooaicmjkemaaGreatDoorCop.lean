/-
  Several texts in one (merge.py): PMap, SfCl, SfCp0, SfCp, SfRCp, SfCps. Conditions: each part names its own.
-/
import Derived.Test.YtbpooaicmjkemaaGreatDoorLibAll
import Derived.LaidEqlPtr
import Derived.MapKept
import Derived.Test.YtbpooaicmjkemaaGreatDoorSfCrt
import Derived.Lib.SliceRun
import Derived.Lib.LazyBuf
import Derived.BigRegion
import Derived.Deep.CutBlock
import Derived.Deep.DeepCutAuto
import Derived.Deep.RegionHeld3
import Derived.Test.YtbpooaicmjkemaaGreatDoorRun21
/-! A map whose keys and elements are pointers to whole blocks: making it, a new key, looking one up; over any program. No condition. -/
namespace Go.Proofs.YtbpooaicmjkemaaGreatDoor
open Go.RowKit
set_option linter.unusedVariables false
def ptrTo (b : Nat) : Value := .pointer (some ⟨b, 0, none⟩)
/-- k's are pointers to blocks of te; t is map[k]k -/
structure PMT (P : Program) (t k te : TypeId) : Prop where
  ht : P.underlying t = some (.map k k)
  hk : P.underlying k = some (.pointer te)
  hte : ∃ j, P.info? te = some j ∧ j.size ≠ 0
  hz : ∀ w, (zeroValue k).run P w = .ok (.pointer none) w
/-- the map in block b has the keys K, in this order, with the elements V -/
structure PMap (w : World) (b : Nat) (K V : List Nat) : Prop where
  ex : ∃ es clock, w.heap[b]? = some (.map es clock) ∧ es.toList.map (fun e => (e.key, e.val)) = (K.zip V).map fun x => (ptrTo x.1, ptrTo x.2)
  len : K.length = V.length
  nd : K.Nodup
/-- a block of cells stands there -/
def CellsAt (w : World) (b : Nat) : Prop := ∃ cs t, w.heap[b]? = some (.cells cs t (0, 0))
theorem Blk.cellsAt {w : World} {g : Nat} {t : TypeId} {cs : Array Value} (h : Blk w g t cs) : CellsAt w g := ⟨cs, t, h⟩
section
variable {P : Program} {t k te : TypeId} {w w' : World} {b : Nat} {K V : List Nat}
theorem PMap.same (h : PMap w b K V) (he : w'.heap[b]? = w.heap[b]?) : PMap w' b K V := by
  obtain ⟨⟨es, c, h1, h2⟩, h3, h4⟩ := h
  exact ⟨⟨es, c, he.trans h1, h2⟩, h3, h4⟩
theorem PMap.lt (h : PMap w b K V) : b < w.heap.size := by
  obtain ⟨⟨es, c, h1, -⟩, -⟩ := h
  exact (Array.getElem?_eq_some_iff.1 h1).1
theorem PMap.made (w : World) : PMap (w.alloc (.map #[] 0)) w.heap.size [] [] :=
  ⟨⟨#[], 0, heap_alloc_new w _, rfl⟩, rfl, List.nodup_nil⟩
theorem ptr_eq_same (hM : PMT P t k te) (w : World) (a : Nat) : (Op.equal k (ptrTo a) (ptrTo a)).run P w = .ok true w := by
  obtain ⟨j, hj, -⟩ := hM.hte
  have h : ∀ d : Nat, (Op.equalIn (d + 1) k (ptrTo a) (ptrTo a)).run P w = .ok true w := fun d => by
    simp [ptrTo, Op.equalIn, run_underlying hM.hk, sizeOf, typeInfo, hj, run_sameAddr_same]
  simp [Op.equal, Op.maxDepth, h 9999]
theorem ptr_eq_other (hM : PMT P t k te) {a c : Nat} (hne : a ≠ c) (ha : CellsAt w a) (hc : CellsAt w c) : (Op.equal k (ptrTo a) (ptrTo c)).run P w = .ok false w := by
  obtain ⟨j, hj, hs⟩ := hM.hte
  obtain ⟨ca, ta, ha⟩ := ha
  obtain ⟨cc, tc, hc⟩ := hc
  have hne2 : (⟨a, 0, none⟩ : Addr) ≠ ⟨c, 0, none⟩ := fun e => hne (by injection e)
  have h : ∀ d : Nat, (Op.equalIn (d + 1) k (ptrTo a) (ptrTo c)).run P w = .ok false w := fun d => by
    simp [ptrTo, Op.equalIn, run_underlying hM.hk, sizeOf, typeInfo, hj, hs, run_sameAddr_other w hne2 ha hc]
  simp [Op.equal, Op.maxDepth, h 9999]
theorem nil_eq (hM : PMT P t k te) (w : World) (c : Nat) : (Op.equal k (.pointer none) (ptrTo c)).run P w = .ok false w := by
  have h : ∀ d : Nat, (Op.equalIn (d + 1) k (.pointer none) (ptrTo c)).run P w = .ok false w := fun d => by
    simp [ptrTo, Op.equalIn, run_underlying hM.hk]
  simp [Op.equal, Op.maxDepth, h 9999]
theorem ask_none {x : Value} : ∀ (es : List MapEntry) (i : Nat), (∀ e ∈ es, (Op.equal k x e.key).run P w = .ok false w) → (Instr.findAsking k x es i).run P w = .ok none w
  | [], _, _ => by simp [Instr.findAsking]
  | e :: r, i, h => by
    have h1 := h e List.mem_cons_self
    have h2 := ask_none r (i + 1) fun y hy => h y (List.mem_cons_of_mem _ hy)
    simp [Instr.findAsking, h1, h2, Result.andThen]
theorem ask_some {x : Value} : ∀ (es : List MapEntry) (i j : Nat) (e : MapEntry), es[j]? = some e → (Op.equal k x e.key).run P w = .ok true w → (∀ n y, n < j → es[n]? = some y → (Op.equal k x y.key).run P w = .ok false w) → (Instr.findAsking k x es i).run P w = .ok (some (i + j, e.val)) w
  | [], _, _, _, h, _, _ => by simp at h
  | y :: r, i, 0, e, h, h1, _ => by
    obtain rfl : y = e := by simpa using h
    simp [Instr.findAsking, h1, Result.andThen]
  | y :: r, i, j + 1, e, h, h1, h2 => by
    have h3 := h2 0 y (by omega) rfl
    have h4 := ask_some r (i + 1) j e (by simpa using h) h1 fun n z hn hz => h2 (n + 1) z (by omega) (by simpa using hz)
    simp [Instr.findAsking, h3, h4, Result.andThen]
    omega
theorem find_none (hM : PMT P t k te) {A : Option Addr} (es : List MapEntry) (h : ∀ e ∈ es, (Op.equal k (.pointer A) e.key).run P w = .ok false w) : (Instr.findKey k (.pointer A) es).run P w = .ok none w := by
  have h1 := ask_none es 0 h
  cases es with
  | nil => simp [Instr.findKey, run_underlying hM.hk, Instr.findNow, Result.andThen]
  | cons e r => simp [Instr.findKey, run_underlying hM.hk, Instr.findNow, Instr.sameNow, Result.andThen, h1]
theorem find_some (hM : PMT P t k te) {A : Option Addr} (es : List MapEntry) (j : Nat) (e : MapEntry) (he : es[j]? = some e) (h1 : (Op.equal k (.pointer A) e.key).run P w = .ok true w) (h2 : ∀ n y, n < j → es[n]? = some y → (Op.equal k (.pointer A) y.key).run P w = .ok false w) :
    (Instr.findKey k (.pointer A) es).run P w = .ok (some (j, e.val)) w := by
  have h3 := ask_some es 0 j e he h1 h2
  cases es with
  | nil => simp at he
  | cons y r =>
    rw [Nat.zero_add] at h3
    simp [Instr.findKey, run_underlying hM.hk, Instr.findNow, Instr.sameNow, Result.andThen, h3]
theorem check_ptr (hM : PMT P t k te) (A : Option Addr) (em : Bool) : (Instr.checkKey em 10000 k (.pointer A)).run P w = .ok () w := by
  unfold Instr.checkKey
  simp [run_underlying hM.hk, Result.andThen]
theorem key_at {es : List MapEntry} (h : es.map (fun e => (e.key, e.val)) = (K.zip V).map fun x => (ptrTo x.1, ptrTo x.2)) {j : Nat} {e : MapEntry} (he : es[j]? = some e) : ∃ a v, K[j]? = some a ∧ V[j]? = some v ∧ e.key = ptrTo a ∧ e.val = ptrTo v := by
  have h1 : (es.map fun e => (e.key, e.val))[j]? = some (e.key, e.val) := by rw [List.getElem?_map, he]; rfl
  rw [h, List.getElem?_map] at h1
  cases hz : (K.zip V)[j]? with
  | none => rw [hz] at h1; cases h1
  | some x =>
    rw [hz] at h1
    obtain ⟨ha, hv⟩ := List.getElem?_zip_eq_some.1 hz
    simp only [Option.map_some, Option.some.injEq, Prod.mk.injEq] at h1
    exact ⟨x.1, x.2, ha, hv, h1.1.symm, h1.2.symm⟩
/-- a new key -/
theorem PMap.update (hM : PMT P t k te) (h : PMap w b K V) (hc : ∀ x ∈ K, CellsAt w x) {a v : Nat} (ha : CellsAt w a) (hn : a ∉ K) :
    ∃ w', (Instr.mapUpdate t (.map (some b)) (ptrTo a) (ptrTo v)).run P w = .ok () w' ∧ PMap w' b (K ++ [a]) (V ++ [v]) ∧ w.grownBy w' (some b) ∧ w'.heap.size = w.heap.size := by
  obtain ⟨⟨es, c, h1, h2⟩, h3, h4⟩ := h
  have hf : (Instr.findKey k (ptrTo a) es.toList).run P w = .ok none w := by
    refine find_none hM es.toList fun e he => ?_
    obtain ⟨j, hj⟩ := List.mem_iff_getElem?.1 he
    obtain ⟨x, y, hx, -, e1, -⟩ := key_at h2 hj
    have hxm := List.mem_of_getElem? hx
    rw [e1]
    exact ptr_eq_other hM (fun e => hn (by rw [e]; exact hxm)) ha (hc _ hxm)
  have hck : (Instr.checkKey false 10000 k (ptrTo a)).run P w = .ok () w := check_ptr hM _ _
  obtain ⟨s1, s2⟩ := MapKept.heap_set (o' := .map (es.push ⟨ptrTo a, ptrTo v, c⟩) (c + 1)) h1
  refine ⟨{ w with heap := w.heap.setIfInBounds b (.map (es.push ⟨ptrTo a, ptrTo v, c⟩) (c + 1)) }, ?_, ⟨⟨_, _, s1, ?_⟩, by simp [h3], ?_⟩, ⟨rfl, rfl, rfl, by simp, fun i hi hne => s2 i fun e => hne (by rw [e])⟩, by simp⟩
  · simp [Instr.mapUpdate, run_underlying hM.ht, MapKept.run_getObj_map h1, hck, hf, MapKept.run_setObj_map _ h1, Result.andThen]
  · rw [Array.toList_push, List.map_append, h2, List.zip_append h3, List.map_append]
    rfl
  · exact List.nodup_append.2 ⟨h4, by simp, fun x hx y hy e => hn (by rw [List.mem_singleton] at hy; rw [← hy, ← e]; exact hx)⟩
theorem PMap.look (hM : PMT P t k te) (h : PMap w b K V) (hc : ∀ x ∈ K, CellsAt w x) {i a v : Nat} (ha : K[i]? = some a) (hv : V[i]? = some v) :
    (Instr.lookup t (.map (some b)) (ptrTo a) false).run P w = .ok (ptrTo v) w := by
  obtain ⟨⟨es, c, h1, h2⟩, h3, h4⟩ := h
  have hl : es.toList.length = K.length := by
    have := congrArg List.length h2
    simpa [List.length_zip, h3] using this
  obtain ⟨hi, hai⟩ := List.getElem?_eq_some_iff.1 ha
  obtain ⟨e, he⟩ : ∃ e, es.toList[i]? = some e := ⟨_, List.getElem?_eq_getElem (by rw [hl]; exact hi)⟩
  obtain ⟨a', v', ha', hv', e1, e2⟩ := key_at h2 he
  rw [ha] at ha'
  obtain rfl := Option.some.inj ha'
  rw [hv] at hv'
  obtain rfl := Option.some.inj hv'
  have hm := List.mem_of_getElem? ha
  have hf : (Instr.findKey k (ptrTo a) es.toList).run P w = .ok (some (i, e.val)) w := by
    refine find_some hM es.toList i e he (by rw [e1]; exact ptr_eq_same hM w a) fun n y hn hy => ?_
    obtain ⟨x, u, hx, -, e3, -⟩ := key_at h2 hy
    rw [e3]
    refine ptr_eq_other hM (fun e => ?_) (hc _ hm) (hc _ (List.mem_of_getElem? hx))
    subst e
    obtain ⟨hn2, hx2⟩ := List.getElem?_eq_some_iff.1 hx
    have := (List.getElem_inj (h₀ := hn2) (h₁ := hi) h4).1 (by rw [hx2, hai])
    omega
  have hck : (Instr.checkKey es.isEmpty 10000 k (ptrTo a)).run P w = .ok () w := check_ptr hM _ _
  rw [e2] at hf
  simp [Instr.lookup, run_underlying hM.ht, MapKept.run_getObj_map h1, hck, hf, Result.andThen]
theorem PMap.lookNil (hM : PMT P t k te) (h : PMap w b K V) : (Instr.lookup t (.map (some b)) (.pointer none) false).run P w = .ok (.pointer none) w := by
  obtain ⟨⟨es, c, h1, h2⟩, h3, h4⟩ := h
  have hf : (Instr.findKey k (.pointer none) es.toList).run P w = .ok none w := by
    refine find_none hM es.toList fun e he => ?_
    obtain ⟨j, hj⟩ := List.mem_iff_getElem?.1 he
    obtain ⟨x, y, -, -, e1, -⟩ := key_at h2 hj
    rw [e1]
    exact nil_eq hM w x
  have hck : (Instr.checkKey es.isEmpty 10000 k (.pointer none)).run P w = .ok () w := check_ptr hM _ _
  simp [Instr.lookup, run_underlying hM.ht, MapKept.run_getObj_map h1, hck, hf, Result.andThen, hM.hz]
end
end Go.Proofs.YtbpooaicmjkemaaGreatDoor

/-! The walks of slices.Clone at waiting writes and at waiting changes; a map of pointers to files. Conditions: the lengths. -/
namespace Go.Proofs.YtbpooaicmjkemaaGreatDoor
open Go.RowKit Go.Maps
set_option linter.unusedVariables false
theorem pmF : PMT Tryz.prog 107 70 75 := by
  obtain ⟨i, h1, h2, h3, h4⟩ := info_parts (show (Tryz.prog.info? 75).map (fun i => (i.zero, i.size, i.bytes)) = some (some (.agg #[.slice none 0 0, .slice none 0 0, .slice none 0 0]), 3, 72) by kernel_rfl)
  exact ⟨Tryz.underlying107, Tryz.underlying70, ⟨i, h1, by omega⟩, zeroF⟩
theorem OwnX.news1 {sz : Nat} {w : World} {g : Option Nat} {A : Option Addr} {n c : Nat} {xs : List Value} (h : OwnX sz w g (.slice A n c) xs) : (A = none → n = 0) ∧ ∀ ad, A = some ad → ∀ j u, xs[j]? = some u → w.cell? (ad.add j) = some u := by
  obtain ⟨h1, h2, h3⟩ := h.form
  rcases Nat.eq_zero_or_pos c with h0 | h0
  · have hn : n = 0 := by omega
    rw [hn, Nat.zero_mul] at h1
    have hx := List.eq_nil_of_length_eq_zero h1
    subst hx
    exact ⟨fun _ => hn, fun ad _ j u hu => by simp at hu⟩
  · obtain ⟨b, off, -, rfl, hlt, hc, -⟩ := h.at_ h0
    refine ⟨(fun e => by cases e), fun ad e j u hu => ?_⟩
    obtain rfl := Option.some.inj e
    rw [Addr.add_lit, hc j (List.getElem?_eq_some_iff.1 hu).1, hu]
/-- a row that nobody has yet -/
def FromB (B : Nat) (g : Option Nat) : Prop := ∀ k, g = some k → B ≤ k
/-- a copy of a row, in a new block -/
def ClonePost (sz : Nat) (w : World) (xs : List Value) (e : Ending) (w' : World) : Prop :=
  Below w.heap.size w w' ∧ ∃ g v, e = .returned v ∧ OwnX sz w' g v xs ∧ FromB w.heap.size g
theorem wr_one (vs : List Value) (ws : List Wr) (h : ∀ v ∈ vs, v.oneCell' = true) : ∀ u ∈ (wrRow vs ws).flatten, u.oneCell' = true := fun u hu => by
  obtain ⟨r, hr, hu⟩ := List.mem_flatten.1 hu
  unfold wrRow at hr
  rw [List.mem_iff_getElem?] at hr
  obtain ⟨j, hj⟩ := hr
  rw [List.getElem?_zipWith] at hj
  split at hj
  · rename_i v x hv hx
    obtain rfl := Option.some.inj hj
    unfold wrC at hu
    simp only [List.mem_cons, List.not_mem_nil, or_false] at hu
    rcases hu with rfl | rfl
    · rfl
    · exact h _ (List.mem_of_getElem? hv)
  · cases hj
theorem WrsV.one {w : World} {own : Nat → Nat × Nat} {vs : List Value} {ws : List Wr} (h : WrsV w own vs ws) : ∀ v ∈ vs, v.oneCell' = true := fun v hv => by
  obtain ⟨j, hj⟩ := List.mem_iff_getElem?.1 hv
  have hjl := (List.getElem?_eq_some_iff.1 hj).1
  obtain ⟨x, hx⟩ : ∃ x, ws[j]? = some x := ⟨_, List.getElem?_eq_getElem (by rw [← h.1]; exact hjl)⟩
  obtain ⟨A, c, rfl, -⟩ := h.2 j v x hj hx
  rfl
theorem ch_one (bl : List Nat) (cs : List Ch) : ∀ u ∈ (cs.map (chC bl)).flatten, u.oneCell' = true := fun u hu => by
  obtain ⟨r, hr, hu⟩ := List.mem_flatten.1 hu
  obtain ⟨c, -, rfl⟩ := List.mem_map.1 hr
  unfold chC chP at hu
  simp only [List.mem_cons, List.not_mem_nil, or_false] at hu
  rcases hu with rfl | rfl | rfl | rfl
  · rfl
  · rfl
  · rfl
  · split <;> rfl
set_option maxRecDepth 100000 in
theorem wclone_walk (w : World) (A : Option Addr) (n c : Nat) (g : Option Nat) (xs : List Value) (h : OwnX 2 w g (.slice A n c) xs) (h1 : ∀ u ∈ xs, u.oneCell' = true) (hl : xs.length ≤ 1000000) :
    Calls Tryz.prog 74 #[.slice A n c] w (ClonePost 2 w xs) := by
  obtain ⟨e1, e2, e3⟩ := h.form
  have q22 : ∀ (w : World) (a : Option Addr) (n c n' c' : Nat), (binOp .eql 73 (.slice a n c) (.slice none n' c')).run Tryz.prog w = .ok (.bool a.isNone) w := fun w a n c n' c' => Lib.run_eql_slice_nil w _ _ a n c n' c' Tryz.underlying73
  cases A with
  | none =>
    have hn := h.news1.1 rfl
    have hL : xs = [] := List.eq_nil_of_length_eq_zero (by omega)
    subst hL
    clear h e1 hl h1
    go_enter Tryz.func74, Tryz.ntmps74
    go_wp2_with fail
    go_ret
    exact ⟨Below.refl _ _, none, _, rfl, OwnX.nil _ none, fun k h => by cases h⟩
  | some a =>
    have hb := (Below.refl w.heap.size w).alloc (Nat.le_refl _) (.cells #[] 85)
    have HX := Lib.hid (h.below hb fun k hk => h.lt hk).news1.2
    have HB := Lib.hid hb
    have H1 := Lib.hid h1
    clear h hb h1
    go_enter Tryz.func74, Tryz.ntmps74
    go_wp2_with (at_builtin; refine wpList_appX _ uxW (.tmp 5) (.tmp 6) rfl rfl rfl (OwnX.nil _ _) (some a) n c rfl xs e1 (fun h => by cases h) HX.out H1.out (by simp; omega) ?_; intro v3 g3 w3 hX3 hG3 ho3; have HX3 := Lib.hid hX3; have HG3 := Lib.hid hG3; have HO3 := Lib.hid ho3; clear hX3 hG3 ho3)
    go_ret
    refine ⟨belowX HB.out HG3.out (fun k h => by cases h) HB.out.size, g3, _, rfl, HX3.out, fun k hk => ?_⟩
    rcases HO3.out with h | h
    · rw [h] at hk; cases hk
    · have := h.symm.trans hk
      injection this with this
      simp at this
      omega
set_option maxRecDepth 100000 in
theorem cclone_walk (w : World) (A : Option Addr) (n c : Nat) (g : Option Nat) (xs : List Value) (h : OwnX 4 w g (.slice A n c) xs) (h1 : ∀ u ∈ xs, u.oneCell' = true) (hl : xs.length ≤ 1000000) :
    Calls Tryz.prog 75 #[.slice A n c] w (ClonePost 4 w xs) := by
  obtain ⟨e1, e2, e3⟩ := h.form
  have q22 : ∀ (w : World) (a : Option Addr) (n c n' c' : Nat), (binOp .eql 67 (.slice a n c) (.slice none n' c')).run Tryz.prog w = .ok (.bool a.isNone) w := fun w a n c n' c' => Lib.run_eql_slice_nil w _ _ a n c n' c' Tryz.underlying67
  cases A with
  | none =>
    have hn := h.news1.1 rfl
    have hL : xs = [] := List.eq_nil_of_length_eq_zero (by omega)
    subst hL
    clear h e1 hl h1
    go_enter Tryz.func75, Tryz.ntmps75
    go_wp2_with fail
    go_ret
    exact ⟨Below.refl _ _, none, _, rfl, OwnX.nil _ none, fun k h => by cases h⟩
  | some a =>
    have hb := (Below.refl w.heap.size w).alloc (Nat.le_refl _) (.cells #[] 80)
    have HX := Lib.hid (h.below hb fun k hk => h.lt hk).news1.2
    have HB := Lib.hid hb
    have H1 := Lib.hid h1
    clear h hb h1
    go_enter Tryz.func75, Tryz.ntmps75
    go_wp2_with (at_builtin; refine wpList_appX _ uxC (.tmp 5) (.tmp 6) rfl rfl rfl (OwnX.nil _ _) (some a) n c rfl xs e1 (fun h => by cases h) HX.out H1.out (by simp; omega) ?_; intro v3 g3 w3 hX3 hG3 ho3; have HX3 := Lib.hid hX3; have HG3 := Lib.hid hG3; have HO3 := Lib.hid ho3; clear hX3 hG3 ho3)
    go_ret
    refine ⟨belowX HB.out HG3.out (fun k h => by cases h) HB.out.size, g3, _, rfl, HX3.out, fun k hk => ?_⟩
    rcases HO3.out with h | h
    · rw [h] at hk; cases hk
    · have := h.symm.trans hk
      injection this with this
      simp at this
      omega
end Go.Proofs.YtbpooaicmjkemaaGreatDoor

/-! A copy of the program's disk that grows: its files, its maps. No condition. -/
namespace Go.Proofs.YtbpooaicmjkemaaGreatDoor
open Go.RowKit Go.Maps
set_option linter.unusedVariables false
/-! ### entries of which some are there already -/
theorem getE_filter {L : Es} (hs : sortE L) (f : Tx → Bool) (q : Tx) : getE (L.filter fun e => f e.1) q = if f q = true then getE L q else none := by
  have hs2 : sortE (L.filter fun e => f e.1) := hs.filter _
  cases hg : getE L q with
  | none =>
    rw [ite_self, getE_none]
    intro e he
    exact getE_none.1 hg e (List.mem_filter.1 he).1
  | some n =>
    split
    · rename_i hf
      exact (getE_mem hs2).2 (List.mem_filter.2 ⟨getE_some hg, hf⟩)
    · rename_i hf
      rw [getE_none]
      intro e he h
      have h2 := (List.mem_filter.1 he).2
      rw [h] at h2
      exact hf h2
theorem put_filter {L : Es} (hs : sortE L) {f f' : Tx → Bool} {p : Tx} {j : Nat} (hf' : ∀ q, f' q = (f q || decide (q = p))) (hg : getE L p = some j) : putE (L.filter fun e => f e.1) p j = L.filter fun e => f' e.1 := by
  refine sortE_ext (sort_putE (hs.filter _) _ _) (hs.filter _) fun q => ?_
  rw [getE_putE (hs.filter _), getE_filter hs, getE_filter hs, hf']
  by_cases hq : q = p
  · subst hq
    simp [hg]
  · simp [hq]
theorem filter_none {L : Es} {f : Tx → Bool} (h : ∀ q, f q = false) : L.filter (fun e => f e.1) = [] := by
  rw [List.filter_eq_nil_iff]
  intro e he h2
  rw [h] at h2
  cases h2
theorem filter_all {L : Es} {f : Tx → Bool} (h : ∀ e ∈ L, f e.1 = true) : L.filter (fun e => f e.1) = L := List.filter_eq_self.2 h
/-! ### a new file -/
def cpF (z i n1 n2 n3 : Nat) : Nat → Nat × Nat := fun k => if k < n1 then (10 * z + 3, i) else if k < n2 then (10 * z + 4, i) else if k < n3 then (10 * z + 5, i) else if k = n3 then (10 * z + 2, i) else (10 * z + 1, 1)
/-- a file that is as x is, behind its making -/
def NewF (wr : World) (x : Nd) (vs : List Value) (v : Value) (w4 : World) : Prop :=
  ∃ w1 w2 w3 gn vn gl vl gw vw, Below wr.heap.size wr w1 ∧ OwnQ w1 wr.heap.size gn vn x.now ∧ Below w1.heap.size w1 w2 ∧ OwnQ w2 w1.heap.size gl vl x.lasts ∧ Below w2.heap.size w2 w3 ∧ OwnX 2 w3 gw vw (wrRow vs x.waits).flatten ∧ FromB w2.heap.size gw ∧
    v = ptrV w3.heap.size ∧ w4 = w3.alloc (.cells #[vn, vl, vw] 75)
theorem NewF.fst {z i : Nat} {wr w4 : World} {own : Nat → Nat × Nat} {x : Nd} {vs : List Value} {v : Value} (h : NewF wr x vs v w4) (hv : WrsV wr own vs x.waits) :
    ∃ fb f, v = ptrV fb ∧ wr.heap.size ≤ fb ∧ fb + 1 = w4.heap.size ∧ Below wr.heap.size wr w4 ∧ FSt z w4 (newM wr own f) i fb x ∧ (∀ k, w4.heap.size ≤ k → f k = (10 * z + 1, 1)) ∧ CellsAt w4 fb := by
  obtain ⟨w1, w2, w3, gn, vn, gl, vl, gw, vw, b1, hn, b2, hl, b3, hw, fw, rfl, rfl⟩ := h
  have s1 := b1.size
  have s2 := b2.size
  have s3 := b3.size
  have b4 : Below w3.heap.size w3 (w3.alloc (.cells #[vn, vl, vw] 75)) := (Below.refl _ _).alloc (Nat.le_refl _) _
  have b24 := b3.trans (b4.mono s3)
  have b14 := b2.trans (b24.mono s2)
  have b04 := b1.trans (b14.mono s1)
  have hsz : (w3.alloc (.cells #[vn, vl, vw] 75)).heap.size = w3.heap.size + 1 := by simp
  have hB := Blk.new w3 75 #[vn, vl, vw]
  refine ⟨w3.heap.size, cpF z i w1.heap.size w2.heap.size w3.heap.size, rfl, by omega, hsz.symm, b04, ⟨?_, vn, gn, vl, gl, vw, gw, vs, hB, (hn.mono_ (Nat.zero_le _)).below b14, (hl.mono_ (Nat.zero_le _)).below b24, hw.below b4 fun k e => hw.lt e, ?_, ?_, ?_, ?_⟩, fun k hk => ?_, hB.cellsAt⟩
  · rw [newM_new (by omega)]
    unfold cpF
    rw [if_neg (by omega), if_neg (by omega), if_neg (by omega), if_pos rfl]
  · exact hv.goes (keep := fun _ => True) ⟨b04.size, fun k hk _ => ⟨b04.block k hk, newM_old hk⟩⟩ trivial
  · intro k e
    have h1 := hn.base_ e
    rw [newM_new h1.1]
    unfold cpF
    rw [if_pos h1.2]
  · intro k e
    have h1 := hl.base_ e
    rw [newM_new (by omega)]
    unfold cpF
    rw [if_neg (by omega), if_pos h1.2]
  · intro k e
    have h1 := fw k e
    have h2 := hw.lt e
    rw [newM_new (by omega)]
    unfold cpF
    rw [if_neg (by omega), if_neg (by omega), if_pos h2]
  · rw [hsz] at hk
    unfold cpF
    rw [if_neg (by omega), if_neg (by omega), if_neg (by omega), if_neg (by omega)]
/-! ### how far a copy has come -/
/-- the cells of the copy's own block -/
def cpC (d : Dk) (u : Nat) (vd vf vm vl vc : Value) : Array Value :=
  #[.int .i64 d.quota, .int .i64 (u : Int), vd, vf, vm, vl, vc, .bool d.off, .int .i64 d.done, .int .i64 (d.arm : Int), .int .i64 (d.fail : Int), .int .i64 d.failed]
structure CpF (z : Nat) (w wr : World) (own ownr : Nat → Nat × Nat) (d : Dk) (q : DParts) (u : Nat) (vd : Value) (cb ob i : Nat) (bl : List Nat) (gf : Option Nat) (vf vm vl vc : Value) : Prop where
  below : Below w.heap.size w wr
  old : ∀ k, k < w.heap.size → ownr k = own k
  len : bl.length = i
  pm : PMap wr ob (q.bl.take i) bl
  mo : ownr ob = (10 * z + 1, 9)
  row : OwnX 1 wr gf vf (bl.map ptrV)
  mf : ∀ k, gf = some k → ownr k = (10 * z + 1, 1)
  blk : Blk wr cb 69 (cpC d u vd vf vm vl vc)
  mc : ownr cb = (10 * z + 1, 0)
  fs : ∀ (j b : Nat) (x : Nd), bl[j]? = some b → d.nodes[j]? = some x → FSt z wr ownr j b x
  lo : w.heap.size ≤ ob
  lc : w.heap.size ≤ cb
  lf : FromB w.heap.size gf
section
variable {z : Nat} {w wr w2 : World} {own ownr own2 : Nat → Nat × Nat} {d : Dk} {q : DParts} {u cb ob i : Nat} {bl : List Nat} {gf : Option Nat} {vd vf vm vl vc vm2 vl2 vc2 : Value}
theorem frz_ne {z : Nat} : (frz.1 : Nat) ≠ 10 * z + 1 := by unfold frz; omega
theorem file_ne {z i : Nat} {t : Nat × Nat} (h : isFile z i t) : t.1 ≠ 10 * z + 1 := by have := h.1.1; omega
theorem CpF.start (w : World) (own : Nat → Nat × Nat) (d : Dk) (q : DParts) (u : Nat) (vd vm vl vc : Value) :
    CpF z w ((w.alloc (.cells (cpC d u vd (.slice none 0 0) vm vl vc) 69)).alloc (.map #[] 0)) own (newM w own fun k => if k = w.heap.size then (10 * z + 1, 0) else (10 * z + 1, 9)) d q u vd w.heap.size (w.heap.size + 1) 0 [] none (.slice none 0 0) vm vl vc := by
  have hs : (w.alloc (.cells (cpC d u vd (.slice none 0 0) vm vl vc) 69)).heap.size = w.heap.size + 1 := by simp
  have hp := PMap.made (w.alloc (.cells (cpC d u vd (.slice none 0 0) vm vl vc) 69))
  rw [hs] at hp
  refine ⟨((Below.refl _ w).alloc (Nat.le_refl _) _).alloc (by simp) _, fun k hk => newM_old hk, rfl, hp, ?_, OwnX.nil _ none, (fun k e => by cases e), (Blk.new w _ _).alloc _, ?_, (fun j b x hb => by simp at hb), by omega, Nat.le_refl _, fun k e => by cases e⟩
  · rw [newM_new (by omega), if_neg (by omega)]
  · rw [newM_new (Nat.le_refl _), if_pos rfl]
theorem CpF.step (h : CpF z w wr own ownr d q u vd cb ob i bl gf vf vm vl vc) {b fb : Nat} {x : Nd} {f : Nat → Nat × Nat} (hb : q.bl[i]? = some b) (hx : d.nodes[i]? = some x) {w4 w5 w6 : World} (hfb : wr.heap.size ≤ fb) (hfs : fb + 1 = w4.heap.size)
    (hb4 : Below wr.heap.size wr w4) (hF : FSt z w4 (newM wr ownr f) i fb x) (hf : ∀ k, w4.heap.size ≤ k → f k = (10 * z + 1, 1)) (hp5 : PMap w5 ob (q.bl.take i ++ [b]) (bl ++ [fb])) (hg5 : w4.grownBy w5 (some ob)) (hs5 : w5.heap.size = w4.heap.size)
    {o : Obj} {gf' : Option Nat} {vf' : Value} (hX : OwnX 1 w6 gf' vf' (bl.map ptrV ++ [ptrV fb])) (hg6 : (w5.alloc o).grownBy w6 gf) (ho6 : gf' = gf ∨ gf' = some (w5.alloc o).heap.size) :
    CpF z w (w6.setCell ⟨cb, 3, none⟩ vf') own (newM wr ownr f) d q u vd cb ob (i + 1) (bl ++ [fb]) gf' vf' vm vl vc := by
  have hcb := h.blk.lt
  have hob := h.pm.lt
  have hsr := hb4.size
  have hgo : gf ≠ some ob := fun e => by have h1 := h.mf ob e; rw [h.mo] at h1; simp at h1
  have hgc : gf ≠ some cb := fun e => by have h1 := h.mf cb e; rw [h.mc] at h1; simp at h1
  have hoc : ob ≠ cb := fun e => by have h1 := h.mo; rw [e, h.mc] at h1; simp at h1
  have hs6 : w5.heap.size + 1 ≤ w6.heap.size := by have := hg6.size; simpa using this
  have G : ∀ k, k < w4.heap.size → k ≠ ob → gf ≠ some k → k ≠ cb → (w6.setCell ⟨cb, 3, none⟩ vf').heap[k]? = w4.heap[k]? := fun k hk h1 h2 h3 =>
    (Below.heap_setCell w6 ⟨cb, 3, none⟩ vf' k h3).trans ((hg6.block k (by simp; omega) (fun e => h2 e.symm)).trans ((Below.heap_alloc w5 o k (by omega)).trans (hg5.block k hk (fun e => h1 (by injection e)))))
  have hs7 : w4.heap.size ≤ (w6.setCell ⟨cb, 3, none⟩ vf').heap.size := by simp; omega
  have gr : Goes (fun t => t.1 ≠ 10 * z + 1) wr (w6.setCell ⟨cb, 3, none⟩ vf') ownr (newM wr ownr f) := ⟨Nat.le_trans hsr hs7, fun k hk hn => ⟨(G k (by omega) (fun e => hn (by rw [e, h.mo])) (fun e => hn (by rw [h.mf k e])) (fun e => hn (by rw [e, h.mc]))).trans (hb4.block k hk), newM_old hk⟩⟩
  have g4 : Goes (fun t => t.1 ≠ 10 * z + 1) w4 (w6.setCell ⟨cb, 3, none⟩ vf') (newM wr ownr f) (newM wr ownr f) := ⟨hs7, fun k hk hn => ⟨G k hk (fun e => hn (by rw [e, newM_old hob, h.mo])) (fun e => hn (by rw [newM_old (h.row.lt e), h.mf k e])) (fun e => hn (by rw [e, newM_old hcb, h.mc])), rfl⟩⟩
  have hgl : ∀ k, gf' = some k → gf = some k ∨ w5.heap.size + 1 ≤ k := fun k e => by
    rcases ho6 with h1 | h1
    · exact .inl (h1.symm.trans e)
    · rw [h1] at e; injection e with e; rw [← e]; right; simp
  have hgc' : ∀ k, gf' = some k → k ≠ cb := fun k e h1 => by
    rcases hgl k e with h2 | h2
    · exact hgc (by rw [h2, h1])
    · omega
  have htk : q.bl.take (i + 1) = q.bl.take i ++ [b] := by
    obtain ⟨h1, h2⟩ := List.getElem?_eq_some_iff.1 hb
    rw [List.take_succ_eq_append_getElem h1, h2]
  have hB6 : Blk w6 cb 69 (cpC d u vd vf vm vl vc) := (((h.blk.keep hb4).grown hg5 (fun e => hoc (by injection e with e; exact e.symm))).alloc o).grown hg6 (fun e => hgc e.symm)
  refine ⟨⟨?_, ?_, ?_, by have := h.below.size; omega, fun k hk => ?_⟩, fun k hk => ?_, by simp [h.len], ?_, (newM_old hob).trans h.mo, ?_, fun k e => ?_, hB6.set_ 3 vf', (newM_old hcb).trans h.mc, fun j b' y hb' hy => ?_, h.lo, h.lc, fun k e => ?_⟩
  · exact hg6.os.trans (hg5.os.trans (hb4.os.trans h.below.os))
  · exact hg6.tape.trans (hg5.tape.trans (hb4.tape.trans h.below.tape))
  · exact hg6.output.trans (hg5.output.trans (hb4.output.trans h.below.output))
  · have h1 := h.below.size
    have h2 := h.lo
    have h3 := h.lc
    exact (G k (by omega) (by omega) (fun e => by have := h.lf k e; omega) (by omega)).trans ((hb4.block k (by omega)).trans (h.below.block k hk))
  · rw [newM_old (Nat.lt_of_lt_of_le hk h.below.size)]
    exact h.old k hk
  · rw [htk]
    refine hp5.same ?_
    exact (Below.heap_setCell w6 ⟨cb, 3, none⟩ vf' ob hoc).trans ((hg6.block ob (by simp; omega) (fun e => hgo e.symm)).trans (Below.heap_alloc w5 o ob (by omega)))
  · rw [List.map_append]
    exact hX.same (by simp) fun k e => Below.heap_setCell w6 ⟨cb, 3, none⟩ vf' k (hgc' k e)
  · rcases hgl k e with h2 | h2
    · exact (newM_old (h.row.lt h2)).trans (h.mf k h2)
    · rw [newM_new (by omega)]
      exact hf k (by omega)
  · rcases Nat.lt_trichotomy j i with hj | hj | hj
    · rw [List.getElem?_append_left (by rw [h.len]; exact hj)] at hb'
      exact (h.fs j b' y hb' hy).goes gr frz_ne fun t ht => file_ne ht
    · subst hj
      rw [List.getElem?_append_right (by rw [h.len]; exact Nat.le_refl _), h.len, Nat.sub_self] at hb'
      obtain rfl : fb = b' := by simpa using hb'
      rw [hx] at hy
      obtain rfl := Option.some.inj hy
      exact hF.goes g4 frz_ne fun t ht => file_ne ht
    · have := (List.getElem?_eq_some_iff.1 hb').1
      rw [List.length_append, h.len] at this
      simp at this
      omega
  · rcases hgl k e with h2 | h2
    · exact h.lf k h2
    · have := h.below.size
      omega
/-- marks that are not the copy's maps' and changes' -/
def butMaps (z : Nat) (t : Nat × Nat) : Prop := t ≠ (0, 0) ∧ (t.1 ≠ 10 * z + 1 ∨ t.2 = 1 ∨ t.2 = 9)
theorem CpF.maps (h : CpF z w wr own ownr d q u vd cb ob i bl gf vf vm vl vc) (hg : Goes (butMaps z) wr w2 ownr own2) (hb : Below w.heap.size w w2) (ho : ∀ k, k < w.heap.size → own2 k = own k) (hB : Blk w2 cb 69 (cpC d u vd vf vm2 vl2 vc2)) (hm : own2 cb = (10 * z + 1, 0)) :
    CpF z w w2 own own2 d q u vd cb ob i bl gf vf vm2 vl2 vc2 := by
  have k9 : butMaps z (ownr ob) := by rw [h.mo]; exact ⟨by simp, .inr (.inr rfl)⟩
  have k1 : ∀ k, gf = some k → butMaps z (ownr k) := fun k e => by rw [h.mf k e]; exact ⟨by simp, .inr (.inl rfl)⟩
  exact ⟨hb, ho, h.len, h.pm.same (hg.block ob h.pm.lt k9).1, (hg.block ob h.pm.lt k9).2.trans h.mo, h.row.same hg.size fun k e => (hg.block k (h.row.lt e) (k1 k e)).1, fun k e => (hg.block k (h.row.lt e) (k1 k e)).2.trans (h.mf k e), hB, hm,
    fun j b x hb hx => (h.fs j b x hb hx).goes hg ⟨by unfold frz; simp, .inl frz_ne⟩ fun t ht => ⟨fun e => by have := ht.1.1; rw [e] at this; simp at this, .inl (file_ne ht)⟩, h.lo, h.lc, h.lf⟩
/-- the copy's maps, growing -/
structure CpM (z : Nat) (w wr : World) (own ownr : Nat → Nat × Nat) (d : Dk) (q : DParts) (u : Nat) (vd : Value) (cb ob i : Nat) (bl : List Nat) (gf : Option Nat) (vf vc : Value) (m1 n1 : Nat) (D1 : DataW Unit) (L1 : Es) (m2 n2 : Nat) (D2 : DataW Unit) (L2 : Es) : Prop where
  f : CpF z w wr own ownr d q u vd cb ob i bl gf vf (.map (some m1)) (.map (some m2)) vc
  o1 : wr.ownsMap Tryz.prog 9 ptrElem m1 n1 D1
  e1 : MapE D1 L1 bl
  k1 : ownr m1 = (10 * z + 1, 2)
  o2 : wr.ownsMap Tryz.prog 9 ptrElem m2 n2 D2
  e2 : MapE D2 L2 bl
  k2 : ownr m2 = (10 * z + 1, 3)
  l1 : w.heap.size ≤ m1
  l2 : w.heap.size ≤ m2
section
variable {m1 n1 m2 n2 n' : Nat} {D1 D2 D' : DataW Unit} {L1 L2 L' : Es} {w6 : World}
theorem CpF.made (h : CpF z w wr own ownr d q u vd cb ob i bl gf vf vm vl vc) (he : w6 = ((((wr.setCell ⟨cb, 4, none⟩ (.map (some wr.heap.size))).setCell ⟨cb, 5, none⟩ (.map (some (wr.heap.size + 1)))).alloc (.map #[] 0)).alloc (.map #[] 0))) :
    ∃ own2, CpM z w w6 own own2 d q u vd cb ob i bl gf vf vc wr.heap.size 0 (.map []) [] (wr.heap.size + 1) 0 (.map []) [] ∧ Below w.heap.size w w6 ∧ (∀ k, w6.heap.size ≤ k → own2 k = (0, 0)) ∧ wr.heap.size ≤ w6.heap.size := by
  subst he
  have hcb := h.blk.lt
  generalize hv4 : (wr.setCell ⟨cb, 4, none⟩ (.map (some wr.heap.size))).setCell ⟨cb, 5, none⟩ (.map (some (wr.heap.size + 1))) = wv
  have s0 : wv.heap.size = wr.heap.size := by rw [← hv4]; simp
  have s1 : (wv.alloc (.map #[] 0)).heap.size = wr.heap.size + 1 := by simp [s0]
  have s2 : ((wv.alloc (.map #[] 0)).alloc (.map #[] 0)).heap.size = wr.heap.size + 2 := by simp [s0]
  have m1 := (World.ownsMap_made (H := Unit) wv Tryz.prog 9 ptrElem).alloc (.map #[] 0)
  have m2 := World.ownsMap_made (H := Unit) (wv.alloc (.map #[] 0)) Tryz.prog 9 ptrElem
  rw [s0] at m1
  rw [s1] at m2
  have hst0 : ∀ k, k ≠ cb → wv.heap[k]? = wr.heap[k]? := fun k hk => by
    rw [← hv4]
    exact (Below.heap_setCell _ ⟨cb, 5, none⟩ _ k hk).trans (Below.heap_setCell _ ⟨cb, 4, none⟩ _ k hk)
  have hst : ∀ k, k < wr.heap.size → k ≠ cb → ((wv.alloc (.map #[] 0)).alloc (.map #[] 0)).heap[k]? = wr.heap[k]? := fun k hk hn =>
    (Below.heap_alloc _ _ k (by omega)).trans ((Below.heap_alloc _ _ k (by omega)).trans (hst0 k hn))
  have hbv : Below w.heap.size w wv := by
    rw [← hv4]
    exact (h.below.setCell h.lc _).setCell h.lc _
  have hb : Below w.heap.size w ((wv.alloc (.map #[] 0)).alloc (.map #[] 0)) := (hbv.alloc hbv.size _).alloc (by have := h.below.size; omega) _
  have hBv : Blk wv cb 69 (cpC d u vd vf (.map (some wr.heap.size)) (.map (some (wr.heap.size + 1))) vc) := by
    rw [← hv4]
    exact (h.blk.set_ 4 _).set_ 5 _
  refine ⟨newM wr ownr fun k => if k = wr.heap.size then (10 * z + 1, 2) else if k = wr.heap.size + 1 then (10 * z + 1, 3) else (0, 0), ⟨h.maps ⟨by omega, fun k hk hn => ⟨hst k hk fun e => by rw [e, h.mc] at hn; unfold butMaps at hn; simp at hn, newM_old hk⟩⟩ hb (fun k hk => (newM_old (Nat.lt_of_lt_of_le hk h.below.size)).trans (h.old k hk)) ((hBv.alloc _).alloc _) ((newM_old hcb).trans h.mc),
    m1, ⟨rfl, fun p _ _ => rfl, fun p i b _ h => by cases h⟩, ?_, m2, ⟨rfl, fun p _ _ => rfl, fun p i b _ h => by cases h⟩, ?_, h.below.size, by have := h.below.size; omega⟩, hb, ?_, by omega⟩
  · rw [newM_new (Nat.le_refl _), if_pos rfl]
  · rw [newM_new (by omega), if_neg (by omega), if_pos rfl]
  · intro k hk
    rw [newM_new (by omega), if_neg (by omega), if_neg (by omega)]
theorem CpM.iter (h : CpM z w wr own ownr d q u vd cb ob i bl gf vf vc m1 n1 D1 L1 m2 n2 D2 L2) {row : Option Nat} (hg : wr.grownBy w2 row) (hr : ∀ r, row = some r → ownr r = (0, 0) ∧ w.heap.size ≤ r) : CpM z w w2 own ownr d q u vd cb ob i bl gf vf vc m1 n1 D1 L1 m2 n2 D2 L2 := by
  have ne : ∀ k, ownr k ≠ (0, 0) → some k ≠ row := fun k hk e => hk (hr k e.symm).1
  have hc := ne cb (by rw [h.f.mc]; simp)
  have h1 := ne m1 (by rw [h.k1]; simp)
  have h2 := ne m2 (by rw [h.k2]; simp)
  exact ⟨h.f.maps ⟨hg.size, fun k hk hn => ⟨hg.block k hk (ne k hn.1), rfl⟩⟩ (h.f.below.grown hg h.f.below.size fun r e => (hr r e).2) h.f.old (h.f.blk.grown hg hc) h.f.mc, ownsMap_same h.o1 (hg.block _ h.o1.lt h1), h.e1, h.k1, ownsMap_same h.o2 (hg.block _ h.o2.lt h2), h.e2, h.k2, h.l1, h.l2⟩
theorem CpM.put1 (h : CpM z w wr own ownr d q u vd cb ob i bl gf vf vc m1 n1 D1 L1 m2 n2 D2 L2) (ho : w2.ownsMap Tryz.prog 9 ptrElem m1 n' D') (hg : wr.grownBy w2 (some m1)) (he : MapE D' L' bl) : CpM z w w2 own ownr d q u vd cb ob i bl gf vf vc m1 n' D' L' m2 n2 D2 L2 := by
  have hc : some cb ≠ some m1 := fun e => by injection e with e; have := h.k1; rw [← e, h.f.mc] at this; simp at this
  have h2 : some m2 ≠ some m1 := fun e => by injection e with e; have := h.k1; rw [← e, h.k2] at this; simp at this
  exact ⟨h.f.maps ⟨hg.size, fun k hk hn => ⟨hg.block k hk (fun e => by injection e with e; rw [e, h.k1] at hn; unfold butMaps at hn; simp at hn), rfl⟩⟩ (h.f.below.grown hg h.f.below.size fun r e => by injection e with e; rw [← e]; exact h.l1) h.f.old (h.f.blk.grown hg hc) h.f.mc, ho, he, h.k1, ownsMap_same h.o2 (hg.block _ h.o2.lt h2), h.e2, h.k2, h.l1, h.l2⟩
theorem CpM.put2 (h : CpM z w wr own ownr d q u vd cb ob i bl gf vf vc m1 n1 D1 L1 m2 n2 D2 L2) (ho : w2.ownsMap Tryz.prog 9 ptrElem m2 n' D') (hg : wr.grownBy w2 (some m2)) (he : MapE D' L' bl) : CpM z w w2 own ownr d q u vd cb ob i bl gf vf vc m1 n1 D1 L1 m2 n' D' L' := by
  have hc : some cb ≠ some m2 := fun e => by injection e with e; have := h.k2; rw [← e, h.f.mc] at this; simp at this
  have h2 : some m1 ≠ some m2 := fun e => by injection e with e; have := h.k1; rw [e, h.k2] at this; simp at this
  exact ⟨h.f.maps ⟨hg.size, fun k hk hn => ⟨hg.block k hk (fun e => by injection e with e; rw [e, h.k2] at hn; unfold butMaps at hn; simp at hn), rfl⟩⟩ (h.f.below.grown hg h.f.below.size fun r e => by injection e with e; rw [← e]; exact h.l2) h.f.old (h.f.blk.grown hg hc) h.f.mc, ownsMap_same h.o1 (hg.block _ h.o1.lt h2), h.e1, h.k1, ho, he, h.k2, h.l1, h.l2⟩
/-- the changes that wait are copied -/
theorem CpM.chs (h : CpM z w wr own ownr d q u vd cb ob i bl gf vf vc m1 n1 D1 L1 m2 n2 D2 L2) (hb : Below wr.heap.size wr w2) (v : Value) :
    CpM z w (w2.setCell ⟨cb, 6, none⟩ v) own (newM wr ownr fun _ => (10 * z + 1, 4)) d q u vd cb ob i bl gf vf v m1 n1 D1 L1 m2 n2 D2 L2 := by
  have hcb := h.f.blk.lt
  have st : ∀ k, k < wr.heap.size → k ≠ cb → (w2.setCell ⟨cb, 6, none⟩ v).heap[k]? = wr.heap[k]? := fun k hk hn => (Below.heap_setCell w2 ⟨cb, 6, none⟩ v k hn).trans (hb.block k hk)
  have n1' : m1 ≠ cb := fun e => by have := h.k1; rw [e, h.f.mc] at this; simp at this
  have n2' : m2 ≠ cb := fun e => by have := h.k2; rw [e, h.f.mc] at this; simp at this
  exact ⟨h.f.maps ⟨by simpa using hb.size, fun k hk hn => ⟨st k hk fun e => by rw [e, h.f.mc] at hn; unfold butMaps at hn; simp at hn, newM_old hk⟩⟩ ((h.f.below.trans (hb.mono h.f.below.size)).setCell h.f.lc _) (fun k hk => (newM_old (Nat.lt_of_lt_of_le hk h.f.below.size)).trans (h.f.old k hk)) ((h.f.blk.keep hb).set_ 6 v) ((newM_old hcb).trans h.f.mc),
    ownsMap_same h.o1 (st _ h.o1.lt n1'), h.e1, (newM_old h.o1.lt).trans h.k1, ownsMap_same h.o2 (st _ h.o2.lt n2'), h.e2, (newM_old h.o2.lt).trans h.k2, h.l1, h.l2⟩
/-- the row of the changes that wait has changed -/
theorem CpM.only (h : CpM z w wr own ownr d q u vd cb ob i bl gf vf vc m1 n1 D1 L1 m2 n2 D2 L2) {g : Nat} (ho : Only g wr w2) (hm : ownr g = (10 * z + 1, 4)) (hl : w.heap.size ≤ g) : CpM z w w2 own ownr d q u vd cb ob i bl gf vf vc m1 n1 D1 L1 m2 n2 D2 L2 := by
  have ne : ∀ k t, ownr k = t → t ≠ (10 * z + 1, 4) → k ≠ g := fun k t h1 h2 e => h2 (by rw [← h1, e, hm])
  have hc := ne cb _ h.f.mc (by simp)
  have h1 := ne m1 _ h.k1 (by simp)
  have h2 := ne m2 _ h.k2 (by simp)
  have hb : Below w.heap.size w w2 := ⟨ho.os.trans h.f.below.os, ho.tape.trans h.f.below.tape, ho.output.trans h.f.below.output, Nat.le_trans h.f.below.size ho.size, fun k hk => (ho.block k (Nat.lt_of_lt_of_le hk h.f.below.size) (fun e => by injection e; omega)).trans (h.f.below.block k hk)⟩
  have st : ∀ k, k < wr.heap.size → k ≠ g → w2.heap[k]? = wr.heap[k]? := fun k hk hn => ho.block k hk fun e => hn (by injection e)
  exact ⟨h.f.maps ⟨ho.size, fun k hk hn => ⟨st k hk fun e => by rw [e, hm] at hn; unfold butMaps at hn; simp at hn, rfl⟩⟩ hb h.f.old (h.f.blk.at_ (st _ h.f.blk.lt hc)) h.f.mc, ownsMap_same h.o1 (st _ h.o1.lt h1), h.e1, h.k1, ownsMap_same h.o2 (st _ h.o2.lt h2), h.e2, h.k2, h.l1, h.l2⟩
theorem CpM.fin (h : CpM z w wr own ownr d q u vd cb ob i bl gf vf vc m1 n1 D1 d.now m2 n2 D2 d.lasts) (hi : i = d.nodes.length) (hd : FzS w own vd d.dirs) (hu : usedM d = u) {gc : Option Nat} (hX : OwnX 4 wr gc vc (d.waits.map (chC bl)).flatten) (hgc : ∀ k, gc = some k → ownr k = (10 * z + 1, 4)) (b1 : n1 ≤ 1000000) (b2 : n2 ≤ 1000000) : Disk z wr ownr cb d := by
  refine ⟨⟨bl, vd, vf, gf, m1, n1, D1, m2, n2, D2, vc, gc⟩, ⟨?_, h.f.mc, ⟨hd.goes (keep := fun _ => True) ⟨h.f.below.size, fun k hk _ => ⟨h.f.below.block k hk, h.f.old k hk⟩⟩ trivial, h.f.row, h.f.mf, by rw [← hi]; exact h.f.len, h.k1, h.o1, h.e1, h.k2, h.o2, h.e2, hX, hgc, h.f.fs, b1, b2⟩⟩⟩
  have := h.f.blk
  unfold cpC at this
  unfold DParts.cells
  rw [hu]
  exact this
end
end
/-! ### the changes that wait, some with the copy's files -/
theorem chP_pt (bl : List Nat) (c : Ch) : ∃ P, chP bl c = .pointer P := by
  unfold chP
  split <;> exact ⟨_, rfl⟩
def rowC (bl' bl : List Nat) (cs : List Ch) (i : Nat) : List (List Value) := (cs.map (chC bl')).take i ++ (cs.map (chC bl)).drop i
theorem rowC_zero (bl' bl : List Nat) (cs : List Ch) : rowC bl' bl cs 0 = cs.map (chC bl) := rfl
theorem rowC_full (bl' bl : List Nat) (cs : List Ch) : rowC bl' bl cs cs.length = cs.map (chC bl') := by
  unfold rowC
  rw [List.take_of_length_le (by simp), List.drop_of_length_le (by simp), List.append_nil]
theorem rowC_all (bl' bl : List Nat) (cs : List Ch) (i : Nat) : ∀ r ∈ rowC bl' bl cs i, r.length = 4 := by
  intro r hr
  rcases List.mem_append.1 hr with h | h
  · obtain ⟨c, -, rfl⟩ := List.mem_map.1 (List.mem_of_mem_take h); rfl
  · obtain ⟨c, -, rfl⟩ := List.mem_map.1 (List.mem_of_mem_drop h); rfl
theorem rowC_len (bl' bl : List Nat) (cs : List Ch) (i : Nat) : (rowC bl' bl cs i).length = cs.length := by
  unfold rowC
  rw [List.length_append, List.length_take, List.length_drop, List.length_map, List.length_map]
  omega
theorem rowC_at {bl' bl : List Nat} {cs : List Ch} {i : Nat} {c : Ch} (h : cs[i]? = some c) : (rowC bl' bl cs i)[i]? = some (chC bl c) := by
  have hi := (List.getElem?_eq_some_iff.1 h).1
  unfold rowC
  have hl : ((cs.map (chC bl')).take i).length = i := by rw [List.length_take, List.length_map]; omega
  rw [List.getElem?_append_right (by omega), hl, Nat.sub_self, List.getElem?_drop, Nat.add_zero, List.getElem?_map, h]
  rfl
theorem rowC_succ {bl' bl : List Nat} {cs : List Ch} {i : Nat} {c : Ch} (h : cs[i]? = some c) : (rowC bl' bl cs i).set i ((chC bl c).set 3 (chP bl' c)) = rowC bl' bl cs (i + 1) := by
  obtain ⟨hi, hc⟩ := List.getElem?_eq_some_iff.1 h
  have hl : ((cs.map (chC bl')).take i).length = i := by rw [List.length_take, List.length_map]; omega
  unfold rowC
  rw [List.set_append_right _ _ (by omega), hl, Nat.sub_self, List.drop_eq_getElem_cons (by rw [List.length_map]; exact hi), List.set_cons_zero, List.take_succ_eq_append_getElem (by rw [List.length_map]; exact hi), List.append_assoc, List.getElem_map, hc]
  rfl
end Go.Proofs.YtbpooaicmjkemaaGreatDoor

/-! The walk of the program's Copy. Conditions: the lengths. -/
namespace Go.Proofs.YtbpooaicmjkemaaGreatDoor
open Go.RowKit Go.Maps
set_option linter.unusedVariables false
def DupPost (z : Nat) (w : World) (own : Nat → Nat × Nat) (d : Dk) (e : Ending) (w' : World) : Prop :=
  ∃ cb own', w.heap.size ≤ cb ∧ Disk z w' own' cb d ∧ (∀ k, k < w.heap.size → own' k = own k) ∧ Below w.heap.size w w' ∧ e = .returned (ptrV cb)
set_option maxRecDepth 100000 in
set_option maxHeartbeats 2000000 in
theorem copy_walk0 {z y db K : Nat} {w : World} {own : Nat → Nat × Nat} {d : Dk} {q : DParts} (h : DSt z w own db d q) (hw : Wf d K) (hK : K ≤ 10000) (hn1 : q.nn ≤ K) (hn2 : q.nl ≤ K) :
    Calls Tryz.prog 20 #[ptrV db] w (DupPost y w own d) := by
  obtain ⟨Ad, cd, hvd, -⟩ := h.rest.dirs
  obtain ⟨Af, nf, cf, hvf, hnf0, hcf, hmf⟩ := h.rest.files.sl
  obtain ⟨Ac, nc, cc, hvc, hnc0, hcc, hmc⟩ := h.rest.chs.sl
  have HD := Lib.hid h
  have HW := Lib.hid hw
  have HDN := Lib.hid (⟨hvd, hvf, hvc⟩ : q.vd = .slice Ad d.dirs.length cd ∧ q.vf = .slice Af nf cf ∧ q.vc = .slice Ac nc cc)
  obtain ⟨u, hu⟩ : ∃ u, usedM d = u := ⟨_, rfl⟩
  obtain ⟨dn, hdn⟩ : ∃ dn, d.dirs.length = dn := ⟨_, rfl⟩
  have HU := Lib.hid hu
  have HDD : Hid (FzS w own (.slice Ad dn cd) d.dirs) := Lib.hid (by have := h.rest.dirs; rw [hvd, hdn] at this; exact this)
  have HCEL : Hid (∀ w', Below w.heap.size w w' → Blk w' db 69 #[.int .i64 d.quota, .int .i64 (u : Int), .slice Ad dn cd, .slice Af nf cf, .map (some q.mn), .map (some q.ml), .slice Ac nc cc, .bool d.off, .int .i64 d.done, .int .i64 (d.arm : Int), .int .i64 (d.fail : Int), .int .i64 d.failed]) := Lib.hid fun w' hb => by
    have := h.blk.keep hb
    unfold DParts.cells at this
    rw [hvd, hvf, hvc, hu, hdn] at this
    exact this
  have hb0 := HCEL.out w (Below.refl _ _)
  have k0 : w.cell? ⟨db, 0, none⟩ = some (.int .i64 d.quota) := hb0.cell 0
  have k1 : w.cell? ⟨db, 1, none⟩ = some (.int .i64 (u : Int)) := hb0.cell 1
  have k2 : w.cell? ⟨db, 2, none⟩ = some (.slice Ad dn cd) := hb0.cell 2
  have k3 : w.cell? ⟨db, 3, none⟩ = some (.slice Af nf cf) := hb0.cell 3
  have k4 : w.cell? ⟨db, 4, none⟩ = some (.map (some q.mn)) := hb0.cell 4
  have k5 : w.cell? ⟨db, 5, none⟩ = some (.map (some q.ml)) := hb0.cell 5
  have k6 : w.cell? ⟨db, 6, none⟩ = some (.slice Ac nc cc) := hb0.cell 6
  have k7 : w.cell? ⟨db, 7, none⟩ = some (.bool d.off) := hb0.cell 7
  have k8 : w.cell? ⟨db, 8, none⟩ = some (.int .i64 d.done) := hb0.cell 8
  have k9 : w.cell? ⟨db, 9, none⟩ = some (.int .i64 (d.arm : Int)) := hb0.cell 9
  have k10 : w.cell? ⟨db, 10, none⟩ = some (.int .i64 (d.fail : Int)) := hb0.cell 10
  have k11 : w.cell? ⟨db, 11, none⟩ = some (.int .i64 d.failed) := hb0.cell 11
  have HNF : Hid (nf = d.nodes.length) := Lib.hid (by rw [List.length_map, Nat.mul_one] at hnf0; rw [← hnf0]; exact h.rest.len)
  have hmm := @run_makeMap Tryz.prog
  have HK : Hid (∀ (j b : Nat) (w' : World), q.bl[j]? = some b → Below w.heap.size w w' → CellsAt w' b) := Lib.hid fun j b w' hb hbw => by
    have lj : j < d.nodes.length := by rw [← h.rest.len]; exact (List.getElem?_eq_some_iff.1 hb).1
    obtain ⟨_, _, _, _, _, _, _, hB, -⟩ := (h.rest.fs j b _ hb (List.getElem?_eq_getElem lj)).ex
    exact (hB.keep hbw).cellsAt
  have HE1 := Lib.hid (fun (p : Tx) (c : Option Nat) (kl : Lit) (y : DataW Unit × List MemPlace) => ent_of (p := p) (c := c) (kl := kl) (y := y) h.rest.en (fun e he => by rw [h.rest.len]; exact hw.iln e he))
  have HE2 := Lib.hid (fun (p : Tx) (c : Option Nat) (kl : Lit) (y : DataW Unit × List MemPlace) => ent_of (p := p) (c := c) (kl := kl) (y := y) h.rest.el (fun e he => by rw [h.rest.len]; exact hw.il e he))
  have HAS1 : Hid (d.now.filter (fun e => !Maps.has q.Dn (kL e.1)) = []) := Lib.hid (by
    rw [List.filter_eq_nil_iff]
    intro e he
    have hl : e.1.length ≤ maxLen := Nat.le_trans (hw.size (hw.mn _ he)) (by unfold maxLen; omega)
    have hi := hw.iln _ he
    rw [(h.rest.en.ya e.1 e.2 _ hl ((getE_mem hw.sn).2 he) (List.getElem?_eq_getElem (by rw [h.rest.len]; exact hi))).1]
    decide)
  have HAS2 : Hid (d.lasts.filter (fun e => !Maps.has q.Dl (kL e.1)) = []) := Lib.hid (by
    rw [List.filter_eq_nil_iff]
    intro e he
    have hl : e.1.length ≤ maxLen := Nat.le_trans (hw.size (hw.ml _ he)) (by unfold maxLen; omega)
    have hi := hw.il _ he
    rw [(h.rest.el.ya e.1 e.2 _ hl ((getE_mem hw.sl).2 he) (List.getElem?_eq_getElem (by rw [h.rest.len]; exact hi))).1]
    decide)
  have HSZ : Hid (Maps.size q.Dn ≤ 10000 ∧ Maps.size q.Dl ≤ 10000) := Lib.hid ⟨by rw [h.rest.en.sz]; have := hw.cpn; have := hw.nk; omega, by rw [h.rest.el.sz]; have := hw.cp; have := hw.nk; omega⟩
  have HIN : Hid (∀ (i j b : Nat), q.bl[i]? = some b → q.bl[j]? = some b → i = j) := Lib.hid fun i j b hi hj => bl_inj (db := db) h.rest hi hj
  clear hvd hvf hvc hnf0 hcf hmf hnc0 hcc hmc hu hdn hb0 h hw
  unfold ptrV
  go_enter Tryz.func20, Tryz.ntmps20
  go_upto_region 4 with fail
  have hi0 : CpF y w ((w.alloc (.cells (cpC d u (.slice Ad dn cd) (.slice none 0 0) (.map (some q.mn)) (.map (some q.ml)) (.slice Ac nc cc)) 69)).alloc (.map #[] 0)) own _ d q u _ _ _ _ _ _ _ _ _ _ := CpF.start w own d q u (.slice Ad dn cd) (.map (some q.mn)) (.map (some q.ml)) (.slice Ac nc cc)
  unfold cpC at hi0
  generalize ((w.alloc (.cells #[.int .i64 d.quota, .int .i64 (u : Int), .slice Ad dn cd, .slice none 0 0, .map (some q.mn), .map (some q.ml), .slice Ac nc cc, .bool d.off, .int .i64 d.done, .int .i64 (d.arm : Int), .int .i64 (d.fail : Int), .int .i64 d.failed] 69)).alloc (.map #[] 0)) = w4 at *
  have HI := Lib.hid hi0
  have k3a : w4.cell? ⟨db, 3, none⟩ = some (.slice Af nf cf) := (HCEL.out _ hi0.below).cell 3
  clear hi0 k0 k1 k2 k3 k4 k5 k6 k7 k8 k9 k10 k11
  go_wp2_with fail
  go_loopg [6, 7, 23] nf (fun k s6 s7 s23 wr => ∃ (i : Nat) (ownr : Nat → Nat × Nat) (bl : List Nat) (gf : Option Nat) (vf : Value), s23 = .int .i64 (i : Int) ∧ i + k = nf ∧ Hid (CpF y w wr own ownr d q u (.slice Ad dn cd) w.heap.size (w.heap.size + 1) i bl gf vf (.map (some q.mn)) (.map (some q.ml)) (.slice Ac nc cc)))
  case atStart => exact ⟨0, _, [], none, _, rfl, by omega, HI⟩
  case round =>
    obtain ⟨i, ownr, bl, gf, vf, rfl, hi, HI1⟩ := hrel
    clear HI k3a
    by_cases hlt : i < nf
    · have hlt1 : (i : Int) < (nf : Int) := by omega
      have HII := Lib.hid hi
      have HLT0 := Lib.hid hlt
      obtain ⟨x, hx⟩ : ∃ x, d.nodes[i]? = some x := ⟨_, List.getElem?_eq_getElem (by rw [← HNF.out]; exact hlt)⟩
      have hDr := HD.out.below HI1.out.below
      obtain ⟨b, hb⟩ : ∃ b, q.bl[i]? = some b := ⟨_, List.getElem?_eq_getElem (by rw [hDr.rest.len, ← HNF.out]; exact hlt)⟩
      have hF := HD.out.rest.fs i b x hb hx
      have hok : NdOk x K := HW.out.nd x (List.mem_of_getElem? hx)
      have hX := hDr.rest.files
      rw [HDN.out.2.1] at hX
      have hfm := hX.form
      obtain ⟨gf0, of0, -, rfl, -, hcl, -⟩ := hX.at_ (by omega)
      have e0 : wr.cell? ⟨gf0, of0 + i, none⟩ = some (.pointer (some ⟨b, 0, none⟩)) := by
        have h1 : ((q.bl.map ptrV)[i]?) = some (ptrV b) := by rw [List.getElem?_map, hb]; rfl
        have h2 := (List.getElem?_eq_some_iff.1 h1).1
        rw [hcl i h2]
        exact h1
      have hbw := HI1.out.below
      obtain ⟨hmk, vn, gn, vl, gl, vw, gw, vs, hB, hN, hL, hW, hV, -⟩ := hF
      have HV : Hid (WrsV wr ownr vs x.waits) := Lib.hid (hV.goes (keep := fun _ => True) ⟨hbw.size, fun k hk _ => ⟨hbw.block k hk, HI1.out.old k hk⟩⟩ trivial)
      have hB := hB.keep hbw
      have hN := hN.below hbw
      have hL := hL.below hbw
      have hW := hW.below hbw fun k e => hW.lt e
      have H1 := wr_one _ x.waits hV.one
      have hwl : (wrRow vs x.waits).flatten.length ≤ 20000 := by rw [flat_len (wrRow_all _ _), wrRow_len hV.1]; have := hok.lw; omega
      obtain ⟨ln, hln⟩ : ∃ ln, x.now.length = ln := ⟨_, rfl⟩
      obtain ⟨ll, hll⟩ : ∃ ll, x.lasts.length = ll := ⟨_, rfl⟩
      have hlnb : ln ≤ 67108864 := by rw [← hln]; exact hok.ln
      have hllb : ll ≤ 67108864 := by rw [← hll]; exact hok.ll
      obtain ⟨An, cn, rfl, -⟩ := id hN
      obtain ⟨Al, cl, rfl, -⟩ := id hL
      obtain ⟨Aw, nw, cw, rfl, -⟩ := hW.sl
      rw [hln] at hN hB
      rw [hll] at hL hB
      have HC1 : Hid (∀ w', Below wr.heap.size wr w' → Calls Tryz.prog 37 #[.slice An ln cn] w' (CopyPost w' x.now)) := Lib.hid fun w' hb => clone_walk w' An x.now ln cn hln.symm ((hN.below hb).rb.1) (fun e => by rcases hN.rb.1 with h | ⟨_, _, h, -⟩; (rw [← hln, h]; rfl); (rw [e] at h; cases h)) (by omega)
      have HC2 : Hid (∀ w', Below wr.heap.size wr w' → Calls Tryz.prog 37 #[.slice Al ll cl] w' (CopyPost w' x.lasts)) := Lib.hid fun w' hb => clone_walk w' Al x.lasts ll cl hll.symm ((hL.below hb).rb.1) (fun e => by rcases hL.rb.1 with h | ⟨_, _, h, -⟩; (rw [← hll, h]; rfl); (rw [e] at h; cases h)) (by omega)
      have HC3 : Hid (∀ w', Below wr.heap.size wr w' → Calls Tryz.prog 74 #[.slice Aw nw cw] w' (ClonePost 2 w' (wrRow vs x.waits).flatten)) := Lib.hid fun w' hb => wclone_walk w' Aw nw cw gw _ (hW.below hb fun k e => hW.lt e) H1 (by omega)
      have HS : Hid (∀ w', Below wr.heap.size wr w' → w'.cell? ⟨b, 0, none⟩ = some (.slice An ln cn) ∧ w'.cell? ⟨b, 1, none⟩ = some (.slice Al ll cl) ∧ w'.cell? ⟨b, 2, none⟩ = some (.slice Aw nw cw)) := Lib.hid fun w' hb => ⟨(hB.keep hb).cell 0, (hB.keep hb).cell 1, (hB.keep hb).cell 2⟩
      obtain ⟨c0, c1, c2⟩ := HS.out wr (Below.refl _ _)
      have HX := Lib.hid hx
      have HB := Lib.hid hb
      have HBB := Lib.hid hB.cellsAt
      clear hDr hok hX hfm hcl hmk hB hN hL hW hV hbw H1 hwl hln hll hlnb hllb hx hb
      go_upto_region 7 with fail
      go_cut [7] from 27 to 43 (fun s7 wc => NewF wr x vs s7 wc)
      case first =>
        go_region_held3 (fun w' => w'.cell? ⟨b, 0, none⟩ = some (.slice An ln cn) ∧ w'.cell? ⟨b, 1, none⟩ = some (.slice Al ll cl) ∧ w'.cell? ⟨b, 2, none⟩ = some (.slice Aw nw cw))
          (first | exact HS.out _ (B3.out.alloc B3.out.size _) | exact HS.out _ B3.out | exact HS.out _ (bdrewN B3.out 1) | exact HS.out _ B2.out | exact HS.out _ (bdrewN B2.out 1) | exact HS.out _ B1.out | exact HS.out _ (bdrewN B1.out 1) | exact HS.out _ (Below.refl _ _) | exact HS.out _ (bdrewN (Below.refl _ _) 1))
          (first
          | (go_at_call 37; refine (HC1.out _ (by first | exact Below.refl _ _ | exact bdrewN (Below.refl _ _) 1)).mono ?_; rintro e wa ⟨hba, ga, va, rfl, hoa⟩; obtain ⟨Aa, ca, rfl, -⟩ := id hoa; have B1 : Hid (Below wr.heap.size wr wa) := Lib.hid ⟨hba.os, hba.tape, hba.output, hba.size, hba.block⟩; have O1 : Hid (OwnQ wa wr.heap.size ga _ x.now) := Lib.hid hoa; clear hba hoa)
          | (go_at_call 37; refine (HC2.out _ (by first | exact B1.out | exact bdrewN B1.out 1)).mono ?_; rintro e wb ⟨hbb, gb, vb, rfl, hob⟩; obtain ⟨Ab, cb, rfl, -⟩ := id hob; have B12 : Hid (Below wa.heap.size wa wb) := Lib.hid ⟨hbb.os, hbb.tape, hbb.output, hbb.size, hbb.block⟩; have B2 := Lib.hid (B1.out.trans (B12.out.mono B1.out.size)); have O2 : Hid (OwnQ wb wa.heap.size gb _ x.lasts) := Lib.hid hob; clear hbb hob)
          | (go_at_call 74; refine (HC3.out _ (by first | exact B2.out | exact bdrewN B2.out 1)).mono ?_; rintro e wc ⟨hbc, gc, vc, rfl, hoc, hfc⟩; obtain ⟨Ax, nx, cx, rfl, -⟩ := hoc.sl; have B23 : Hid (Below wb.heap.size wb wc) := Lib.hid ⟨hbc.os, hbc.tape, hbc.output, hbc.size, hbc.block⟩; have B3 := Lib.hid (B2.out.trans (B23.out.mono B2.out.size)); have O3 := Lib.hid hoc; have F3 : Hid (FromB wb.heap.size gc) := Lib.hid hfc; clear hbc hoc hfc))
        all_goals
          go_wp2_with fail
          go_meet
          case rel => exact ⟨wa, wb, wc, ga, _, gb, _, gc, _, B1.out, O1.out, B12.out, O2.out, B23.out, O3.out, F3.out, rfl, rfl⟩
      case rest =>
        obtain ⟨fb, f, rfl, hfb, hfs, hb4, hF, hf, hca⟩ := hcut.fst (z := y) (i := i) HV.out
        have hbw := HI1.out.below.trans (hb4.mono HI1.out.below.size)
        have hpm : PMap wc (w.heap.size + 1) (q.bl.take i) bl := HI1.out.pm.same (hb4.block _ HI1.out.pm.lt)
        obtain ⟨w5, hu5, hp5, hg5, hs5⟩ := hpm.update pmF (fun k hk => by
          obtain ⟨j, hj⟩ := List.mem_iff_getElem?.1 hk
          have hj2 := (List.getElem?_eq_some_iff.1 hj).1
          rw [List.getElem?_take_of_lt (by rw [List.length_take] at hj2; omega)] at hj
          exact HK.out j k wc hj hbw) (HK.out i b wc HB.out hbw) (v := fb) (fun hk => by
          obtain ⟨j, hj⟩ := List.mem_iff_getElem?.1 hk
          have hj2 := (List.getElem?_eq_some_iff.1 hj).1
          rw [List.getElem?_take_of_lt (by rw [List.length_take] at hj2; omega)] at hj
          have := HIN.out i j b HB.out hj
          rw [List.length_take] at hj2
          omega)
        have hr0 := HI1.out.row
        obtain ⟨Avf, nvf, cvf, rfl, -⟩ := hr0.sl
        have hgo : gf ≠ some (w.heap.size + 1) := fun e => by have h1 := HI1.out.mf _ e; rw [HI1.out.mo] at h1; simp at h1
        have hoc : (w.heap.size + 1 : Nat) ≠ w.heap.size := by omega
        have hr5 : OwnX 1 w5 gf (.slice Avf nvf cvf) (bl.map ptrV) := hr0.same (by have := hb4.size; omega) fun k e => (hg5.block k (Nat.lt_of_lt_of_le (hr0.lt e) hb4.size) (fun e2 => hgo (by rw [e, e2]))).trans (hb4.block k (hr0.lt e))
        have HA5 := Lib.hid (hr5.same (w' := w5.alloc (.cells #[ptrV fb] 70)) (by simp) fun k e => Below.heap_alloc w5 _ k (hr5.lt e))
        have HBL5 : Hid (Blk w5 w.heap.size 69 (cpC d u (.slice Ad dn cd) (.slice Avf nvf cvf) (.map (some q.mn)) (.map (some q.ml)) (.slice Ac nc cc))) := Lib.hid ((HI1.out.blk.keep hb4).grown hg5 (fun e => by injection e; omega))
        have k35 : w5.cell? ⟨w.heap.size, 3, none⟩ = some (.slice Avf nvf cvf) := HBL5.out.cell 3
        have HLB : Hid ((bl.map ptrV).length ≤ 10000) := Lib.hid (by rw [List.length_map, HI1.out.len]; have h1 := HNF.out; have h2 := HW.out.nk; omega)
        have HNW := Lib.hid (news_of w5 70 [ptrV fb])
        have HGC : Hid (gf ≠ some w.heap.size) := Lib.hid fun e => by have h1 := HI1.out.mf _ e; rw [HI1.out.mc] at h1; simp at h1
        have HST := Lib.hid (fun (w6 : World) (gf' : Option Nat) (vf' : Value) hX hg6 ho6 => HI1.out.step (o := .cells #[ptrV fb] 70) (w6 := w6) (gf' := gf') (vf' := vf') HB.out HX.out hfb hfs hb4 hF hf hp5 hg5 hs5 hX hg6 ho6)
        unfold ptrTo at hu5
        unfold ptrV at HA5 HNW HST ⊢
        have hib : i < 10000 := by have h1 := HNF.out; have h2 := HW.out.nk; have h3 := HLT0.out; omega
        clear hfb hfs hb4 hF hf hca hbw hpm hp5 hg5 hs5 hr0 hgo hoc hr5 c0 c1 c2 hcut
        go_wp2_with (at_builtin; refine wpList_appX _ uxF (.tmp 48) (.tmp 50) rfl rfl rfl HA5.out (some ⟨w5.heap.size, 0, none⟩) 1 1 rfl [.pointer (some ⟨fb, 0, none⟩)] rfl (fun h => by cases h) HNW.out (fun u hu => by obtain rfl := List.mem_singleton.1 hu; rfl) (by have := HLB.out; unfold ptrV at this; omega) ?_; intro v7 g7 w7 hX7 hG7 ho7; obtain ⟨A7, n7, c7, rfl, -⟩ := hX7.sl; have HX7 := Lib.hid hX7; have HG7 := Lib.hid hG7; have HO7 := Lib.hid ho7; have hB7 := (HBL5.out.alloc (.cells #[ptrV fb] 70)).grown hG7 (fun e => HGC.out e.symm); have k73 : w7.cell? ⟨w.heap.size, 3, none⟩ = some (.slice Avf nvf cvf) := hB7.cell 3; have fk7 := hB7.frozen 3; clear hX7 hG7 ho7 hB7)
        go_roundg (gk - 1)
        case rel => exact ⟨i + 1, _, bl ++ [fb], g7, _, by go_num, by have := HII.out; have := HLT0.out; omega, Lib.hid (HST.out _ _ _ HX7.out HG7.out HO7.out)⟩
        case measure => have := HII.out; have := HLT0.out; omega
    · have hlt1 : ¬ (i : Int) < (nf : Int) := by omega
      obtain rfl : i = nf := by omega
      clear hlt hlt1 hi
      have hmade := HI1.out.made (w6 := ((((wr.setCell ⟨w.heap.size, 4, none⟩ (.map (some wr.heap.size))).setCell ⟨w.heap.size, 5, none⟩ (.map (some (wr.heap.size + 1)))).alloc (.map #[] 0)).alloc (.map #[] 0))) rfl
      have kq4 : wr.cell? ⟨w.heap.size, 4, none⟩ = some (.map (some q.mn)) := HI1.out.blk.cell 4
      have kq5 : wr.cell? ⟨w.heap.size, 5, none⟩ = some (.map (some q.ml)) := HI1.out.blk.cell 5
      have fq4 := HI1.out.blk.frozen 4
      have fq5 := HI1.out.blk.frozen 5
      have hcl := HI1.out.blk.lt
      go_upto_region 12 with fail
      clear kq4 kq5 fq4 fq5 hcl HI1
      generalize ((((wr.setCell ⟨w.heap.size, 4, none⟩ (.map (some wr.heap.size))).setCell ⟨w.heap.size, 5, none⟩ (.map (some (wr.heap.size + 1)))).alloc (.map #[] 0)).alloc (.map #[] 0)) = w6 at *
      obtain ⟨own2, hM, hb6, hz, hs6⟩ := hmade
      generalize wr.heap.size = m1 at *
      generalize hm2 : m1 + 1 = m2 at *
      clear hm2
      have HM1 := Lib.hid hM
      have HZ := Lib.hid hz
      have HWS : Hid (w6.heap.size ≤ w6.heap.size) := Lib.hid (Nat.le_refl _)
      have k4d : w6.cell? ⟨db, 4, none⟩ = some (.map (some q.mn)) := (HCEL.out _ hb6).cell 4
      have HO1 := Lib.hid (HD.out.below hb6).rest.on
      have HSO : Hid (sortE d.now ∧ sortE d.lasts) := Lib.hid ⟨HW.out.sn, HW.out.sl⟩
      clear hM hb6 hz hs6
      go_wp2_with (at_range; refine wpList_range_own _ rfl _ 65 rfl 9 70 lawS Tryz.underlying65 ptrElem q.mn q.nn q.Dn rfl HO1.out ?_; intro w0 hrg0 hg0 hs0)
      go_frame
      have HR0 := Lib.hid hrg0
      have HM0 := Lib.hid (HM1.out.iter hg0 (fun r e => by cases e))
      have HRM : Hid (own2 w6.heap.size = (0, 0) ∧ w.heap.size ≤ w6.heap.size) := Lib.hid ⟨HZ.out _ HWS.out, HM1.out.f.below.size⟩
      have HW0 : Hid (w6.heap.size ≤ w0.heap.size) := Lib.hid (Nat.le_trans HWS.out hg0.size)
      clear hrg0 hg0 hs0 k4d
      go_loopg [8, 9, 63] (Maps.size q.Dn) (fun k s8 s9 s63 wr => ∃ (left : Lit → Bool) (nm : Nat) (Dm : DataW Unit), Hid (wr.ranges Tryz.prog 9 ptrElem q.mn w6.heap.size q.nn q.Dn left k) ∧ Hid (CpM y w wr own own2 d q u (.slice Ad dn cd) w.heap.size (w.heap.size + 1) i bl gf vf (.slice Ac nc cc) m1 nm Dm (d.now.filter fun e => !left (kL e.1)) m2 0 (.map []) []) ∧ nm + k ≤ 10000 ∧ Hid (∀ z, left z = true → Maps.has q.Dn z = true) ∧ Hid (w6.heap.size ≤ wr.heap.size))
      case atStart => exact ⟨Maps.has q.Dn, 0, .map [], HR0, by rw [HAS1.out]; exact HM0, by have := HSZ.out; omega, Lib.hid fun z h => h, HW0⟩
      case round =>
        obtain ⟨left, nm, Dm, HR, HM, hnm, HL, HWQ⟩ := hrel
        clear HR0 HM0 HW0
        go_wp2_with (at_next; refine wpList_next_ranges _ rfl _ rfl 9 lawS ptrElem stV mkP inv_mkS inv_mkP q.mn w6.heap.size q.nn q.Dn left gk rfl HR.out ?_ ?_)
        · intro hc0 hl0
          have HMF : Hid (CpM y w wr own own2 d q u (.slice Ad dn cd) w.heap.size (w.heap.size + 1) i bl gf vf (.slice Ac nc cc) m1 nm Dm d.now m2 0 (.map []) []) := Lib.hid (by
            have h1 := HM.out
            rw [filter_all (f := fun x => !left (kL x)) (fun e he => by simp only [hl0]; rfl)] at h1
            exact h1)
          have hnm2 : nm ≤ 10000 := by omega
          clear hc0 hl0 HR HM HL hnm
          obtain ⟨wz, rfl⟩ : ∃ wz, wz = wr := ⟨_, rfl⟩
          obtain ⟨n1, rfl⟩ : ∃ n1, n1 = nm := ⟨_, rfl⟩
          obtain ⟨D1, rfl⟩ : ∃ D1, D1 = Dm := ⟨_, rfl⟩
          have HWS := HWQ
          have HM2 := HMF
          have hb6 := HM2.out.f.below
          have k5d : wz.cell? ⟨db, 5, none⟩ = some (.map (some q.ml)) := (HCEL.out _ hb6).cell 5
          have HO2 := Lib.hid (HD.out.below hb6).rest.ol
          clear HMF HRM HWQ hb6
          go_wp2_with (at_range; refine wpList_range_own _ rfl _ 65 rfl 9 70 lawS Tryz.underlying65 ptrElem q.ml q.nl q.Dl rfl HO2.out ?_; intro w0 hrg0 hg0 hs0)
          go_frame
          have HR0 := Lib.hid hrg0
          have HM0 := Lib.hid (HM2.out.iter hg0 (fun r e => by cases e))
          have HRM : Hid (own2 wz.heap.size = (0, 0) ∧ w.heap.size ≤ wz.heap.size) := Lib.hid ⟨HZ.out _ HWS.out, HM2.out.f.below.size⟩
          have HW0 : Hid (w6.heap.size ≤ w0.heap.size) := Lib.hid (Nat.le_trans HWS.out hg0.size)
          clear hrg0 hg0 hs0 k5d
          go_loopg [10, 11, 79] (Maps.size q.Dl) (fun k s10 s11 s79 wr => ∃ (left : Lit → Bool) (nm : Nat) (Dm : DataW Unit), Hid (wr.ranges Tryz.prog 9 ptrElem q.ml wz.heap.size q.nl q.Dl left k) ∧ Hid (CpM y w wr own own2 d q u (.slice Ad dn cd) w.heap.size (w.heap.size + 1) i bl gf vf (.slice Ac nc cc) m1 n1 D1 d.now m2 nm Dm (d.lasts.filter fun e => !left (kL e.1))) ∧ nm + k ≤ 10000 ∧ Hid (∀ z, left z = true → Maps.has q.Dl z = true) ∧ Hid (w6.heap.size ≤ wr.heap.size))
          case atStart => exact ⟨Maps.has q.Dl, 0, .map [], HR0, by rw [HAS2.out]; exact HM0, by have := HSZ.out; omega, Lib.hid fun z h => h, HW0⟩
          case round =>
            obtain ⟨left, nm, Dm, HR, HM, hnm, HL, HWQ⟩ := hrel
            clear HR0 HM0 HW0
            go_wp2_with (at_next; refine wpList_next_ranges _ rfl _ rfl 9 lawS ptrElem stV mkP inv_mkS inv_mkP q.ml wz.heap.size q.nl q.Dl left gk rfl HR.out ?_ ?_)
            · intro hc0 hl0
              have HMF : Hid (CpM y w wr own own2 d q u (.slice Ad dn cd) w.heap.size (w.heap.size + 1) i bl gf vf (.slice Ac nc cc) m1 n1 D1 d.now m2 nm Dm d.lasts) := Lib.hid (by
                have h1 := HM.out
                rw [filter_all (f := fun x => !left (kL x)) (fun e he => by simp only [hl0]; rfl)] at h1
                exact h1)
              have hnm2 : nm ≤ 10000 := by omega
              clear hc0 hl0 HR HM HL hnm
              obtain ⟨wy, rfl⟩ : ∃ wy, wy = wr := ⟨_, rfl⟩
              obtain ⟨n2, rfl⟩ : ∃ n2, n2 = nm := ⟨_, rfl⟩
              obtain ⟨D2, rfl⟩ : ∃ D2, D2 = Dm := ⟨_, rfl⟩
              have HM3 := HMF
              have hb7 := HM3.out.f.below
              have k6d : wy.cell? ⟨db, 6, none⟩ = some (.slice Ac nc cc) := (HCEL.out _ hb7).cell 6
              have hchs := (HD.out.below hb7).rest.chs
              rw [HDN.out.2.2] at hchs
              have hcl4 : ((d.waits.map (chC q.bl)).flatten).length ≤ 40000 := by rw [flat_len (chs_all _ _), List.length_map]; have := HW.out.wk; omega
              have KC := Lib.hid (cclone_walk wy Ac nc cc q.gc _ hchs (ch_one _ _) (by omega))
              clear hb7 hchs hcl4 HMF HRM HWQ
              go_wp2_with fail
              refine KC.out.mono ?_
              rintro e w7 ⟨hb7, g7, v7, rfl, hX7, hF7⟩
              obtain ⟨A7, n7, c7, rfl, -⟩ := hX7.sl
              have hgc : g7 ≠ some w.heap.size := fun e => by have h1 := hF7 _ e; have h2 := HM3.out.f.blk.lt; omega
              have hm4 := HM3.out.chs hb7 (.slice A7 n7 c7)
              have hmk : ∀ k, g7 = some k → newM wy own2 (fun _ => (10 * y + 1, 4)) k = (10 * y + 1, 4) := fun k e => newM_new (hF7 k e)
              have HFG : Hid (∀ k, g7 = some k → w.heap.size ≤ k) := Lib.hid fun k e => Nat.le_trans HM3.out.f.below.size (hF7 k e)
              have HX8 : Hid (OwnX 4 (w7.setCell ⟨w.heap.size, 6, none⟩ (.slice A7 n7 c7)) g7 (.slice A7 n7 c7) (rowC bl q.bl d.waits 0).flatten) := Lib.hid (hX7.same (by simp) fun k e => Below.heap_setCell w7 ⟨w.heap.size, 6, none⟩ _ k (fun e2 => hgc (by rw [e]; exact congrArg some e2)))
              have HN7 : Hid (n7 = d.waits.length) := Lib.hid (by have := (hX7.count (by decide) (chs_all _ _)).1; rw [List.length_map] at this; exact this)
              have k66 : w7.cell? ⟨w.heap.size, 6, none⟩ = some (.slice Ac nc cc) := (HM3.out.f.blk.keep hb7).cell 6
              have f66 := (HM3.out.f.blk.keep hb7).frozen 6
              generalize newM wy own2 (fun _ => (10 * y + 1, 4)) = own3 at *
              have HM4 := Lib.hid hm4
              have HMK := Lib.hid hmk
              have hnb7 : n7 ≤ 10000 := by rw [HN7.out]; have := HW.out.wk; omega
              clear hb7 hX7 hF7 hgc hmk hm4
              go_upto_region 21 with fail
              generalize w7.setCell ⟨w.heap.size, 6, none⟩ (.slice A7 n7 c7) = w8 at *
              have k68 : w8.cell? ⟨w.heap.size, 6, none⟩ = some (.slice A7 n7 c7) := HM4.out.f.blk.cell 6
              clear k66 f66 KC
              go_wp2_with fail
              go_loopg [12, 99] n7 (fun k s12 s99 wr => ∃ i' : Nat, s99 = .int .i64 (i' : Int) ∧ i' + k = n7 ∧ Hid (CpM y w wr own own3 d q u (.slice Ad dn cd) w.heap.size (w.heap.size + 1) i bl gf vf (.slice A7 n7 c7) m1 n1 D1 d.now m2 n2 D2 d.lasts) ∧ Hid (OwnX 4 wr g7 (.slice A7 n7 c7) (rowC bl q.bl d.waits i').flatten))
              case atStart => exact ⟨0, rfl, by omega, HM4, HX8⟩
              case round =>
                obtain ⟨i', rfl, hi', HM, HX⟩ := hrel
                clear HM4 HX8 k68
                by_cases hlt : i' < n7
                · have hlt1 : (i' : Int) < (n7 : Int) := by omega
                  obtain ⟨c, hc⟩ : ∃ c, d.waits[i']? = some c := ⟨_, List.getElem?_eq_getElem (by rw [← HN7.out]; exact hlt)⟩
                  obtain ⟨-, -, -, -, g, off, hg, rfl, hgl, hcel⟩ := HX.out.elem (by decide) (rowC_all _ _ _ _) (rowC_at hc)
                  obtain ⟨P, hP⟩ := chP_pt q.bl c
                  obtain ⟨P', hP'⟩ := chP_pt bl c
                  have hlook : ∀ W : World, W.heap = wr.heap → Below w.heap.size w W → (Instr.lookup 107 (.map (some (w.heap.size + 1))) (.pointer P) false).run Tryz.prog W = .ok (.pointer P') W := fun W hW hbW => by
                    have hpm : PMap W (w.heap.size + 1) (q.bl.take i) bl := HM.out.f.pm.same (by rw [hW])
                    by_cases hk : c.kind = 1
                    · have hn := HW.out.iw c (List.mem_of_getElem? hc) hk
                      rw [← HNF.out] at hn
                      obtain ⟨bb, hbb⟩ : ∃ bb, q.bl[c.node]? = some bb := ⟨_, List.getElem?_eq_getElem (by rw [HD.out.rest.len, ← HNF.out]; exact hn)⟩
                      obtain ⟨fb, hfb⟩ : ∃ fb, bl[c.node]? = some fb := ⟨_, List.getElem?_eq_getElem (by rw [HM.out.f.len]; exact hn)⟩
                      unfold chP at hP hP'
                      rw [if_pos hk, hbb] at hP
                      rw [if_pos hk, hfb] at hP'
                      injection hP with hP
                      injection hP' with hP'
                      rw [← hP, ← hP']
                      exact hpm.look pmF (fun k2 hk2 => by
                        obtain ⟨j, hj⟩ := List.mem_iff_getElem?.1 hk2
                        have hj2 := (List.getElem?_eq_some_iff.1 hj).1
                        rw [List.getElem?_take_of_lt (by rw [List.length_take] at hj2; omega)] at hj
                        exact HK.out j k2 _ hj hbW) (i := c.node) (by rw [List.getElem?_take_of_lt hn]; exact hbb) hfb
                    · unfold chP at hP hP'
                      rw [if_neg hk] at hP hP'
                      injection hP with hP
                      injection hP' with hP'
                      rw [← hP, ← hP']
                      exact hpm.lookNil pmF
                  have k6 : wr.cell? ⟨w.heap.size, 6, none⟩ = some (.slice (some ⟨g, off, none⟩) n7 c7) := HM.out.f.blk.cell 6
                  obtain ⟨c3, f3⟩ := hcel 3 (by decide)
                  have c3 : wr.cell? ⟨g, off + i' * 4 + 3, none⟩ = some (.pointer P) := by rw [c3, ← hP]; rfl
                  have k6e : wr.drew.cell? ⟨w.heap.size, 6, none⟩ = some (.slice (some ⟨g, off, none⟩) n7 c7) := k6
                  have c3e : wr.drew.cell? ⟨g, off + i' * 4 + 3, none⟩ = some (.pointer P) := c3
                  have f3e : wr.drew.frozen? ⟨g, off + i' * 4 + 3, none⟩ = false := f3
                  have hl0 := hlook wr rfl HM.out.f.below
                  have hl1 := hlook wr.drew rfl (bdrewN HM.out.f.below 1)
                  have HI2 := Lib.hid hi'
                  have HCC := Lib.hid hc
                  have HPP := Lib.hid hP'
                  have HG := Lib.hid hg
                  clear hi' hc hP hP' hg hgl hcel hlt hlook
                  go_upto_region 24 with fail
                  go_region
                  all_goals
                    go_wp2_with fail
                    go_roundg (gk - 1)
                    case rel =>
                      refine ⟨i' + 1, by go_num, by have := HI2.out; omega, Lib.hid (HM.out.only (g := g) ⟨rfl, rfl, rfl, by simp, fun k hk hn => Below.heap_setCell wr ⟨g, off + i' * 4 + 3, none⟩ _ k (fun e => hn (by rw [e]))⟩ (HMK.out g HG.out) (HFG.out g HG.out)), Lib.hid ?_⟩
                      have h1 := HX.out.put_ (by decide) (rowC_all _ _ _ _) (rowC_at HCC.out) (j := 3) (by decide) (chP bl c)
                      rw [rowC_succ HCC.out, HPP.out] at h1
                      exact h1.same (Nat.le_refl _) fun _ _ => rfl
                    case measure => have := HI2.out; omega
                · have hlt1 : ¬ (i' : Int) < (n7 : Int) := by omega
                  obtain rfl : i' = n7 := by omega
                  have HXF : Hid (OwnX 4 wr g7 (.slice A7 i' c7) (d.waits.map (chC bl)).flatten) := Lib.hid (by have := HX.out; rw [HN7.out, rowC_full, ← HN7.out] at this; exact this)
                  clear hi' hlt hlt1
                  go_wp2_with fail
                  go_ret
                  exact ⟨w.heap.size, own3, Nat.le_refl _, HM.out.fin HNF.out HDD.out HU.out HXF.out HMK.out (by omega) (by omega), HM.out.f.old, HM.out.f.below, rfl⟩
            · intro p c kl y1 y2 w1 cnt1 hkey hlk hv hat hrg1 hlt hg1 hs1 hen
              obtain ⟨j, bj, hgj, hbj, rfl, rfl, hpl⟩ := HE2.out p c kl (y1, y2) hkey (HL.out _ hlk) hv hat
              have hM1 := HM.out.iter hg1 (fun r e => by injection e with e; rw [← e]; exact HRM.out)
              have hbw := hM1.f.below
              have hji : j < i := by
                have h1 := (List.getElem?_eq_some_iff.1 hbj).1
                rw [HD.out.rest.len, ← HNF.out] at h1
                exact h1
              obtain ⟨fb, hfb⟩ : ∃ fb, bl[j]? = some fb := ⟨_, List.getElem?_eq_getElem (by rw [hM1.f.len]; exact hji)⟩
              have hlook := hM1.f.pm.look pmF (fun k hk => by
                obtain ⟨j, hj⟩ := List.mem_iff_getElem?.1 hk
                have hj2 := (List.getElem?_eq_some_iff.1 hj).1
                rw [List.getElem?_take_of_lt (by rw [List.length_take] at hj2; omega)] at hj
                exact HK.out j k w1 hj hbw) (i := j) (a := bj) (v := fb) (by rw [List.getElem?_take_of_lt hji]; exact hbj) hfb
              obtain ⟨wa, ua, oa, ga⟩ := hM1.o2.update lawS Tryz.underlying65 (by unfold maxLen; omega) (keyS hpl) (ptrElem_mk fb)
              have hput := hM1.e2.put (hM1.o2.tidy lawS) (HSO.out.2.filter _) (fun e he => by rw [hM1.f.len, HNF.out]; exact HW.out.il e (List.mem_filter.1 he).1) hpl hfb
              rw [put_filter HSO.out.2 (f := fun q => !left (kL q)) (f' := fun q => !(left (kL q) && !(kL q).sameKey (kL p))) (fun q' => by
                by_cases hqp : q' = p
                · subst hqp
                  have : (kL q').sameKey (kL q') = true := WideAt.sameKey_self (kL_key q')
                  rw [this]
                  simp
                · have : (kL q').sameKey (kL p) = false := by
                    cases hs : (kL q').sameKey (kL p) with
                    | false => rfl
                    | true => exact absurd (kL_inj (WideAt.sameKey_eq hs)) hqp
                  rw [this]
                  simp [hqp]) hgj] at hput
              have HM2 := Lib.hid (hM1.put2 oa ga hput)
              have hmr : own2 m2 = (10 * y + 1, 3) := hM1.k2
              have HR2 := Lib.hid (hrg1.kept ga (fun e => by injection e with e; have h1 := hM1.l2; have h2 := HD.out.rest.ol.lt; omega) (fun e => by injection e with e; rw [← e, HRM.out.1] at hmr; simp at hmr))
              have HW2 : Hid (w6.heap.size ≤ wa.heap.size) := Lib.hid (Nat.le_trans HWQ.out (Nat.le_trans hg1.size ga.size))
              have HLT := Lib.hid hlt
              have HL1 : Hid (∀ z, (left z && !z.sameKey (kL p)) = true → Maps.has q.Dl z = true) := Lib.hid fun z h => HL.out z (by simp only [Bool.and_eq_true] at h; exact h.1)
              have kc : w1.cell? ⟨w.heap.size, 5, none⟩ = some (.map (some m2)) := hM1.f.blk.cell 5
              have hcn : nm + 1 + cnt1 ≤ 10000 := by omega
              dsimp only [mkP] at hen ⊢
              unfold ptrTo at hlook
              unfold ptrV at ua
              clear hkey hlk hv hat hrg1 hlt hg1 hs1 hgj hbj hpl hM1 hbw hji hfb oa ga hput hmr HR HM HL hnm HWQ
              unfold stV at *
              go_wp2_with fail
              go_roundg cnt1
              case rel => exact ⟨_, _, _, HR2, HM2, hcn, HL1, HW2⟩
              case measure => exact HLT.out
        · intro p c kl y1 y2 w1 cnt1 hkey hlk hv hat hrg1 hlt hg1 hs1 hen
          obtain ⟨j, bj, hgj, hbj, rfl, rfl, hpl⟩ := HE1.out p c kl (y1, y2) hkey (HL.out _ hlk) hv hat
          have hM1 := HM.out.iter hg1 (fun r e => by injection e with e; rw [← e]; exact HRM.out)
          have hbw := hM1.f.below
          have hji : j < i := by
            have h1 := (List.getElem?_eq_some_iff.1 hbj).1
            rw [HD.out.rest.len, ← HNF.out] at h1
            exact h1
          obtain ⟨fb, hfb⟩ : ∃ fb, bl[j]? = some fb := ⟨_, List.getElem?_eq_getElem (by rw [hM1.f.len]; exact hji)⟩
          have hlook := hM1.f.pm.look pmF (fun k hk => by
            obtain ⟨j, hj⟩ := List.mem_iff_getElem?.1 hk
            have hj2 := (List.getElem?_eq_some_iff.1 hj).1
            rw [List.getElem?_take_of_lt (by rw [List.length_take] at hj2; omega)] at hj
            exact HK.out j k w1 hj hbw) (i := j) (a := bj) (v := fb) (by rw [List.getElem?_take_of_lt hji]; exact hbj) hfb
          obtain ⟨wa, ua, oa, ga⟩ := hM1.o1.update lawS Tryz.underlying65 (by unfold maxLen; omega) (keyS hpl) (ptrElem_mk fb)
          have hput := hM1.e1.put (hM1.o1.tidy lawS) (HSO.out.1.filter _) (fun e he => by rw [hM1.f.len, HNF.out]; exact HW.out.iln e (List.mem_filter.1 he).1) hpl hfb
          rw [put_filter HSO.out.1 (f := fun q => !left (kL q)) (f' := fun q => !(left (kL q) && !(kL q).sameKey (kL p))) (fun q' => by
            by_cases hqp : q' = p
            · subst hqp
              have : (kL q').sameKey (kL q') = true := WideAt.sameKey_self (kL_key q')
              rw [this]
              simp
            · have : (kL q').sameKey (kL p) = false := by
                cases hs : (kL q').sameKey (kL p) with
                | false => rfl
                | true => exact absurd (kL_inj (WideAt.sameKey_eq hs)) hqp
              rw [this]
              simp [hqp]) hgj] at hput
          have HM2 := Lib.hid (hM1.put1 oa ga hput)
          have hmr : own2 m1 = (10 * y + 1, 2) := hM1.k1
          have HR2 := Lib.hid (hrg1.kept ga (fun e => by injection e with e; have h1 := hM1.l1; have h2 := HD.out.rest.on.lt; omega) (fun e => by injection e with e; rw [← e, HRM.out.1] at hmr; simp at hmr))
          have HW2 : Hid (w6.heap.size ≤ wa.heap.size) := Lib.hid (Nat.le_trans HWQ.out (Nat.le_trans hg1.size ga.size))
          have HLT := Lib.hid hlt
          have HL1 : Hid (∀ z, (left z && !z.sameKey (kL p)) = true → Maps.has q.Dn z = true) := Lib.hid fun z h => HL.out z (by simp only [Bool.and_eq_true] at h; exact h.1)
          have kc : w1.cell? ⟨w.heap.size, 4, none⟩ = some (.map (some m1)) := hM1.f.blk.cell 4
          have hcn : nm + 1 + cnt1 ≤ 10000 := by omega
          dsimp only [mkP] at hen ⊢
          unfold ptrTo at hlook
          unfold ptrV at ua
          clear hkey hlk hv hat hrg1 hlt hg1 hs1 hgj hbj hpl hM1 hbw hji hfb oa ga hput hmr HR HM HL hnm HWQ
          unfold stV at *
          go_wp2_with fail
          go_roundg cnt1
          case rel => exact ⟨_, _, _, HR2, HM2, hcn, HL1, HW2⟩
          case measure => exact HLT.out
/-- Copy -/
theorem copy_walk {z y db K : Nat} {w : World} {own : Nat → Nat × Nat} {d : Dk} (h : Disk z w own db d) (hw : Wf d K) (hK : K ≤ 10000) :
    Calls Tryz.prog 20 #[ptrV db] w (DupPost y w own d) := by
  obtain ⟨q, h⟩ := h
  obtain ⟨q', h2, h3, h4⟩ := h.norm hw (by omega)
  exact copy_walk0 h2 hw hK (by omega) (by omega)
end Go.Proofs.YtbpooaicmjkemaaGreatDoor

/-! The walk of the document's Copy. Conditions: the lengths. -/
namespace Go.Proofs.YtbpooaicmjkemaaGreatDoor
open Go.RowKit Go.Maps
set_option linter.unusedVariables false
/-- the cells of the copy's own block -/
def rcC (d : Dk) (vd vn ve vl vc : Value) : Array Value :=
  #[.int .i64 d.quota, vd, vn, ve, vl, vc, .bool d.off, .int .i64 d.done, .int .i64 (d.arm : Int), .int .i64 (d.fail : Int), .int .i64 d.failed]
structure RcI (z : Nat) (w wr : World) (own ownr : Nat → Nat × Nat) (d : Dk) (q : RParts) (cb i : Nat) (ms : List NdV) (gn : Option Nat) (vd vn ve vl vc : Value) : Prop where
  below : Below w.heap.size w wr
  old : ∀ k, k < w.heap.size → ownr k = own k
  blk : Blk wr cb 114 (rcC d vd vn ve vl vc)
  mc : ownr cb = (10 * z + 1, 0)
  nodes : OwnX 3 wr gn vn (ms.map ndC).flatten
  mn : ∀ k, gn = some k → ownr k = (10 * z + 1, 1)
  ln : FromB w.heap.size gn
  len : ms.length = q.ms.length
  dn : ∀ (j : Nat) (m : NdV) (x : Nd), j < i → ms[j]? = some m → d.nodes[j]? = some x → RNd z wr ownr j m x
  td : ∀ j, i ≤ j → ms[j]? = q.ms[j]?
  lc : w.heap.size ≤ cb
section
variable {z y : Nat} {w wr w2 w4 : World} {own ownr : Nat → Nat × Nat} {d : Dk} {q : RParts} {cb i : Nat} {ms : List NdV} {gn : Option Nat} {vd vn ve vl vc : Value}
theorem RcI.start (hb : Below (w.alloc (.cells (rcC d vd vn ve vl vc) 114)).heap.size (w.alloc (.cells (rcC d vd vn ve vl vc) 114)) w2) {g : Option Nat} {v : Value} (hX : OwnX 3 w2 g v (q.ms.map ndC).flatten) (hg : FromB (w.heap.size + 1) g) :
    RcI z w (w2.setCell ⟨w.heap.size, 2, none⟩ v) own (newM w own fun k => if k = w.heap.size then (10 * z + 1, 0) else (10 * z + 1, 1)) d q w.heap.size 0 q.ms g vd v ve vl vc := by
  have hB := (Blk.new w 114 (rcC d vd vn ve vl vc)).keep hb
  have hs : (w.alloc (.cells (rcC d vd vn ve vl vc) 114)).heap.size = w.heap.size + 1 := by simp
  refine ⟨(((Below.refl _ w).alloc (Nat.le_refl _) _).trans (hb.mono (by simp))).setCell (Nat.le_refl _) _, fun k hk => newM_old hk, hB.set_ 2 v, ?_, hX.same (by simp) fun k e => Below.heap_setCell w2 ⟨w.heap.size, 2, none⟩ v k (fun e2 => by have h1 := hg k e; have e2 : k = w.heap.size := e2; omega), fun k e => ?_, fun k e => Nat.le_trans (Nat.le_succ _) (hg k e), rfl, fun j m x hj => absurd hj (by omega), fun j _ => rfl, Nat.le_refl _⟩
  · rw [newM_new (Nat.le_refl _), if_pos rfl]
  · have := hg k e
    rw [newM_new (by omega), if_neg (by omega)]
theorem RcI.step (h : RcI z w wr own ownr d q cb i ms gn vd vn ve vl vc) (hd : RRest y w own d q) {m : NdV} {x : Nd} (hm : q.ms[i]? = some m) (hx : d.nodes[i]? = some x) (hb : Below wr.heap.size wr w4) {g4 : Option Nat} {v4 : Value} (hX : OwnX 2 w4 g4 v4 (wrRow m.vs x.waits).flatten) (hg4 : FromB wr.heap.size g4)
    {g off n c : Nat} (hg : gn = some g) (hv : vn = .slice (some ⟨g, off, none⟩) n c) :
    RcI z w (w4.setCell ⟨g, off + i * 3 + 2, none⟩ v4) own (newM wr ownr fun _ => (10 * z + 5, i)) d q cb (i + 1) (ms.set i { m with vw := v4, gw := g4 }) gn vd vn ve vl vc := by
  have hcb := h.blk.lt
  have hgl := h.nodes.lt hg
  have hgw := h.ln g hg
  have hgc : g ≠ cb := fun e => by have h1 := h.mn g hg; rw [e, h.mc] at h1; simp at h1
  have hmi : ms[i]? = some m := (h.td i (Nat.le_refl _)).trans hm
  have st : ∀ k, k < wr.heap.size → k ≠ g → (w4.setCell ⟨g, off + i * 3 + 2, none⟩ v4).heap[k]? = wr.heap[k]? := fun k hk hn => (Below.heap_setCell w4 ⟨g, off + i * 3 + 2, none⟩ v4 k hn).trans (hb.block k hk)
  have hbw : Below w.heap.size w (w4.setCell ⟨g, off + i * 3 + 2, none⟩ v4) := (h.below.trans (hb.mono h.below.size)).setCell hgw _
  have hold : ∀ k, k < w.heap.size → newM wr ownr (fun _ => (10 * z + 5, i)) k = own k := fun k hk => (newM_old (Nat.lt_of_lt_of_le hk h.below.size)).trans (h.old k hk)
  have gr : Goes (fun t => t.1 ≠ 10 * z + 1) wr (w4.setCell ⟨g, off + i * 3 + 2, none⟩ v4) ownr (newM wr ownr fun _ => (10 * z + 5, i)) := ⟨by simpa using hb.size, fun k hk hn => ⟨st k hk fun e => hn (by rw [e, h.mn g hg]), newM_old hk⟩⟩
  have g0 : Goes (fun _ => True) w (w4.setCell ⟨g, off + i * 3 + 2, none⟩ v4) own (newM wr ownr fun _ => (10 * z + 5, i)) := ⟨hbw.size, fun k hk _ => ⟨hbw.block k hk, hold k hk⟩⟩
  have hnd := hd.nd i m x hm hx
  have h4 : OwnX 3 w4 gn vn (ms.map ndC).flatten := h.nodes.below hb fun k e => h.nodes.lt e
  have hput := (hv ▸ h4).put_ (by decide) (nd_all ms) (i := i) (r := ndC m) (by rw [List.getElem?_map, hmi]; rfl) (j := 2) (by decide) v4
  have hset : (ms.map ndC).set i ((ndC m).set 2 v4) = (ms.set i { m with vw := v4, gw := g4 }).map ndC := by rw [List.map_set]; rfl
  rw [hset] at hput
  refine ⟨hbw, hold, (h.blk.keep hb).at_ (Below.heap_setCell w4 ⟨g, off + i * 3 + 2, none⟩ v4 cb (fun e => hgc e.symm)), (newM_old hcb).trans h.mc, hv ▸ hput, fun k e => (newM_old (h.nodes.lt e)).trans (h.mn k e), h.ln, by rw [List.length_set]; exact h.len, fun j m' x' hj hm' hx' => ?_, fun j hj => ?_, h.lc⟩
  · by_cases hji : i = j
    · subst hji
      rw [List.getElem?_set_self (List.getElem?_eq_some_iff.1 hmi).1] at hm'
      obtain rfl := Option.some.inj hm'
      rw [hx] at hx'
      obtain rfl := Option.some.inj hx'
      refine ⟨hnd.now.goes g0 trivial, hnd.lasts.goes g0 trivial, hX.same (by simp) fun k e => Below.heap_setCell w4 ⟨g, off + i * 3 + 2, none⟩ v4 k (fun e2 => by have h1 := hg4 k e; have e2 : k = g := e2; omega), hnd.wrs.goes g0 trivial, fun k e => newM_new (hg4 k e)⟩
    · rw [List.getElem?_set_ne hji] at hm'
      exact (h.dn j m' x' (by omega) hm' hx').goes gr frz_ne (by simp)
  · rw [List.getElem?_set_ne (by omega)]
    exact h.td j (by omega)
theorem RcI.fin (h : RcI z w wr own ownr d q cb i ms gn q.vd vn q.ve q.vl vc) (hi : i = d.nodes.length) (hd : RRest y w own d q) (hb : Below wr.heap.size wr w4) {g4 : Option Nat} {v4 : Value} (hX : OwnX 4 w4 g4 v4 (d.waits.map rcV).flatten) (hg4 : FromB wr.heap.size g4) :
    RDisk z (w4.setCell ⟨cb, 5, none⟩ v4) (newM wr ownr fun _ => (10 * z + 1, 4)) cb d ∧ (∀ k, k < w.heap.size → newM wr ownr (fun _ => (10 * z + 1, 4)) k = own k) ∧ Below w.heap.size w (w4.setCell ⟨cb, 5, none⟩ v4) := by
  have hcb := h.blk.lt
  have st : ∀ k, k < wr.heap.size → k ≠ cb → (w4.setCell ⟨cb, 5, none⟩ v4).heap[k]? = wr.heap[k]? := fun k hk hn => (Below.heap_setCell w4 ⟨cb, 5, none⟩ v4 k hn).trans (hb.block k hk)
  have hbw : Below w.heap.size w (w4.setCell ⟨cb, 5, none⟩ v4) := (h.below.trans (hb.mono h.below.size)).setCell h.lc _
  have hold : ∀ k, k < w.heap.size → newM wr ownr (fun _ => (10 * z + 1, 4)) k = own k := fun k hk => (newM_old (Nat.lt_of_lt_of_le hk h.below.size)).trans (h.old k hk)
  have gr : Goes (fun t => t ≠ (10 * z + 1, 0)) wr (w4.setCell ⟨cb, 5, none⟩ v4) ownr (newM wr ownr fun _ => (10 * z + 1, 4)) := ⟨by simpa using hb.size, fun k hk hn => ⟨st k hk fun e => hn (by rw [e, h.mc]), newM_old hk⟩⟩
  have g0 : Goes (fun _ => True) w (w4.setCell ⟨cb, 5, none⟩ v4) own (newM wr ownr fun _ => (10 * z + 1, 4)) := ⟨hbw.size, fun k hk _ => ⟨hbw.block k hk, hold k hk⟩⟩
  refine ⟨⟨⟨q.vd, vn, gn, ms, q.ve, q.vl, v4, g4⟩, ⟨(h.blk.keep hb).set_ 5 v4, (newM_old hcb).trans h.mc, ⟨hd.dirs.goes g0 trivial, h.nodes.same gr.size fun k e => (gr.block k (h.nodes.lt e) (by rw [h.mn k e]; simp)).1, fun k e => (newM_old (h.nodes.lt e)).trans (h.mn k e), h.len.trans hd.len, hd.now.goes g0 trivial, hd.lasts.goes g0 trivial, hX.same (by simp) fun k e => Below.heap_setCell w4 ⟨cb, 5, none⟩ v4 k (fun e2 => by have h1 := hg4 k e; have e2 : k = cb := e2; omega), fun k e => newM_new (hg4 k e), fun j m x hm hx => ?_⟩⟩⟩, hold, hbw⟩
  have hj : j < i := by rw [hi]; exact (List.getElem?_eq_some_iff.1 hx).1
  exact (h.dn j m x hj hm hx).goes gr (by unfold frz; simp) (by simp)
end
def RDupPost (z : Nat) (w : World) (own : Nat → Nat × Nat) (d : Dk) (e : Ending) (w' : World) : Prop :=
  ∃ cb own', w.heap.size ≤ cb ∧ RDisk z w' own' cb d ∧ (∀ k, k < w.heap.size → own' k = own k) ∧ Below w.heap.size w w' ∧ e = .returned (ptrV cb)
theorem nd_one {m : NdV} {z i : Nat} {w : World} {own : Nat → Nat × Nat} {x : Nd} (h : RNd z w own i m x) : ∀ u ∈ ndC m, u.oneCell' = true := by
  obtain ⟨_, _, e1, -⟩ := h.now
  obtain ⟨_, _, e2, -⟩ := h.lasts
  obtain ⟨_, _, _, e3, -⟩ := h.wts.sl
  intro u hu
  unfold ndC at hu
  simp only [List.mem_cons, List.not_mem_nil, or_false] at hu
  rcases hu with rfl | rfl | rfl
  · rw [e1]; rfl
  · rw [e2]; rfl
  · rw [e3]; rfl
theorem RRest.one {z : Nat} {w : World} {own : Nat → Nat × Nat} {d : Dk} {q : RParts} (h : RRest z w own d q) : ∀ u ∈ (q.ms.map ndC).flatten, u.oneCell' = true := by
  intro u hu
  obtain ⟨r, hr, hu⟩ := List.mem_flatten.1 hu
  obtain ⟨m, hm, rfl⟩ := List.mem_map.1 hr
  obtain ⟨j, hj⟩ := List.mem_iff_getElem?.1 hm
  have hl := (List.getElem?_eq_some_iff.1 hj).1
  rw [h.len] at hl
  exact nd_one (h.nd j m _ hj (List.getElem?_eq_getElem hl)) u hu
theorem rc_ones (L : List Ch) : ∀ u ∈ (L.map rcV).flatten, u.oneCell' = true := by
  intro u hu
  obtain ⟨r, hr, hu⟩ := List.mem_flatten.1 hu
  obtain ⟨c, -, rfl⟩ := List.mem_map.1 hr
  exact rc_one c u hu
set_option maxRecDepth 100000 in
set_option maxHeartbeats 2000000 in
theorem rcopy_walk0 {z y db K : Nat} {w : World} {own : Nat → Nat × Nat} {d : Dk} {q : RParts} (h : RSt z w own db d q) (hw : Wf d K) (hK : K ≤ 10000) :
    Calls Tryz.prog 21 #[ptrV db] w (RDupPost y w own d) := by
  obtain ⟨Ad, cd, hvd, -⟩ := h.rest.dirs
  obtain ⟨An, nn, cn, hvn, hnn0, hcn, hmn⟩ := h.rest.nodes.sl
  obtain ⟨Ae, ce, hve, -⟩ := h.rest.now
  obtain ⟨Al, cl, hvl, -⟩ := h.rest.lasts
  obtain ⟨Ac, nc, cc, hvc, hnc0, hcc, hmc⟩ := h.rest.chs.sl
  have HD := Lib.hid h
  have HW := Lib.hid hw
  have HDN := Lib.hid (⟨hvd, hvn, hve, hvl, hvc⟩ : q.vd = .slice Ad d.dirs.length cd ∧ q.vn = .slice An nn cn ∧ q.ve = .slice Ae d.now.length ce ∧ q.vl = .slice Al d.lasts.length cl ∧ q.vc = .slice Ac nc cc)
  obtain ⟨dn, hdn⟩ : ∃ dn, d.dirs.length = dn := ⟨_, rfl⟩
  obtain ⟨en, hen⟩ : ∃ en, d.now.length = en := ⟨_, rfl⟩
  obtain ⟨el, hel⟩ : ∃ el, d.lasts.length = el := ⟨_, rfl⟩
  rw [hdn, hen, hel] at HDN
  have HCEL : Hid (∀ w', Below w.heap.size w w' → Blk w' db 114 #[.int .i64 d.quota, .slice Ad dn cd, .slice An nn cn, .slice Ae en ce, .slice Al el cl, .slice Ac nc cc, .bool d.off, .int .i64 d.done, .int .i64 (d.arm : Int), .int .i64 (d.fail : Int), .int .i64 d.failed]) := Lib.hid fun w' hb => by
    have := h.blk.keep hb
    unfold RParts.cells at this
    rw [hvd, hvn, hve, hvl, hvc, hdn, hen, hel] at this
    exact this
  have hb0 := HCEL.out w (Below.refl _ _)
  have k0 : w.cell? ⟨db, 0, none⟩ = some (.int .i64 d.quota) := hb0.cell 0
  have k1 : w.cell? ⟨db, 1, none⟩ = some (.slice Ad dn cd) := hb0.cell 1
  have k2 : w.cell? ⟨db, 2, none⟩ = some (.slice An nn cn) := hb0.cell 2
  have k3 : w.cell? ⟨db, 3, none⟩ = some (.slice Ae en ce) := hb0.cell 3
  have k4 : w.cell? ⟨db, 4, none⟩ = some (.slice Al el cl) := hb0.cell 4
  have k5 : w.cell? ⟨db, 5, none⟩ = some (.slice Ac nc cc) := hb0.cell 5
  have k6 : w.cell? ⟨db, 6, none⟩ = some (.bool d.off) := hb0.cell 6
  have k7 : w.cell? ⟨db, 7, none⟩ = some (.int .i64 d.done) := hb0.cell 7
  have k8 : w.cell? ⟨db, 8, none⟩ = some (.int .i64 (d.arm : Int)) := hb0.cell 8
  have k9 : w.cell? ⟨db, 9, none⟩ = some (.int .i64 (d.fail : Int)) := hb0.cell 9
  have k10 : w.cell? ⟨db, 10, none⟩ = some (.int .i64 d.failed) := hb0.cell 10
  have hnnl : nn = d.nodes.length := by
    rw [flat_len (nd_all _), List.length_map] at hnn0
    have := h.rest.len
    omega
  have HNF := Lib.hid hnnl
  have hnb : nn ≤ 10000 := by rw [hnnl]; have := hw.nk; omega
  have HX0 : Hid (OwnX 3 w q.gn (.slice An nn cn) (q.ms.map ndC).flatten) := Lib.hid (by rw [← hvn]; exact h.rest.nodes)
  have HL0 : Hid ((q.ms.map ndC).flatten.length ≤ 30000) := Lib.hid (by rw [hnn0]; omega)
  have HON := Lib.hid h.rest.one
  have hba := (Below.refl w.heap.size w).alloc (Nat.le_refl _) (.cells (rcC d (.slice Ad dn cd) (.slice An nn cn) (.slice Ae en ce) (.slice Al el cl) (.slice Ac nc cc)) 114)
  have hsa : (w.alloc (.cells (rcC d (.slice Ad dn cd) (.slice An nn cn) (.slice Ae en ce) (.slice Al el cl) (.slice Ac nc cc)) 114)).heap.size = w.heap.size + 1 := by simp
  have HSA := Lib.hid hsa
  have HBA := Lib.hid hba
  have HBB := Lib.hid ((Below.refl (w.alloc (.cells (rcC d (.slice Ad dn cd) (.slice An nn cn) (.slice Ae en ce) (.slice Al el cl) (.slice Ac nc cc)) 114)).heap.size _).alloc (Nat.le_refl _) (.cells #[] 117))
  have HXB := Lib.hid ((HX0.out.below hba fun k e => HX0.out.lt e).below HBB.out fun k e => by have := HX0.out.lt e; rw [hsa]; omega)
  have HKB := Lib.hid ((Blk.new w 114 (rcC d (.slice Ad dn cd) (.slice An nn cn) (.slice Ae en ce) (.slice Al el cl) (.slice Ac nc cc))).keep HBB.out)
  unfold rcC at HXB HKB HBB HSA HBA
  clear hvd hvn hve hvl hvc hnn0 hcn hmn hnc0 hcc hmc hdn hen hel hb0 h hw hba hsa hnnl
  unfold ptrV
  go_enter Tryz.func21, Tryz.ntmps21
  go_upto_region 2 with fail
  have HST0 : Hid (∀ (w2 : World) (g : Option Nat) (v : Value), Below (w.alloc (.cells (rcC d (.slice Ad dn cd) (.slice An nn cn) (.slice Ae en ce) (.slice Al el cl) (.slice Ac nc cc)) 114)).heap.size (w.alloc (.cells (rcC d (.slice Ad dn cd) (.slice An nn cn) (.slice Ae en ce) (.slice Al el cl) (.slice Ac nc cc)) 114)) w2 → OwnX 3 w2 g v (q.ms.map ndC).flatten → FromB (w.heap.size + 1) g →
      RcI y w (w2.setCell ⟨w.heap.size, 2, none⟩ v) own (newM w own fun k => if k = w.heap.size then (10 * y + 1, 0) else (10 * y + 1, 1)) d q w.heap.size 0 q.ms g (.slice Ad dn cd) v (.slice Ae en ce) (.slice Al el cl) (.slice Ac nc cc)) := Lib.hid fun w2 g v hb hX hg => RcI.start hb hX hg
  unfold rcC at HST0
  generalize w.alloc (.cells #[.int .i64 d.quota, .slice Ad dn cd, .slice An nn cn, .slice Ae en ce, .slice Al el cl, .slice Ac nc cc, .bool d.off, .int .i64 d.done, .int .i64 (d.arm : Int), .int .i64 (d.fail : Int), .int .i64 d.failed] 114) = w1 at *
  have hdbl := World.block_lt_of_cell? _ _ k2
  have hbdb := HBA.out.size
  have k2a : w1.cell? ⟨db, 2, none⟩ = some (.slice An nn cn) := (HCEL.out _ HBA.out).cell 2
  have k2b : (w1.alloc (.cells #[] 117)).cell? ⟨db, 2, none⟩ = some (.slice An nn cn) := (HCEL.out _ (HBA.out.alloc HBA.out.size _)).cell 2
  clear k0 k1 k2 k3 k4 k5 k6 k7 k8 k9 k10
  go_wp2_with (at_builtin; refine wpList_appX _ uxN (.tmp 8) (.tmp 12) rfl rfl rfl (OwnX.nil _ _) An nn cn rfl (q.ms.map ndC).flatten HXB.out.form.1 HXB.out.news1.1 HXB.out.news1.2 HON.out (by have := HXB.out.form.1; have := HL0.out; simp; omega) ?_; intro v2 g2 w2 hX2 hG2 ho2; rw [List.nil_append] at hX2; obtain ⟨A2, n2, c2, rfl, -⟩ := hX2.sl; have HX2 := Lib.hid hX2; have HB2 := Lib.hid (belowX HBB.out hG2 (fun k e => by cases e) (by simp)); have HG2 : Hid (FromB (w.heap.size + 1) g2) := Lib.hid (fun k e => by have := HSA.out; rcases ho2 with h | h <;> (rw [h] at e; cases e); simp; omega); have hk2 := HKB.out.grown hG2 (fun e => by cases e); have k22 : w2.cell? ⟨w.heap.size, 2, none⟩ = some (.slice An nn cn) := hk2.cell 2; have f22 := hk2.frozen 2; clear hX2 hG2 ho2 hk2)
  have HI0 := Lib.hid (HST0.out w2 g2 _ HB2.out HX2.out HG2.out)
  have HN2 : Hid (n2 = nn) := Lib.hid (by have h1 := (HX2.out.count (by decide) (nd_all _)).1; rw [List.length_map, HD.out.rest.len] at h1; rw [h1, HNF.out])
  obtain rfl := HN2.out
  clear k2a k2b k22 f22 HB2 HX2 HG2 HST0 HKB HXB HBB HSA HBA hdbl hbdb
  generalize w2.setCell ⟨w.heap.size, 2, none⟩ (.slice A2 n2 c2) = w3 at *
  go_loopg [4] n2 (fun k s4 wr => ∃ (i : Nat) (ownr : Nat → Nat × Nat) (ms : List NdV), s4 = .int .i64 (i : Int) ∧ i + k = n2 ∧ Hid (RcI y w wr own ownr d q w.heap.size i ms g2 (.slice Ad dn cd) (.slice A2 n2 c2) (.slice Ae en ce) (.slice Al el cl) (.slice Ac nc cc)))
  case atStart => exact ⟨0, _, _, rfl, by omega, HI0⟩
  case round =>
    obtain ⟨i, ownr, ms, rfl, hi, HI⟩ := hrel
    clear HI0
    have kc2 : wr.cell? ⟨w.heap.size, 2, none⟩ = some (.slice A2 n2 c2) := HI.out.blk.cell 2
    by_cases hlt : i < n2
    · have hlt1 : (i : Int) < (n2 : Int) := by omega
      obtain ⟨x, hx⟩ : ∃ x, d.nodes[i]? = some x := ⟨_, List.getElem?_eq_getElem (by rw [← HNF.out]; exact hlt)⟩
      have hbw := HI.out.below
      obtain ⟨m, g, off, nq, cq, hm, hg, hvn, hnn, hnc, hgl, n0, n1, nx2, hN⟩ := HD.out.rest.ndAt hx
      rw [HDN.out.2.1] at hvn
      injection hvn with hA hn' hc'
      subst hA hn' hc'
      obtain ⟨Aw, nw, cw, hvw, -⟩ := hN.wts.sl
      have hok : NdOk x K := HW.out.nd x (List.mem_of_getElem? hx)
      have hwts : OwnX 2 wr m.gw (.slice Aw nw cw) (wrRow m.vs x.waits).flatten := by rw [← hvw]; exact hN.wts.below hbw fun k e => hN.wts.lt e
      have hwl : (wrRow m.vs x.waits).flatten.length ≤ 20000 := by rw [flat_len (wrRow_all _ _), wrRow_len hN.wrs.1]; have := hok.lw; omega
      have hwo := wr_one m.vs x.waits hN.wrs.one
      have q0 : wr.cell? ⟨g, off + i * 3 + 2, none⟩ = some (.slice Aw nw cw) := by rw [← hvw]; exact (hbw.cell (p := ⟨g, off + i * 3 + 2, none⟩) hgl).trans nx2
      have hglr : g < wr.heap.size := Nat.lt_of_lt_of_le hgl hbw.size
      have kd2 : wr.cell? ⟨db, 2, none⟩ = some (.slice (some ⟨g, off, none⟩) n2 cn) := (HCEL.out _ hbw).cell 2
      have hdbr : db < wr.heap.size := World.block_lt_of_cell? _ _ kd2
      have hcbr : w.heap.size < wr.heap.size := HI.out.blk.lt
      have hmi : ms[i]? = some m := (HI.out.td i (Nat.le_refl _)).trans hm
      obtain ⟨-, -, -, -, gk2, o2, hg2, hA2, hgl2, hcl2⟩ := HI.out.nodes.elem (by decide) (nd_all _) (i := i) (r := ndC m) (by rw [List.getElem?_map, hmi]; rfl)
      subst hA2
      obtain ⟨t2, ft2⟩ := hcl2 2 (by decide)
      have t2 : wr.cell? ⟨gk2, o2 + i * 3 + 2, none⟩ = some (.slice Aw nw cw) := by rw [t2, ← hvw]; rfl
      have hba := (Below.refl wr.heap.size wr).alloc (Nat.le_refl _) (.cells #[] 135)
      have kc2a : (wr.alloc (.cells #[] 135)).drew.cell? ⟨w.heap.size, 2, none⟩ = some (.slice (some ⟨gk2, o2, none⟩) n2 c2) := (hba.cell (p := ⟨w.heap.size, 2, none⟩) hcbr).trans kc2
      have kd2a : (wr.alloc (.cells #[] 135)).drew.cell? ⟨db, 2, none⟩ = some (.slice (some ⟨g, off, none⟩) n2 cn) := (hba.cell (p := ⟨db, 2, none⟩) hdbr).trans kd2
      have q0a : (wr.alloc (.cells #[] 135)).drew.cell? ⟨g, off + i * 3 + 2, none⟩ = some (.slice Aw nw cw) := (hba.cell (p := ⟨g, off + i * 3 + 2, none⟩) hglr).trans q0
      have hxa : OwnX 2 (wr.alloc (.cells #[] 135)).drew m.gw (.slice Aw nw cw) (wrRow m.vs x.waits).flatten := (hwts.below hba fun k e => hwts.lt e).same (Nat.le_refl _) fun _ _ => rfl
      obtain ⟨v4, g4, w4, hrun, hX4, hG4, ho4⟩ := run_appX (P := Tryz.prog) (wr.alloc (.cells #[] 135)).drew uxY 115 (OwnX.nil _ (some ⟨wr.heap.size, 0, none⟩)) Aw nw cw (wrRow m.vs x.waits).flatten hxa.form.1 hxa.news1.1 hxa.news1.2 hwo (by have := hxa.form.1; simp; omega)
      rw [List.nil_append] at hX4
      have hb4 : Below wr.heap.size wr w4 := belowX (w1 := (wr.alloc (.cells #[] 135)).drew) ⟨hba.os, hba.tape, hba.output, hba.size, hba.block⟩ hG4 (fun k h => by cases h) hba.size
      have ho4' : FromB wr.heap.size g4 := fun k hk => by
        rcases ho4 with h | h
        · rw [h] at hk; cases hk
        · rw [h] at hk; cases hk; exact hba.size
      have kc2b : w4.cell? ⟨w.heap.size, 2, none⟩ = some (.slice (some ⟨gk2, o2, none⟩) n2 c2) := (hb4.cell (p := ⟨w.heap.size, 2, none⟩) hcbr).trans kc2
      have t2b : w4.cell? ⟨gk2, o2 + i * 3 + 2, none⟩ = some (.slice Aw nw cw) := (hb4.cell (p := ⟨gk2, o2 + i * 3 + 2, none⟩) hgl2).trans t2
      have f2b : w4.frozen? ⟨gk2, o2 + i * 3 + 2, none⟩ = false := (World.frozen?_of_block (hb4.block gk2 hgl2)).trans ft2
      obtain ⟨A4, n4, c4, rfl, -⟩ := hX4.sl
      have HRUN := Lib.hid hrun
      have HFIN := Lib.hid (HI.out.step HD.out.rest hm hx hb4 hX4 ho4' hg2 rfl)
      have HII := Lib.hid hi
      have HLT := Lib.hid hlt
      clear hi hlt hx hbw hm hg hnn hnc hgl n0 n1 nx2 hN hvw hok hwts hwl hwo hglr hdbr hcbr hmi hg2 hgl2 hcl2 ft2 t2 hba hxa hrun hX4 hG4 ho4 hb4 ho4'
      go_upto_region 6 with fail
      have hib : i < 10000 := by have h1 := HLT.out; omega
      clear hnb
      go_region_law (refine step_appR (P := Tryz.prog) rfl (.tmp 25) (.tmp 33) (by rfl) rfl (by rfl) HRUN.out ?_)
      all_goals
        go_wp2_with fail
        go_roundg (gk - 1)
        case rel => exact ⟨i + 1, _, _, by go_num, by have := HII.out; have := HLT.out; omega, HFIN⟩
        case measure => have := HII.out; have := HLT.out; omega
    · have hlt1 : ¬ (i : Int) < (n2 : Int) := by omega
      obtain rfl : i = n2 := by omega
      have hbw := HI.out.below
      have kd5 : wr.cell? ⟨db, 5, none⟩ = some (.slice Ac nc cc) := (HCEL.out _ hbw).cell 5
      have hch := HD.out.rest.chs
      rw [HDN.out.2.2.2.2] at hch
      have hch := hch.below hbw fun k e => hch.lt e
      have HXA := Lib.hid (hch.below ((Below.refl wr.heap.size wr).alloc (Nat.le_refl _) (.cells #[] 130)) fun k e => hch.lt e)
      have HCL : Hid ((d.waits.map rcV).flatten.length ≤ 40000) := Lib.hid (by rw [flat_len (rc_all _), List.length_map]; have := HW.out.wk; omega)
      have HBA := Lib.hid ((Below.refl wr.heap.size wr).alloc (Nat.le_refl _) (.cells #[] 130))
      have kd5b : (wr.alloc (.cells #[] 130)).cell? ⟨db, 5, none⟩ = some (.slice Ac nc cc) := (HCEL.out _ (hbw.alloc hbw.size _)).cell 5
      have HKA := Lib.hid (HI.out.blk.alloc (.cells #[] 130))
      clear hch hbw hlt hi
      go_wp2_with (at_builtin; refine wpList_appX _ uxKc (.tmp 37) (.tmp 41) rfl rfl rfl (OwnX.nil _ _) Ac nc cc rfl (d.waits.map rcV).flatten HXA.out.form.1 HXA.out.news1.1 HXA.out.news1.2 (rc_ones _) (by have := HXA.out.form.1; have := HCL.out; simp; omega) ?_; intro v5 g5 w5 hX5 hG5 ho5; rw [List.nil_append] at hX5; obtain ⟨A5, n5, c5, rfl, -⟩ := hX5.sl; have HX5 := Lib.hid hX5; have HB5 := Lib.hid (belowX HBA.out hG5 (fun k e => by cases e) (by simp)); have HG5 : Hid (FromB wr.heap.size g5) := Lib.hid (fun k e => by rcases ho5 with h | h <;> (rw [h] at e; cases e); simp); have hk5 := HKA.out.grown hG5 (fun e => by cases e); have k55 : w5.cell? ⟨w.heap.size, 5, none⟩ = some (.slice Ac nc cc) := hk5.cell 5; have f55 := hk5.frozen 5; clear hX5 hG5 ho5 hk5)
      go_ret
      have hI := HI.out
      obtain ⟨e1, e2, e3, e4, e5⟩ := HDN.out
      rw [← e1, ← e3, ← e4] at hI
      obtain ⟨h1, h2, h3⟩ := hI.fin HNF.out HD.out.rest HB5.out HX5.out HG5.out
      exact ⟨w.heap.size, _, Nat.le_refl _, h1, h2, h3, rfl⟩
/-- Copy of the document -/
theorem rcopy_walk {z y db K : Nat} {w : World} {own : Nat → Nat × Nat} {d : Dk} (h : RDisk z w own db d) (hw : Wf d K) (hK : K ≤ 10000) :
    Calls Tryz.prog 21 #[ptrV db] w (RDupPost y w own d) := by
  obtain ⟨q, h⟩ := h
  exact rcopy_walk0 h hw hK
end Go.Proofs.YtbpooaicmjkemaaGreatDoor

/-! The walk of the law SimfsCopies: a copy goes on as the disk would have (printed by gen_cps.py). Conditions: the lengths. -/
namespace Go.Proofs.YtbpooaicmjkemaaGreatDoor
open Go.RowKit Go.Maps
set_option linter.unusedVariables false
/-- four disks: the program's two, the document's two -/
structure CsS (W : World) (db rb cb sb : Nat) (w : World) (own : Nat → Nat × Nat) (dp dr ep er : Dk) : Prop where
  p : Disk 0 w own db dp
  r : RDisk 1 w own rb dr
  p2 : Disk 2 w own cb ep
  r2 : RDisk 3 w own sb er
  b : Below W.heap.size W w
  m : ∀ k, k < W.heap.size → own k = (0, 0)
/-- a disk that may go on -/
structure Fit1 (d : Dk) (K : Nat) : Prop where
  wf : Wf d K
  sw : SwOk d K
  h0 : 0 < d.dirs.length
section
variable {W w w' : World} {db rb cb sb K : Nat} {own : Nat → Nat × Nat} {d d' dp dr ep er : Dk}
theorem Fit1.does (h : Fit1 d K) {x : Dd} (hx : x.n ≤ 9223372036854775807) : Fit1 (doesM d x).1 (K + 1) := ⟨h.wf.does x, h.sw.does hx, by rw [does_dirs]; exact h.h0⟩
theorem Fit1.mono {K' : Nat} (h : Fit1 d K) (hk : K ≤ K') : Fit1 d K' := ⟨h.wf.mono hk, h.sw.mono hk, h.h0⟩
theorem Disk.turn {z y : Nat} {own' : Nat → Nat × Nat} (h : Disk z w own db d) (ht : Turn (isD y) w w' own own') (hz : z ≠ y) : Disk z w' own' db d :=
  h.goes (Goes.of_turn (keep := fun t => ¬ isD y t) ht fun t h => h) (by unfold isD frz; simp) fun t ht h => by unfold isD at ht h; omega
theorem RDisk.turn {z y : Nat} {own' : Nat → Nat × Nat} (h : RDisk z w own db d) (ht : Turn (isD y) w w' own own') (hz : z ≠ y) : RDisk z w' own' db d := by
  obtain ⟨q, hq⟩ := h
  exact ⟨q, hq.goes (Goes.of_turn (keep := fun t => ¬ isD y t) ht fun t h => h) (by unfold isD frz; simp) fun t ht h => by unfold isD at ht h; omega⟩
theorem CsS.r1 (h : CsS W db rb cb sb w own dp dr ep er) {r : Dk × Int} {e : Ending} (hp : ROpPost 1 w own rb r e w') : ∃ own', CsS W db rb cb sb w' own' dp r.1 ep er ∧ e = .returned (.int .i64 r.2) := by
  obtain ⟨own', h1, h2, h3⟩ := hp
  obtain ⟨hb, hm⟩ := below_turn h.b h.m h3
  exact ⟨own', ⟨h.p.turn h3 (by decide), h1, h.p2.turn h3 (by decide), h.r2.turn h3 (by decide), hb, hm⟩, h2⟩
theorem CsS.p1 (h : CsS W db rb cb sb w own dp dr ep er) {r : Dk × Int} {e : Ending} (hp : OpPost 0 w own db r e w') : ∃ own', CsS W db rb cb sb w' own' r.1 dr ep er ∧ e = .returned (.int .i64 r.2) := by
  obtain ⟨own', h1, h2, h3⟩ := hp
  obtain ⟨hb, hm⟩ := below_turn h.b h.m h3
  exact ⟨own', ⟨h1, h.r.turn h3 (by decide), h.p2.turn h3 (by decide), h.r2.turn h3 (by decide), hb, hm⟩, h2⟩
theorem CsS.rr (h : CsS W db rb cb sb w own dp dr ep er) {r : Dk × Int} {e : Ending} (hp : ROpPost 3 w own sb r e w') : ∃ own', CsS W db rb cb sb w' own' dp dr ep r.1 ∧ e = .returned (.int .i64 r.2) := by
  obtain ⟨own', h1, h2, h3⟩ := hp
  obtain ⟨hb, hm⟩ := below_turn h.b h.m h3
  exact ⟨own', ⟨h.p.turn h3 (by decide), h.r.turn h3 (by decide), h.p2.turn h3 (by decide), h1, hb, hm⟩, h2⟩
theorem CsS.pp (h : CsS W db rb cb sb w own dp dr ep er) {r : Dk × Int} {e : Ending} (hp : OpPost 2 w own cb r e w') : ∃ own', CsS W db rb cb sb w' own' dp dr r.1 er ∧ e = .returned (.int .i64 r.2) := by
  obtain ⟨own', h1, h2, h3⟩ := hp
  obtain ⟨hb, hm⟩ := below_turn h.b h.m h3
  exact ⟨own', ⟨h.p.turn h3 (by decide), h.r.turn h3 (by decide), h1, h.r2.turn h3 (by decide), hb, hm⟩, h2⟩
theorem CsS.below (h : CsS W db rb cb sb w own dp dr ep er) (hb : Below w.heap.size w w') : CsS W db rb cb sb w' own dp dr ep er := by
  obtain ⟨⟨q1, h1⟩, h2, ⟨q3, h3⟩, h4, h5, h6⟩ := h
  exact ⟨⟨q1, h1.below hb⟩, h2.below hb, ⟨q3, h3.below hb⟩, h4.below hb, h5.trans (hb.mono h5.size), h6⟩
theorem CsS.start (h : PlI W db rb w own d K) {w2 : World} {e : Ending} (hp : DupPost 2 w own d e w2) : ∃ cb own2, e = .returned (ptrV cb) ∧ PlI W db rb w2 own2 d K ∧ Disk 2 w2 own2 cb d ∧ Below w.heap.size w w2 := by
  obtain ⟨cb, own2, h1, h2, h3, h4, h5⟩ := hp
  have hs := h.b.size
  obtain ⟨qr, hr⟩ := h.r.dk
  exact ⟨cb, own2, h5, ⟨⟨h.p.dk.goes (keep := fun _ => True) ⟨h4.size, fun k hk _ => ⟨h4.block k hk, h3 k hk⟩⟩ trivial fun _ _ => trivial, h.p.wf, h.p.sw⟩, ⟨⟨qr, hr.goes (keep := fun _ => True) ⟨h4.size, fun k hk _ => ⟨h4.block k hk, h3 k hk⟩⟩ trivial fun _ _ => trivial⟩, h.r.wf, h.r.sw⟩, h.b.trans (h4.mono hs), fun k hk => (h3 k (Nat.lt_of_lt_of_le hk hs)).trans (h.m k hk), h.h0⟩, h2, h4⟩
theorem CsS.start2 (h : PlI W db rb w own d K) (hc : Disk 2 w own cb d) {w2 : World} {e : Ending} (hp : RDupPost 3 w own d e w2) : ∃ sb own2, e = .returned (ptrV sb) ∧ CsS W db rb cb sb w2 own2 d d d d ∧ Fit1 d K := by
  obtain ⟨sb, own2, h1, h2, h3, h4, h5⟩ := hp
  have hs := h.b.size
  obtain ⟨qr, hr⟩ := h.r.dk
  have hg : Goes (fun _ => True) w w2 own own2 := ⟨h4.size, fun k hk _ => ⟨h4.block k hk, h3 k hk⟩⟩
  exact ⟨sb, own2, h5, ⟨h.p.dk.goes hg trivial fun _ _ => trivial, ⟨qr, hr.goes hg trivial fun _ _ => trivial⟩, hc.goes hg trivial fun _ _ => trivial, h2, h.b.trans (h4.mono hs), fun k hk => (h3 k (Nat.lt_of_lt_of_le hk hs)).trans (h.m k hk)⟩, ⟨h.p.wf, h.p.sw, h.h0⟩⟩
end
set_option maxRecDepth 100000 in
set_option maxHeartbeats 4000000 in
theorem copies_walk (W : World) (quota : Int) (A1 : Option Addr) (n1 c1 : Nat) (D1 : List Dd) (hn1 : n1 = D1.length) (hc1 : n1 ≤ 140737488351232) (h1 : RDs W W.heap.size A1 D1)
    (A2 : Option Addr) (n2 c2 : Nat) (D2 : List Dd) (hn2 : n2 = D2.length) (hc2 : n2 ≤ 140737488351232) (h2 : RDs W W.heap.size A2 D2) :
    Calls Tryz.prog 5 #[.int .i64 quota, .slice A1 n1 c1, .slice A2 n2 c2] W fun e W' => Below W.heap.size W W' ∧ e = .returned (.bool true) := by
  have HS := Lib.hid (shown_walk W)
  have HN1 := Lib.hid hn1
  have HN2 := Lib.hid hn2
  have HR1 := Lib.hid h1
  have HR2 := Lib.hid h2
  have HM : Hid (∀ w, Below W.heap.size W w → Calls Tryz.prog 16 #[.int .i64 quota, .slice (some ⟨w.heap.size, 0, none⟩) 2 2] (w.alloc (.cells #[.string (bs [97]), .string (bs [98])] 9)) (MadePost (w.alloc (.cells #[.string (bs [97]), .string (bs [98])] 9)) (initM quota [[97], [98]]))) := Lib.hid fun w hb =>
    made_walk _ quota (some ⟨w.heap.size, 0, none⟩) 2 2 [[97], [98]] rfl (.inr ⟨w.heap.size, 0, rfl, by simp, fun i l hl => by
      have hB := Blk.new w 9 #[.string (bs [97]), .string (bs [98])]
      rw [Nat.zero_add, hB.cell i]
      match i with
      | 0 => obtain rfl := Option.some.inj hl; rfl
      | 1 => obtain rfl := Option.some.inj hl; rfl
      | i + 2 => simp at hl⟩) (by omega) (fun p hp => by
      simp only [List.mem_cons, List.not_mem_nil, or_false] at hp
      rcases hp with rfl | rfl <;> simp [maxLen])
  obtain ⟨r, hri⟩ : ∃ r, initM quota [[97], [98]] = r := ⟨_, rfl⟩
  have HRI := Lib.hid hri
  obtain ⟨hf, hhf⟩ : ∃ hf, hf = min (n1 / 2) 60 := ⟨_, rfl⟩
  have HHF := Lib.hid hhf
  clear hn1 h1 hn2 h2
  go_enter Tryz.func5, Tryz.ntmps5
  go_wp2_with fail
  refine HS.out.mono ?_
  rintro e w2 ⟨hb2, rfl⟩
  have HB2 := Lib.hid hb2
  have KM := Lib.hid (HM.out w2 hb2)
  rw [hri] at KM
  have hsa : bs [97] = ⟨#[97]⟩ := rfl
  have hsb : bs [98] = ⟨#[98]⟩ := rfl
  rw [hsa, hsb] at KM
  clear hb2 HS HM hri hsa hsb
  cases r with
  | none =>
    go_wp2_with fail
    refine KM.out.mono ?_
    rintro e w3 ⟨hb3, rfl⟩
    have HB3 : Hid (Below W.heap.size W w3) := Lib.hid ((HB2.out.alloc HB2.out.size (.cells #[.string ⟨#[97]⟩, .string ⟨#[98]⟩] 9)).trans (hb3.mono (by simp; have := HB2.out.size; omega)))
    clear hb3 KM HB2
    go_wp2_with fail
    go_ret
    exact ⟨HB3.out, rfl⟩
  | some d =>
    go_wp2_with fail
    refine KM.out.mono ?_
    rintro e w3 ⟨hb3, db, rb, own3, hd3, hr3, hm3, rfl⟩
    have HI3 : Hid (PlI W db rb w3 own3 d 0) := Lib.hid (PlI.start HRI.out (HB2.out.alloc HB2.out.size _) hb3 hd3 hr3 hm3)
    clear hb3 hd3 hr3 hm3 KM HB2
    unfold ptrV
    have hq : min ((n1 : Int) / 2) 60 = (hf : Int) := by rw [hhf]; omega
    have hfb : hf ≤ 60 ∧ hf ≤ n1 := by omega
    have HFB := Lib.hid hfb
    clear hhf hfb
    go_upto_region 8 with fail
    clear hq
    go_wp2_with fail
    go_loopg [12] hf (fun k s12 wr => ∃ (i : Nat) (own' : Nat → Nat × Nat) (d' : Dk), s12 = .int .i64 (i : Int) ∧ i + k = hf ∧ Hid (PlI W db rb wr own' d' i))
    case atStart => exact ⟨0, _, _, rfl, by omega, HI3⟩
    case round =>
      obtain ⟨i, own', d', rfl, hi, HI⟩ := hrel
      clear HI3
      by_cases hlt : i < hf
      · have hlt1 : (i : Int) < (hf : Int) := by omega
        obtain ⟨hfb, hfn⟩ := HFB.out
        have hin : (i : Int) < (n1 : Int) := by omega
        have h60 : i < 60 := by omega
        obtain ⟨x, hx⟩ : ∃ x, D1[i]? = some x := ⟨_, List.getElem?_eq_getElem (by rw [← HN1.out]; omega)⟩
        obtain ⟨b, off, m', rfl, hc, hd⟩ := HR1.out.get (Below.refl _ _) hx
        have hbl : b < W.heap.size := World.block_lt_of_cell? _ _ (hc 0 _ rfl)
        have HC : Hid (∀ w, Below W.heap.size W w → ∀ k v, (ddC x m')[k]? = some v → w.cell? ⟨b, off + i * 8 + k, none⟩ = some v) := Lib.hid fun w hb k v hv => (hb.cell (p := ⟨b, off + i * 8 + k, none⟩) hbl).trans (hc k v hv)
        have HD := Lib.hid hd
        have HXN : Hid (x.n ≤ 9223372036854775807) := Lib.hid hd.n0.2
        have KA := Lib.hid (asked_walk HI.out.r (by omega) x m' (hd.below HI.out.b) HI.out.b.size (fun k hk => by rw [HI.out.m k hk]; exact not_isD0 1))
        have hq := HC.out _ HI.out.b
        have HII := Lib.hid hi
        have h20 := Lib.hid hlt
        have H60 := Lib.hid h60
        unfold ddC at hq KA
        unfold ptrV at KA
        have q0 := hq 0 _ rfl
        have q1 := hq 1 _ rfl
        have q2 := hq 2 _ rfl
        have q3 := hq 3 _ rfl
        have q4 := hq 4 _ rfl
        have q5 := hq 5 _ rfl
        have q6 := hq 6 _ rfl
        have q7 := hq 7 _ rfl
        rw [Nat.add_zero] at q0
        clear hq hc hd hx hi hbl hlt
        go_wp2_with fail
        refine KA.out.mono ?_
        intro e w8 hp
        obtain ⟨own8, hi8, rfl⟩ := HI.out.asked hp
        have HI8 := Lib.hid hi8
        have KD := Lib.hid (does_walk hi8.p (by have := H60.out; omega) x m' (HD.out.below hi8.b) hi8.b.size (fun k hk => by rw [hi8.m k hk]; exact not_isD0 0))
        have hq := HC.out _ hi8.b
        unfold ddC at hq KD
        unfold ptrV at KD
        clear hp hi8 KA q0 q1 q2 q3 q4 q5 q6 q7
        have q0 := hq 0 _ rfl
        have q1 := hq 1 _ rfl
        have q2 := hq 2 _ rfl
        have q3 := hq 3 _ rfl
        have q4 := hq 4 _ rfl
        have q5 := hq 5 _ rfl
        have q6 := hq 6 _ rfl
        have q7 := hq 7 _ rfl
        rw [Nat.add_zero] at q0
        clear hq
        generalize (doesM d' x).2 = cd at KD ⊢
        go_wp2_with fail
        refine KD.out.mono ?_
        intro e w9 hp
        obtain ⟨own9, hi9, rfl⟩ := HI8.out.does HXN.out hp
        have HI9 := Lib.hid hi9
        clear hp hi9 KD q0 q1 q2 q3 q4 q5 q6 q7
        go_wp2_with fail
        go_roundg (gk - 1)
        case rel => exact ⟨i + 1, own9, _, by go_num, by have := HII.out; have := h20.out; omega, HI9⟩
        case measure => have := HII.out; have := h20.out; omega
      · have hlt1 : ¬ (i : Int) < (hf : Int) := by omega
        obtain rfl : i = hf := by omega
        have KC := Lib.hid (copy_walk (y := 2) HI.out.p.dk HI.out.p.wf (by have := HFB.out.1; omega))
        unfold ptrV at KC
        clear hi hlt
        go_wp2_with fail
        refine KC.out.mono ?_
        intro e w4 hp
        obtain ⟨cb, own4, rfl, hi4, hc4, -⟩ := CsS.start HI.out hp
        have KR := Lib.hid (rcopy_walk (y := 3) hi4.r.dk hi4.r.wf (by have := HFB.out.1; omega))
        have HI4 := Lib.hid hi4
        have HC4 := Lib.hid hc4
        unfold ptrV at KR ⊢
        clear hp hi4 hc4 KC
        go_wp2_with fail
        refine KR.out.mono ?_
        intro e w5 hp
        obtain ⟨sb, own5, rfl, hs5, hf5⟩ := CsS.start2 HI4.out HC4.out hp
        have HS5 := Lib.hid hs5
        have HF5 := Lib.hid hf5
        unfold ptrV
        clear hp hs5 hf5 KR HI4 HC4
        obtain ⟨hfb, hfn⟩ := HFB.out
        clear HI
        go_upto_region 18 with fail
        go_loopg [15, 16, 17, 18, 19] 60 (fun k s15 s16 s17 s18 s19 wr => ∃ (j : Nat) (own' : Nat → Nat × Nat) (d1 d2 : Dk), s15 = .int .i64 (j : Int) ∧ j + k = 60 ∧ Hid (CsS W db rb cb sb wr own' d1 d1 d2 d2) ∧ Hid (Fit1 d1 (i + j)) ∧ Hid (Fit1 d2 (i + j)))
        case atStart => exact ⟨0, _, _, _, rfl, by omega, HS5, HF5, HF5⟩
        case round =>
          obtain ⟨j, own', d1, d2, rfl, hj, HS1, HF1, HF2⟩ := hrel
          clear HS5 HF5
          have HJ := Lib.hid hj
          by_cases hlt : j < 60
          · have hlt1 : (j : Int) < 60 := by omega
            clear hj
            obtain ⟨ij, hij0⟩ : ∃ ij, ij = i + j := ⟨_, rfl⟩
            have hij : (i : Int) + (j : Int) = (ij : Int) := by omega
            rw [← hij0] at HF1 HF2
            have hib : ij ≤ 120 := by omega
            have HIJ := Lib.hid hij0
            clear hij0
            by_cases h1 : ij < n1
            · have h11 : (ij : Int) < (n1 : Int) := by omega
              obtain ⟨xa, hx⟩ : ∃ xa, D1[ij]? = some xa := ⟨_, List.getElem?_eq_getElem (by rw [← HN1.out]; omega)⟩
              obtain ⟨ba, offa, ma, rfl, hc, hd⟩ := HR1.out.get (Below.refl _ _) hx
              have hbl : ba < W.heap.size := World.block_lt_of_cell? _ _ (hc 0 _ rfl)
              have HCa : Hid (∀ w, Below W.heap.size W w → ∀ k v, (ddC xa ma)[k]? = some v → w.cell? ⟨ba, offa + ij * 8 + k, none⟩ = some v) := Lib.hid fun w hb k v hv => (hb.cell (p := ⟨ba, offa + ij * 8 + k, none⟩) hbl).trans (hc k v hv)
              have HDXa := Lib.hid hd
              have HXNa : Hid (xa.n ≤ 9223372036854775807) := Lib.hid hd.n0.2
              have KA := Lib.hid (asked_walk (z := 1) ⟨HS1.out.r, HF1.out.wf, HF1.out.sw⟩ (by omega) xa ma (hd.below HS1.out.b) HS1.out.b.size (fun k hk => by rw [HS1.out.m k hk]; exact not_isD0 1))
              have hq := HCa.out _ HS1.out.b
              unfold ddC at hq KA
              unfold ptrV at KA
              have q0 := hq 0 _ rfl
              have q1 := hq 1 _ rfl
              have q2 := hq 2 _ rfl
              have q3 := hq 3 _ rfl
              have q4 := hq 4 _ rfl
              have q5 := hq 5 _ rfl
              have q6 := hq 6 _ rfl
              have q7 := hq 7 _ rfl
              rw [Nat.add_zero] at q0
              clear hq hc hd hx hbl
              go_wp2_with fail
              refine KA.out.mono ?_
              intro e w8 hp
              obtain ⟨own8, hs8, rfl⟩ := HS1.out.r1 hp
              have HS8 := Lib.hid hs8
              have KD := Lib.hid (does_walk (z := 0) ⟨hs8.p, HF1.out.wf, HF1.out.sw⟩ (by omega) xa ma (HDXa.out.below hs8.b) hs8.b.size (fun k hk => by rw [hs8.m k hk]; exact not_isD0 0))
              have hq := HCa.out _ hs8.b
              unfold ddC at hq KD
              unfold ptrV at KD
              clear hp hs8 KA q0 q1 q2 q3 q4 q5 q6 q7
              have q0 := hq 0 _ rfl
              have q1 := hq 1 _ rfl
              have q2 := hq 2 _ rfl
              have q3 := hq 3 _ rfl
              have q4 := hq 4 _ rfl
              have q5 := hq 5 _ rfl
              have q6 := hq 6 _ rfl
              have q7 := hq 7 _ rfl
              rw [Nat.add_zero] at q0
              clear hq
              obtain ⟨cda, hcd⟩ : ∃ cd, (doesM d1 xa).2 = cd := ⟨_, rfl⟩
              rw [hcd]
              have HCDa := Lib.hid hcd
              clear hcd
              go_wp2_with fail
              refine KD.out.mono ?_
              intro e w9 hp
              obtain ⟨owna, hs9, rfl⟩ := HS8.out.p1 hp
              have HSa := Lib.hid hs9
              have HFa := Lib.hid (HF1.out.does HXNa.out)
              rw [HCDa.out]
              clear hp hs9 KD HS8 q0 q1 q2 q3 q4 q5 q6 q7
              by_cases h2 : j < n2
              · have h21 : (j : Int) < (n2 : Int) := by omega
                obtain ⟨xb, hx⟩ : ∃ xb, D2[j]? = some xb := ⟨_, List.getElem?_eq_getElem (by rw [← HN2.out]; omega)⟩
                obtain ⟨bb, offb, mb, rfl, hc, hd⟩ := HR2.out.get (Below.refl _ _) hx
                have hbl : bb < W.heap.size := World.block_lt_of_cell? _ _ (hc 0 _ rfl)
                have HCb : Hid (∀ w, Below W.heap.size W w → ∀ k v, (ddC xb mb)[k]? = some v → w.cell? ⟨bb, offb + j * 8 + k, none⟩ = some v) := Lib.hid fun w hb k v hv => (hb.cell (p := ⟨bb, offb + j * 8 + k, none⟩) hbl).trans (hc k v hv)
                have HDXb := Lib.hid hd
                have HXNb : Hid (xb.n ≤ 9223372036854775807) := Lib.hid hd.n0.2
                have KA := Lib.hid (asked_walk (z := 3) ⟨HSa.out.r2, HF2.out.wf, HF2.out.sw⟩ (by omega) xb mb (hd.below HSa.out.b) HSa.out.b.size (fun k hk => by rw [HSa.out.m k hk]; exact not_isD0 3))
                have hq := HCb.out _ HSa.out.b
                unfold ddC at hq KA
                unfold ptrV at KA
                have q0 := hq 0 _ rfl
                have q1 := hq 1 _ rfl
                have q2 := hq 2 _ rfl
                have q3 := hq 3 _ rfl
                have q4 := hq 4 _ rfl
                have q5 := hq 5 _ rfl
                have q6 := hq 6 _ rfl
                have q7 := hq 7 _ rfl
                rw [Nat.add_zero] at q0
                clear hq hc hd hx hbl
                go_wp2_with fail
                refine KA.out.mono ?_
                intro e w8 hp
                obtain ⟨own8, hs8, rfl⟩ := HSa.out.rr hp
                have HS8 := Lib.hid hs8
                have KD := Lib.hid (does_walk (z := 2) ⟨hs8.p2, HF2.out.wf, HF2.out.sw⟩ (by omega) xb mb (HDXb.out.below hs8.b) hs8.b.size (fun k hk => by rw [hs8.m k hk]; exact not_isD0 2))
                have hq := HCb.out _ hs8.b
                unfold ddC at hq KD
                unfold ptrV at KD
                clear hp hs8 KA q0 q1 q2 q3 q4 q5 q6 q7
                have q0 := hq 0 _ rfl
                have q1 := hq 1 _ rfl
                have q2 := hq 2 _ rfl
                have q3 := hq 3 _ rfl
                have q4 := hq 4 _ rfl
                have q5 := hq 5 _ rfl
                have q6 := hq 6 _ rfl
                have q7 := hq 7 _ rfl
                rw [Nat.add_zero] at q0
                clear hq
                obtain ⟨cdb, hcd⟩ : ∃ cd, (doesM d2 xb).2 = cd := ⟨_, rfl⟩
                rw [hcd]
                have HCDb := Lib.hid hcd
                clear hcd
                go_wp2_with fail
                refine KD.out.mono ?_
                intro e w9 hp
                obtain ⟨ownb, hs9, rfl⟩ := HS8.out.pp hp
                have HSb := Lib.hid hs9
                have HFb := Lib.hid (HF2.out.does HXNb.out)
                rw [HCDb.out]
                clear hp hs9 KD HS8 q0 q1 q2 q3 q4 q5 q6 q7
                go_wp2_with fail
                go_roundg (gk - 1)
                case rel => exact ⟨j + 1, _, _, _, by go_num, by have := HJ.out; omega, HSb, Lib.hid (HFa.out.mono (by have := HIJ.out; omega)), Lib.hid (HFb.out.mono (by have := HIJ.out; omega))⟩
                case measure => have := HJ.out; omega
              · have h21 : ¬ (j : Int) < (n2 : Int) := by omega
                go_wp2_with fail
                go_roundg (gk - 1)
                case rel => exact ⟨j + 1, _, _, _, by go_num, by have := HJ.out; omega, HSa, Lib.hid (HFa.out.mono (by have := HIJ.out; omega)), Lib.hid (HF2.out.mono (by have := HIJ.out; omega))⟩
                case measure => have := HJ.out; omega
            · have h11 : ¬ (ij : Int) < (n1 : Int) := by omega
              by_cases h2 : j < n2
              · have h21 : (j : Int) < (n2 : Int) := by omega
                obtain ⟨xb, hx⟩ : ∃ xb, D2[j]? = some xb := ⟨_, List.getElem?_eq_getElem (by rw [← HN2.out]; omega)⟩
                obtain ⟨bb, offb, mb, rfl, hc, hd⟩ := HR2.out.get (Below.refl _ _) hx
                have hbl : bb < W.heap.size := World.block_lt_of_cell? _ _ (hc 0 _ rfl)
                have HCb : Hid (∀ w, Below W.heap.size W w → ∀ k v, (ddC xb mb)[k]? = some v → w.cell? ⟨bb, offb + j * 8 + k, none⟩ = some v) := Lib.hid fun w hb k v hv => (hb.cell (p := ⟨bb, offb + j * 8 + k, none⟩) hbl).trans (hc k v hv)
                have HDXb := Lib.hid hd
                have HXNb : Hid (xb.n ≤ 9223372036854775807) := Lib.hid hd.n0.2
                have KA := Lib.hid (asked_walk (z := 3) ⟨HS1.out.r2, HF2.out.wf, HF2.out.sw⟩ (by omega) xb mb (hd.below HS1.out.b) HS1.out.b.size (fun k hk => by rw [HS1.out.m k hk]; exact not_isD0 3))
                have hq := HCb.out _ HS1.out.b
                unfold ddC at hq KA
                unfold ptrV at KA
                have q0 := hq 0 _ rfl
                have q1 := hq 1 _ rfl
                have q2 := hq 2 _ rfl
                have q3 := hq 3 _ rfl
                have q4 := hq 4 _ rfl
                have q5 := hq 5 _ rfl
                have q6 := hq 6 _ rfl
                have q7 := hq 7 _ rfl
                rw [Nat.add_zero] at q0
                clear hq hc hd hx hbl
                go_wp2_with fail
                refine KA.out.mono ?_
                intro e w8 hp
                obtain ⟨own8, hs8, rfl⟩ := HS1.out.rr hp
                have HS8 := Lib.hid hs8
                have KD := Lib.hid (does_walk (z := 2) ⟨hs8.p2, HF2.out.wf, HF2.out.sw⟩ (by omega) xb mb (HDXb.out.below hs8.b) hs8.b.size (fun k hk => by rw [hs8.m k hk]; exact not_isD0 2))
                have hq := HCb.out _ hs8.b
                unfold ddC at hq KD
                unfold ptrV at KD
                clear hp hs8 KA q0 q1 q2 q3 q4 q5 q6 q7
                have q0 := hq 0 _ rfl
                have q1 := hq 1 _ rfl
                have q2 := hq 2 _ rfl
                have q3 := hq 3 _ rfl
                have q4 := hq 4 _ rfl
                have q5 := hq 5 _ rfl
                have q6 := hq 6 _ rfl
                have q7 := hq 7 _ rfl
                rw [Nat.add_zero] at q0
                clear hq
                obtain ⟨cdb, hcd⟩ : ∃ cd, (doesM d2 xb).2 = cd := ⟨_, rfl⟩
                rw [hcd]
                have HCDb := Lib.hid hcd
                clear hcd
                go_wp2_with fail
                refine KD.out.mono ?_
                intro e w9 hp
                obtain ⟨ownb, hs9, rfl⟩ := HS8.out.pp hp
                have HSb := Lib.hid hs9
                have HFb := Lib.hid (HF2.out.does HXNb.out)
                rw [HCDb.out]
                clear hp hs9 KD HS8 q0 q1 q2 q3 q4 q5 q6 q7
                go_wp2_with fail
                go_roundg (gk - 1)
                case rel => exact ⟨j + 1, _, _, _, by go_num, by have := HJ.out; omega, HSb, Lib.hid (HF1.out.mono (by have := HIJ.out; omega)), Lib.hid (HFb.out.mono (by have := HIJ.out; omega))⟩
                case measure => have := HJ.out; omega
              · have h21 : ¬ (j : Int) < (n2 : Int) := by omega
                go_wp2_with fail
                go_roundg (gk - 1)
                case rel => exact ⟨j + 1, _, _, _, by go_num, by have := HJ.out; omega, HS1, Lib.hid (HF1.out.mono (by have := HIJ.out; omega)), Lib.hid (HF2.out.mono (by have := HIJ.out; omega))⟩
                case measure => have := HJ.out; omega
          · have hlt1 : ¬ (j : Int) < 60 := by omega
            have KL := Lib.hid (looks_walk (z := 0) (zr := 1) ⟨HS1.out.p, HF1.out.wf, HF1.out.sw⟩ ⟨HS1.out.r, HF1.out.wf, HF1.out.sw⟩ (by omega) HF1.out.h0 [97, 47, 120] (by simp [maxLen]))
            unfold ptrV at KL
            have hsx : bs [97, 47, 120] = ⟨#[97, 47, 120]⟩ := rfl
            rw [hsx] at KL
            clear hlt hj
            go_wp2_with fail
            refine KL.out.mono ?_
            rintro e w6 ⟨rfl, hb6⟩
            have HS6 := Lib.hid (HS1.out.below hb6)
            have KL2 := Lib.hid (looks_walk (z := 2) (zr := 3) ⟨HS6.out.p2, HF2.out.wf, HF2.out.sw⟩ ⟨HS6.out.r2, HF2.out.wf, HF2.out.sw⟩ (by have := HJ.out; omega) HF2.out.h0 [97, 47, 120] (by simp [maxLen]))
            unfold ptrV at KL2
            rw [hsx] at KL2
            clear hb6 KL hsx
            go_wp2_with fail
            refine KL2.out.mono ?_
            rintro e w7 ⟨rfl, hb7⟩
            have HS7 := Lib.hid (HS6.out.below hb7)
            clear hb7 KL2
            go_wp2_with fail
            go_ret
            exact ⟨HS7.out.b, rfl⟩
end Go.Proofs.YtbpooaicmjkemaaGreatDoor
