/-
  The walk of a change's do: a map of entries with one more, one less, one moved. Conditions: the lengths.
-/
import Derived.Test.YtbpooaicmjkemaaDoorSfLean
namespace Go.Proofs.YtbpooaicmjkemaaDoor
open Go.RowKit Go.Maps
set_option linter.unusedVariables false
theorem len_split : ∀ {L : Es}, sortE L → ∀ p : Tx, (L.filter fun e => decide (e.1 < p)).length + (L.filter fun e => decide (p < e.1)).length + (if getE L p = none then 0 else 1) = L.length
  | [], _, p => by simp [getE]
  | e :: r, h, p => by
    obtain ⟨h1, h2⟩ := List.pairwise_cons.1 h
    have ih := len_split h2 p
    unfold getE
    simp only [List.filter_cons, List.length_cons]
    rcases key_tot e.1 p with hlt | heq | hgt
    · have hn : ¬ p < e.1 := fun h => key_ir _ (key_tr hlt h)
      have hne : ¬ e.1 = p := fun h => by rw [h] at hlt; exact key_ir _ hlt
      simp only [hlt, hn, hne, decide_true, decide_false, if_true, if_false, List.length_cons, Bool.false_eq_true]
      omega
    · have h3 : ¬ e.1 < p := fun h => by rw [heq] at h; exact key_ir _ h
      have h4 : ¬ p < e.1 := fun h => by rw [heq] at h; exact key_ir _ h
      have hg : getE r p = none := getE_none.2 fun x hx hxp => by have := h1 x hx; rw [hxp, heq] at this; exact key_ir _ this
      rw [hg, if_pos rfl] at ih
      simp only [h3, h4, heq, decide_false, if_true, if_false, Bool.false_eq_true, reduceCtorEq]
      have h5 : ¬ p < p := key_ir p
      simp only [h5, decide_false, Bool.false_eq_true, if_false]
      omega
    · have hn : ¬ e.1 < p := fun h => key_ir _ (key_tr h hgt)
      have hne : ¬ e.1 = p := fun h => by rw [h] at hgt; exact key_ir _ hgt
      simp only [hn, hgt, hne, decide_true, decide_false, if_true, if_false, List.length_cons, Bool.false_eq_true]
      omega
theorem len_putE {L : Es} (h : sortE L) (p : Tx) (n : Nat) : (putE L p n).length = if getE L p = none then L.length + 1 else L.length := by
  have := len_split h p
  unfold putE
  rw [List.length_append, List.length_cons]
  split <;> rename_i hg
  · rw [if_pos hg] at this; omega
  · rw [if_neg hg] at this; omega
theorem len_dropE {L : Es} (h : sortE L) (p : Tx) : (dropE L p).length + (if getE L p = none then 0 else 1) = L.length := by
  induction L with
  | nil => simp [dropE, getE]
  | cons e r ih =>
    obtain ⟨h1, h2⟩ := List.pairwise_cons.1 h
    have ih := ih h2
    unfold getE
    unfold dropE at ih ⊢
    rw [List.filter_cons]
    by_cases he : e.1 = p
    · have hg : getE r p = none := getE_none.2 fun x hx hxp => by have := h1 x hx; rw [hxp, he] at this; exact key_ir _ this
      rw [hg, if_pos rfl] at ih
      simp only [he, ne_eq, not_true_eq_false, decide_false, Bool.false_eq_true, if_false, if_true, reduceCtorEq, List.length_cons]
      simpa using ih
    · simp only [ne_eq] at ih
      simp only [he, ne_eq, not_false_eq_true, decide_true, if_true, if_false, List.length_cons]
      omega
section
variable {w : World} {mb n : Nat} {D : DataW Unit} {L : Es} {bl : List Nat}
theorem has_get (he : MapE D L bl) (hil : ∀ e ∈ L, e.2 < bl.length) {p : Tx} (hp : p.length ≤ maxLen) : (Maps.has D (kL p) = true ↔ getE L p ≠ none) := by
  cases hg : getE L p with
  | none => rw [he.no p hp hg]; simp
  | some i => rw [(he.ya p i _ hp hg (List.getElem?_eq_getElem (hil _ (getE_some hg)))).1]; simp
theorem MapE.put (he : MapE D L bl) (ht : Tidy D) (hs : sortE L) (hil : ∀ e ∈ L, e.2 < bl.length) {p : Tx} (hp : p.length ≤ maxLen) {i b : Nat} (hb : bl[i]? = some b) :
    MapE (D.put (kL p) (.lit (.int .i64 (b : Int)))) (putE L p i) bl := by
  have hh := has_get he hil hp
  refine ⟨?_, fun p' hp' hg => ?_, fun p' i' b' hp' hg hb' => ?_⟩
  · rw [Maps.size_put ht, len_putE hs, he.sz]
    by_cases hg : getE L p = none
    · rw [if_pos hg, if_neg (fun h => hh.1 h hg)]
    · rw [if_neg hg, if_pos (hh.2 hg)]
  · rw [getE_putE hs] at hg
    split at hg
    · cases hg
    · rename_i hne
      rw [Maps.has_put_other (fun e => hne (kL_inj e))]
      exact he.no p' hp' hg
  · rw [getE_putE hs] at hg
    split at hg
    · rename_i e
      subst e
      obtain rfl := Option.some.inj hg
      rw [hb] at hb'
      obtain rfl := Option.some.inj hb'
      exact ⟨Maps.has_put_same ht.isMap (kL_key _) _, fun z => Maps.atKey_put_same ht.isMap (kL_key _) _ z⟩
    · rename_i hne
      obtain ⟨m3, m4⟩ := he.ya p' i' b' hp' hg hb'
      exact ⟨by rw [Maps.has_put_other (fun e => hne (kL_inj e))]; exact m3, fun z => by rw [Maps.atKey_put_other (fun e => hne (kL_inj e))]; exact m4 z⟩
theorem MapE.del (he : MapE D L bl) (ht : Tidy D) (hs : sortE L) (hil : ∀ e ∈ L, e.2 < bl.length) {p : Tx} (hp : p.length ≤ maxLen) : MapE (D.del (kL p)) (dropE L p) bl := by
  have hh := has_get he hil hp
  refine ⟨?_, fun p' hp' hg => ?_, fun p' i' b' hp' hg hb' => ?_⟩
  · have h1 := Maps.size_del (k := kL p) ht
    have h2 := len_dropE hs p
    rw [he.sz] at h1
    by_cases hg : getE L p = none
    · rw [if_neg (fun h => hh.1 h hg)] at h1
      rw [if_pos hg] at h2
      omega
    · rw [if_pos (hh.2 hg)] at h1
      rw [if_neg hg] at h2
      omega
  · rw [getE_dropE hs] at hg
    split at hg
    · rename_i e
      subst e
      exact Maps.has_del_same
    · rename_i hne
      rw [Maps.has_del_other (fun e => hne (kL_inj e))]
      exact he.no p' hp' hg
  · rw [getE_dropE hs] at hg
    split at hg
    · cases hg
    · rename_i hne
      obtain ⟨m3, m4⟩ := he.ya p' i' b' hp' hg hb'
      exact ⟨by rw [Maps.has_del_other (fun e => hne (kL_inj e))]; exact m3, fun z => by rw [Maps.atKey_del_other (fun e => hne (kL_inj e))]; exact m4 z⟩
end
/-- what a change leaves of a map of entries -/
def ChgPost (w : World) (mb nn : Nat) (L' : Es) (bl : List Nat) (e : Ending) (w' : World) : Prop :=
  ∃ D' n', w'.ownsMap Tryd.prog 9 ptrElem mb n' D' ∧ n' ≤ nn + 1 ∧ MapE D' L' bl ∧ (∀ k, k < w.heap.size → k ≠ mb → w'.heap[k]? = w.heap[k]?) ∧ w.heap.size ≤ w'.heap.size ∧ w'.os = w.os ∧ w'.tape = w.tape ∧ w'.output = w.output ∧ e = .returned (.tuple #[])
set_option maxRecDepth 100000 in
set_option maxHeartbeats 1000000 in
theorem chdo_walk (w : World) (mb nn : Nat) (D : DataW Unit) (L : Es) (bl : List Nat) (hO : w.ownsMap Tryd.prog 9 ptrElem mb nn D) (hE : MapE D L bl) (hs : sortE L) (hil : ∀ e ∈ L, e.2 < bl.length) (hn : nn ≤ 1000000000)
    (c : Ch) (pc : Value) (hc : OkC c) (h1 : c.kind = 1 → ∃ b, bl[c.node]? = some b ∧ pc = .pointer (some ⟨b, 0, none⟩)) (h0 : c.kind ≠ 1 → pc = .pointer none) (h2 : c.kind = 2 → getE L c.fr ≠ none) (hf : c.fr.length ≤ maxLen) (ht : c.tt.length ≤ maxLen) :
    Calls Tryd.prog 48 #[.agg (chA c pc), .map (some mb)] w (ChgPost w mb nn (didE L c) bl) := by
  have hT := hO.tidy lawS
  obtain ⟨kind, fr, tt, node⟩ := c
  simp only [] at h1 h0 h2 hf ht
  have HBx := Lib.hid (Blk.new w 68 #[.int .i64 kind, .string (bs fr), .string (bs tt), pc])
  have k0 : (w.alloc (.cells #[.int .i64 kind, .string (bs fr), .string (bs tt), pc] 68)).cell? ⟨w.heap.size, 0, none⟩ = some (.int .i64 kind) := HBx.out.cell 0
  have k1 : (w.alloc (.cells #[.int .i64 kind, .string (bs fr), .string (bs tt), pc] 68)).cell? ⟨w.heap.size, 1, none⟩ = some (.string (bs fr)) := HBx.out.cell 1
  have k2 : (w.alloc (.cells #[.int .i64 kind, .string (bs fr), .string (bs tt), pc] 68)).cell? ⟨w.heap.size, 2, none⟩ = some (.string (bs tt)) := HBx.out.cell 2
  have k3 : (w.alloc (.cells #[.int .i64 kind, .string (bs fr), .string (bs tt), pc] 68)).cell? ⟨w.heap.size, 3, none⟩ = some pc := HBx.out.cell 3
  have hO1 := hO.alloc (.cells #[.int .i64 kind, .string (bs fr), .string (bs tt), pc] 68)
  have hmb := hO.lt
  have hst : ∀ w', ((w.alloc (.cells #[.int .i64 kind, .string (bs fr), .string (bs tt), pc] 68)).grownBy w' (some mb)) → (∀ k, k < w.heap.size → k ≠ mb → w'.heap[k]? = w.heap[k]?) ∧ w.heap.size ≤ w'.heap.size ∧ w'.os = w.os ∧ w'.tape = w.tape ∧ w'.output = w.output := fun w' g =>
    ⟨fun k h1 h2 => (g.block k (by simp; omega) (fun e => h2 (by injection e))).trans (Below.heap_alloc w _ k h1), by have := g.size; simp at this; omega, g.os, g.tape, g.output⟩
  have HST := Lib.hid hst
  change Calls Tryd.prog 48 #[.agg #[.int .i64 kind, .string (bs fr), .string (bs tt), pc], .map (some mb)] w (ChgPost w mb nn (didE L ⟨kind, fr, tt, node⟩) bl)
  rcases hc with ⟨ek, ef, et⟩ | ⟨ek, ef, et, ene⟩ | ⟨ek, ef, et⟩
  · simp only [] at ek
    subst ek
    obtain ⟨b, hb, rfl⟩ := h1 rfl
    obtain ⟨wa, ua, oa, ga⟩ := hO1.update lawS Tryd.underlying52 (by unfold maxLen; omega) (keyS ht) (ptrElem_mk b)
    unfold ptrV at ua
    have HD := Lib.hid (hE.put hT hs hil ht hb)
    have HOA := Lib.hid oa
    have HGA := Lib.hid ga
    have HE : Hid (didE L ⟨1, fr, tt, node⟩ = putE L tt node) := Lib.hid rfl
    clear hO hE hs hil hT HBx h1 h0 h2 hf ht hO1 oa ga ef et hb hmb hn hst
    go_enter Tryd.func48, Tryd.ntmps48
    go_wp2_with fail
    refine bodyPost_ret (res0 rfl _ _ _) rfl ?_
    unfold ChgPost
    rw [HE.out]
    obtain ⟨s1, s2, s3, s4, s5⟩ := HST.out _ HGA.out
    exact ⟨_, _, HOA.out, Nat.le_refl _, HD.out, s1, s2, s3, s4, s5, rfl⟩
  · simp only [] at ek
    subst ek
    obtain ⟨i, hi⟩ := Option.ne_none_iff_exists'.1 (h2 rfl)
    have hil2 := hil _ (getE_some hi)
    obtain ⟨b, hb⟩ : ∃ b, bl[i]? = some b := ⟨_, List.getElem?_eq_getElem hil2⟩
    obtain rfl := h0 (by decide)
    have hlk := look1_yes hO1 hE hf hi hb 0
    rw [drewN0] at hlk
    obtain ⟨wa, ua, oa, ta⟩ := hO1.drop lawS Tryd.underlying52 (keyS hf) 0
    have hd := hE.del hT hs hil hf
    have hTd := hT.del (kL fr)
    have hsd := sort_dropE hs fr
    have hild : ∀ e ∈ dropE L fr, e.2 < bl.length := fun e he => hil e (mem_dropE.1 he).1
    obtain ⟨wb, ub, ob, gb⟩ := oa.update lawS Tryd.underlying52 (by unfold maxLen; omega) (keyS ht) (ptrElem_mk b)
    unfold ptrV at ub
    have HD := Lib.hid (hd.put hTd hsd hild ht hb)
    have HOB := Lib.hid ob
    have HGA := Lib.hid ta.grown
    have HGB := Lib.hid gb
    have HE : Hid (didE L ⟨2, fr, tt, node⟩ = putE (dropE L fr) tt i) := Lib.hid (by show (match getE L fr with | none => L | some n => putE (dropE L fr) tt n) = _; rw [hi])
    have hne : some w.heap.size ≠ some mb := fun e => by injection e; omega
    have k2a : wa.cell? ⟨w.heap.size, 2, none⟩ = some (.string (bs tt)) := (HBx.out.grown ta.grown hne).cell 2
    clear hO hE hs hil hT HBx h1 h0 h2 hf ht hO1 oa ta gb ob ef et ene hb hmb hn hst hi hil2 hd hTd hsd hild hne
    go_enter Tryd.func48, Tryd.ntmps48
    go_wp2_with fail
    refine bodyPost_ret (res0 rfl _ _ _) rfl ?_
    unfold ChgPost
    rw [HE.out]
    obtain ⟨s1, s2, s3, s4, s5⟩ := HST.out _ (HGA.out.trans HGB.out)
    exact ⟨_, _, HOB.out, Nat.le_refl _, HD.out, s1, s2, s3, s4, s5, rfl⟩
  · simp only [] at ek
    subst ek
    obtain rfl := h0 (by decide)
    obtain ⟨wa, ua, oa, ta⟩ := hO1.drop lawS Tryd.underlying52 (keyS hf) 0
    have HD := Lib.hid (hE.del hT hs hil hf)
    have HOA := Lib.hid oa
    have HGA := Lib.hid ta.grown
    have HE : Hid (didE L ⟨3, fr, tt, node⟩ = dropE L fr) := Lib.hid rfl
    clear hO hE hs hil hT HBx h1 h0 h2 hf ht hO1 oa ta ef et hmb hn hst
    go_enter Tryd.func48, Tryd.ntmps48
    go_wp2_with fail
    refine bodyPost_ret (res0 rfl _ _ _) rfl ?_
    unfold ChgPost
    rw [HE.out]
    obtain ⟨s1, s2, s3, s4, s5⟩ := HST.out _ HGA.out
    exact ⟨_, _, HOA.out, Nat.le_succ _, HD.out, s1, s2, s3, s4, s5, rfl⟩
end Go.Proofs.YtbpooaicmjkemaaDoor
