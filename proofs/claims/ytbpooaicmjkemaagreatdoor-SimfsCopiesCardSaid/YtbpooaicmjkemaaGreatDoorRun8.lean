/-
  Several texts in one (merge.py): SfLean, SfChg. Conditions: each part names its own.
-/
import Derived.Test.YtbpooaicmjkemaaGreatDoorRun7
/-! The walks of the program's leans and of SyncDir's predicate. Conditions: the lengths. -/
namespace Go.Proofs.YtbpooaicmjkemaaGreatDoor
open Go.RowKit Go.Maps Go.Sort
set_option linter.unusedVariables false
theorem paths_le (c : Ch) : (pathsC c).length ≤ 2 := List.length_filter_le _ _
theorem mem_paths {c : Ch} {p : Tx} : p ∈ pathsC c ↔ namesC c p = true := by
  rw [namesC_iff]
  unfold pathsC
  simp only [List.mem_filter, List.mem_cons, List.not_mem_nil, or_false, Bool.not_eq_true', decide_eq_false_iff_not]
  constructor
  · rintro ⟨h | h, h2⟩
    · exact ⟨h2, .inl h.symm⟩
    · exact ⟨h2, .inr h.symm⟩
  · rintro ⟨h2, h | h⟩
    · exact ⟨.inl h.symm, h2⟩
    · exact ⟨.inr h.symm, h2⟩
theorem paths_share (c e : Ch) : ((pathsC c).any fun s => (pathsC e).contains s) = shareC e c := by
  rw [Bool.eq_iff_iff, List.any_eq_true]
  unfold shareC
  rw [Bool.or_eq_true]
  constructor
  · rintro ⟨p, hp, h⟩
    rw [List.contains_iff_mem, mem_paths] at h
    rw [mem_paths, namesC_iff] at hp
    rcases hp.2 with h2 | h2
    · exact .inl (by rw [h2]; exact h)
    · exact .inr (by rw [h2]; exact h)
  · rintro (h | h)
    · exact ⟨c.fr, mem_paths.2 (namesC_iff.2 ⟨(namesC_iff.1 h).1, .inl rfl⟩), List.contains_iff_mem.2 (mem_paths.2 h)⟩
    · exact ⟨c.tt, mem_paths.2 (namesC_iff.2 ⟨(namesC_iff.1 h).1, .inr rfl⟩), List.contains_iff_mem.2 (mem_paths.2 h)⟩
theorem slash_app {dir t : Tx} (h : 47 ∉ dir) : slash (dir ++ 47 :: t) = dir.length ∧ hasSlash (dir ++ 47 :: t) = true := by
  refine ⟨?_, by simp [hasSlash]⟩
  unfold slash
  rw [List.findIdx_append]
  have h1 : ¬ List.findIdx (· == 47) dir < dir.length := by
    rw [List.findIdx_lt_length]
    rintro ⟨x, hx, e⟩
    rw [beq_iff_eq] at e
    rw [e] at hx
    exact h hx
  rw [if_neg h1]
  simp [List.findIdx_cons]
theorem dirOf_app {dir t : Tx} (h : 47 ∉ dir) : dirOf (dir ++ 47 :: t) = dir ∧ nameOf (dir ++ 47 :: t) = t := by
  obtain ⟨h1, h2⟩ := slash_app (t := t) h
  unfold dirOf nameOf
  rw [if_pos h2, if_pos h2, h1]
  constructor
  · simp
  · rw [List.drop_append]
    simp
theorem pre_dir {dir : Tx} (h : 47 ∉ dir) (h0 : dir ≠ []) (s : Tx) : Lib.hasPrefix s (dir ++ [47]) = decide (dirOf s = dir) := by
  rw [Bool.eq_iff_iff, decide_eq_true_iff]
  unfold Lib.hasPrefix
  rw [List.isPrefixOf_iff_prefix]
  constructor
  · rintro ⟨t, rfl⟩
    rw [List.append_assoc]
    exact (dirOf_app h).1
  · intro e
    have hs : hasSlash s = true := by
      cases hs : hasSlash s with
      | true => rfl
      | false =>
        unfold dirOf at e
        rw [hs] at e
        exact absurd e.symm h0
    refine ⟨nameOf s, ?_⟩
    have := slash_at hs
    rw [e] at this
    rw [List.append_assoc]
    exact this.symm
theorem cut_dir {dir : Tx} (h : 47 ∉ dir) (h0 : dir ≠ []) {s : Tx} (e : dirOf s = dir) : Lib.trimPrefix s (dir ++ [47]) = nameOf s := by
  have hp := pre_dir h h0 s
  rw [decide_eq_true e] at hp
  unfold Lib.trimPrefix
  rw [if_pos hp]
  have hs : hasSlash s = true := by
    cases hs : hasSlash s with
    | true => rfl
    | false =>
      unfold dirOf at e
      rw [hs] at e
      exact absurd e.symm h0
  have h1 := slash_at hs
  rw [e] at h1
  have h2 : s.drop (dir ++ [47]).length = (dir ++ 47 :: nameOf s).drop (dir ++ [47]).length := by rw [← h1]
  rw [h2, show dir ++ 47 :: nameOf s = (dir ++ [47]) ++ nameOf s by simp, List.drop_left]
theorem paths_within {dir : Tx} (h : 47 ∉ dir) (h0 : dir ≠ []) (c : Ch) : ((pathsC c).any fun s => Lib.hasPrefix s (dir ++ [47])) = withinC c dir := by
  have hn : dirOf [] ≠ dir := by intro e; apply h0; rw [← e]; rfl
  unfold withinC
  rw [Bool.eq_iff_iff, List.any_eq_true, Bool.or_eq_true, decide_eq_true_iff, decide_eq_true_iff]
  constructor
  · rintro ⟨p, hp, e⟩
    rw [pre_dir h h0, decide_eq_true_iff] at e
    rw [mem_paths, namesC_iff] at hp
    rcases hp.2 with h2 | h2
    · exact .inl (by rw [h2]; exact e)
    · exact .inr (by rw [h2]; exact e)
  · rintro (e | e)
    · exact ⟨c.fr, mem_paths.2 (namesC_iff.2 ⟨fun h3 => hn (by rw [← h3]; exact e), .inl rfl⟩), by rw [pre_dir h h0, decide_eq_true_iff]; exact e⟩
    · exact ⟨c.tt, mem_paths.2 (namesC_iff.2 ⟨fun h3 => hn (by rw [← h3]; exact e), .inr rfl⟩), by rw [pre_dir h h0, decide_eq_true_iff]; exact e⟩
def chA (c : Ch) (pv : Value) : Array Value := #[.int .i64 c.kind, .string (bs c.fr), .string (bs c.tt), pv]
def PtrV (pv : Value) : Prop := pv = .pointer none ∨ ∃ b, pv = .pointer (some b)
theorem leans1_walk (w : World) (s : Tx) (eb : Nat) (e : Ch) (pe : Value) (hp : PtrV pe) (hB : Blk w eb 80 (chA e pe)) :
    Calls Tryz.prog 90 #[.string (bs s), .pointer (some ⟨eb, 0, none⟩)] w fun e' w' => e' = .returned (.bool ((pathsC e).contains s)) ∧ Below w.heap.size w w' := by
  have k0 : w.cell? ⟨eb, 0, none⟩ = some (.int .i64 e.kind) := hB.cell 0
  have k1 : w.cell? ⟨eb, 1, none⟩ = some (.string (bs e.fr)) := hB.cell 1
  have k2 : w.cell? ⟨eb, 2, none⟩ = some (.string (bs e.tt)) := hB.cell 2
  have k3 : w.cell? ⟨eb, 3, none⟩ = some pe := hB.cell 3
  have HP := Lib.hid (paths_walk w e pe hp)
  have hl := paths_le e
  have HPv := Lib.hid hp
  obtain ⟨F, hF⟩ : ∃ F, (pathsC e).contains s = F := ⟨_, rfl⟩
  rw [hF]
  have HF := Lib.hid hF
  clear hF
  generalize pathsC e = L at *
  clear hB
  rcases hp with rfl | ⟨pb, rfl⟩
  all_goals
    go_enter Tryz.func90, Tryz.ntmps90
    go_wp2_with fail
    refine HP.out.mono ?_
    rintro e1 w1 ⟨hb1, A1, c1, rfl, hr1⟩
    have HB1 := Lib.hid hb1
    have KC := Lib.hid (contains_walk w1 A1 L.length c1 L s hr1 rfl (by omega))
    rw [HF.out] at KC
    clear hb1 hr1
    go_wp2_with fail
    refine KC.out.mono ?_
    rintro e2 w2 ⟨rfl, rfl⟩
    go_wp2_with fail
    go_ret
    exact ⟨rfl, HB1.out⟩
theorem leans_walk (w : World) (c e : Ch) (pc pe : Value) (hc : PtrV pc) (he : PtrV pe) :
    Calls Tryz.prog 42 #[.agg (chA c pc), .agg (chA e pe)] w fun e' w' => Below w.heap.size w w' ∧ e' = .returned (.bool (shareC e c)) := by
  have hb := ((Below.refl w.heap.size w).alloc (Nat.le_refl _) (.cells (chA c pc) 80)).alloc (by simp) (.cells (chA e pe) 80)
  have HB0 := Lib.hid hb
  have hX := (Blk.new w 80 (chA c pc)).alloc (.cells (chA e pe) 80)
  have HY := Lib.hid (Blk.new (w.alloc (.cells (chA c pc) 80)) 80 (chA e pe))
  have hs1 : (w.alloc (.cells (chA c pc) 80)).heap.size = w.heap.size + 1 := by simp
  rw [hs1] at HY
  have k0 : ((w.alloc (.cells (chA c pc) 80)).alloc (.cells (chA e pe) 80)).cell? ⟨w.heap.size, 0, none⟩ = some (.int .i64 c.kind) := hX.cell 0
  have k1 : ((w.alloc (.cells (chA c pc) 80)).alloc (.cells (chA e pe) 80)).cell? ⟨w.heap.size, 1, none⟩ = some (.string (bs c.fr)) := hX.cell 1
  have k2 : ((w.alloc (.cells (chA c pc) 80)).alloc (.cells (chA e pe) 80)).cell? ⟨w.heap.size, 2, none⟩ = some (.string (bs c.tt)) := hX.cell 2
  have k3 : ((w.alloc (.cells (chA c pc) 80)).alloc (.cells (chA e pe) 80)).cell? ⟨w.heap.size, 3, none⟩ = some pc := hX.cell 3
  have HP := Lib.hid (fun w => paths_walk w c pc hc)
  have HPE := Lib.hid he
  have hl := paths_le c
  have HSh := Lib.hid (paths_share c e)
  generalize shareC e c = F at *
  clear hb hX hs1
  unfold chA at *
  rcases hc with rfl | ⟨pb, rfl⟩
  all_goals
    go_enter Tryz.func42, Tryz.ntmps42
    go_wp2_with fail
    refine (HP.out _).mono ?_
    rintro e1 w1 ⟨hb1, A1, c1, rfl, hr1⟩
    have HB1 := Lib.hid (HB0.out.trans (hb1.mono HB0.out.size))
    have HYb := Lib.hid (HY.out.keep hb1)
    have KC := Lib.hid (contains_leans w1 A1 (pathsC c).length c1 (pathsC c) (fun s => (pathsC e).contains s) (w.heap.size + 1) hr1 rfl (by omega) (fun W p hb _ => leans1_walk W p (w.heap.size + 1) e pe HPE.out (HYb.out.keep hb)))
    rw [HSh.out] at KC
    clear hb1 hr1
    go_wp2_with fail
    refine KC.out.mono ?_
    rintro e2 w2 ⟨hb2, rfl⟩
    have HB2 := Lib.hid (HB1.out.trans (hb2.mono HB1.out.size))
    clear hb2
    go_wp2_with fail
    go_ret
    exact ⟨HB2.out, rfl⟩
theorem sync1_walk (w : World) (s dir : Tx) (eb : Nat) (hd : dir.length ≤ 32) (hB : Blk w eb 9 #[.string (bs dir)]) :
    Calls Tryz.prog 40 #[.string (bs s), .pointer (some ⟨eb, 0, none⟩)] w fun e' w' => e' = .returned (.bool (Lib.hasPrefix s (dir ++ [47]))) ∧ Below w.heap.size w w' := by
  have k0 : w.cell? ⟨eb, 0, none⟩ = some (.string (bs dir)) := hB.cell 0
  have K := Tryz.strings_HasPrefix (bs s) (bs (dir ++ [47])) w
  rw [bs_list, bs_list] at K
  have hsz : (bs dir).size ≤ 32 := by rw [bs_size]; exact hd
  have ea : (bs dir) ++ (⟨#[47]⟩ : ByteArray) = bs (dir ++ [47]) := bs_app dir [47]
  have HK := Lib.hid K
  clear hB K
  generalize Lib.hasPrefix s (dir ++ [47]) = F at *
  go_enter Tryz.func40, Tryz.ntmps40
  go_wp2_with fail
  refine HK.out.mono ?_
  rintro e1 w1 ⟨rfl, rfl⟩
  go_wp2_with fail
  go_ret
  exact ⟨rfl, Below.refl _ _⟩
end Go.Proofs.YtbpooaicmjkemaaGreatDoor

/-! The walk of a change's do: a map of entries with one more, one less, one moved. Conditions: the lengths. -/
namespace Go.Proofs.YtbpooaicmjkemaaGreatDoor
open Go.RowKit Go.Maps
set_option linter.unusedVariables false
theorem len_split : ∀ {L : Es}, sortE L → ∀ p : Tx, (L.filter fun e => decide (e.1 < p)).length + (L.filter fun e => decide (p < e.1)).length + (if getE L p = none then 0 else 1) = L.length
  | [], _, p => by simp [getE]
  | e :: r, h, p => by
    obtain ⟨h1, h2⟩ := List.pairwise_cons.1 h
    have ih := len_split h2 p
    unfold getE
    simp only [List.filter_cons, List.length_cons]
    rcases key_tot e.1 p with hlt | heq | hgt
    · have hn : ¬ p < e.1 := fun h => key_ir _ (key_tr hlt h)
      have hne : ¬ e.1 = p := fun h => by rw [h] at hlt; exact key_ir _ hlt
      simp only [hlt, hn, hne, decide_true, decide_false, if_true, if_false, List.length_cons, Bool.false_eq_true]
      omega
    · have h3 : ¬ e.1 < p := fun h => by rw [heq] at h; exact key_ir _ h
      have h4 : ¬ p < e.1 := fun h => by rw [heq] at h; exact key_ir _ h
      have hg : getE r p = none := getE_none.2 fun x hx hxp => by have := h1 x hx; rw [hxp, heq] at this; exact key_ir _ this
      rw [hg, if_pos rfl] at ih
      simp only [h3, h4, heq, decide_false, if_true, if_false, Bool.false_eq_true, reduceCtorEq]
      have h5 : ¬ p < p := key_ir p
      simp only [h5, decide_false, Bool.false_eq_true, if_false]
      omega
    · have hn : ¬ e.1 < p := fun h => key_ir _ (key_tr h hgt)
      have hne : ¬ e.1 = p := fun h => by rw [h] at hgt; exact key_ir _ hgt
      simp only [hn, hgt, hne, decide_true, decide_false, if_true, if_false, List.length_cons, Bool.false_eq_true]
      omega
theorem len_putE {L : Es} (h : sortE L) (p : Tx) (n : Nat) : (putE L p n).length = if getE L p = none then L.length + 1 else L.length := by
  have := len_split h p
  unfold putE
  rw [List.length_append, List.length_cons]
  split <;> rename_i hg
  · rw [if_pos hg] at this; omega
  · rw [if_neg hg] at this; omega
theorem len_dropE {L : Es} (h : sortE L) (p : Tx) : (dropE L p).length + (if getE L p = none then 0 else 1) = L.length := by
  induction L with
  | nil => simp [dropE, getE]
  | cons e r ih =>
    obtain ⟨h1, h2⟩ := List.pairwise_cons.1 h
    have ih := ih h2
    unfold getE
    unfold dropE at ih ⊢
    rw [List.filter_cons]
    by_cases he : e.1 = p
    · have hg : getE r p = none := getE_none.2 fun x hx hxp => by have := h1 x hx; rw [hxp, he] at this; exact key_ir _ this
      rw [hg, if_pos rfl] at ih
      simp only [he, ne_eq, not_true_eq_false, decide_false, Bool.false_eq_true, if_false, if_true, reduceCtorEq, List.length_cons]
      simpa using ih
    · simp only [ne_eq] at ih
      simp only [he, ne_eq, not_false_eq_true, decide_true, if_true, if_false, List.length_cons]
      omega
section
variable {w : World} {mb n : Nat} {D : DataW Unit} {L : Es} {bl : List Nat}
theorem has_get (he : MapE D L bl) (hil : ∀ e ∈ L, e.2 < bl.length) {p : Tx} (hp : p.length ≤ maxLen) : (Maps.has D (kL p) = true ↔ getE L p ≠ none) := by
  cases hg : getE L p with
  | none => rw [he.no p hp hg]; simp
  | some i => rw [(he.ya p i _ hp hg (List.getElem?_eq_getElem (hil _ (getE_some hg)))).1]; simp
theorem MapE.put (he : MapE D L bl) (ht : Tidy D) (hs : sortE L) (hil : ∀ e ∈ L, e.2 < bl.length) {p : Tx} (hp : p.length ≤ maxLen) {i b : Nat} (hb : bl[i]? = some b) :
    MapE (D.put (kL p) (.lit (.int .i64 (b : Int)))) (putE L p i) bl := by
  have hh := has_get he hil hp
  refine ⟨?_, fun p' hp' hg => ?_, fun p' i' b' hp' hg hb' => ?_⟩
  · rw [Maps.size_put ht, len_putE hs, he.sz]
    by_cases hg : getE L p = none
    · rw [if_pos hg, if_neg (fun h => hh.1 h hg)]
    · rw [if_neg hg, if_pos (hh.2 hg)]
  · rw [getE_putE hs] at hg
    split at hg
    · cases hg
    · rename_i hne
      rw [Maps.has_put_other (fun e => hne (kL_inj e))]
      exact he.no p' hp' hg
  · rw [getE_putE hs] at hg
    split at hg
    · rename_i e
      subst e
      obtain rfl := Option.some.inj hg
      rw [hb] at hb'
      obtain rfl := Option.some.inj hb'
      exact ⟨Maps.has_put_same ht.isMap (kL_key _) _, fun z => Maps.atKey_put_same ht.isMap (kL_key _) _ z⟩
    · rename_i hne
      obtain ⟨m3, m4⟩ := he.ya p' i' b' hp' hg hb'
      exact ⟨by rw [Maps.has_put_other (fun e => hne (kL_inj e))]; exact m3, fun z => by rw [Maps.atKey_put_other (fun e => hne (kL_inj e))]; exact m4 z⟩
theorem MapE.del (he : MapE D L bl) (ht : Tidy D) (hs : sortE L) (hil : ∀ e ∈ L, e.2 < bl.length) {p : Tx} (hp : p.length ≤ maxLen) : MapE (D.del (kL p)) (dropE L p) bl := by
  have hh := has_get he hil hp
  refine ⟨?_, fun p' hp' hg => ?_, fun p' i' b' hp' hg hb' => ?_⟩
  · have h1 := Maps.size_del (k := kL p) ht
    have h2 := len_dropE hs p
    rw [he.sz] at h1
    by_cases hg : getE L p = none
    · rw [if_neg (fun h => hh.1 h hg)] at h1
      rw [if_pos hg] at h2
      omega
    · rw [if_pos (hh.2 hg)] at h1
      rw [if_neg hg] at h2
      omega
  · rw [getE_dropE hs] at hg
    split at hg
    · rename_i e
      subst e
      exact Maps.has_del_same
    · rename_i hne
      rw [Maps.has_del_other (fun e => hne (kL_inj e))]
      exact he.no p' hp' hg
  · rw [getE_dropE hs] at hg
    split at hg
    · cases hg
    · rename_i hne
      obtain ⟨m3, m4⟩ := he.ya p' i' b' hp' hg hb'
      exact ⟨by rw [Maps.has_del_other (fun e => hne (kL_inj e))]; exact m3, fun z => by rw [Maps.atKey_del_other (fun e => hne (kL_inj e))]; exact m4 z⟩
end
/-- what a change leaves of a map of entries -/
def ChgPost (w : World) (mb nn : Nat) (L' : Es) (bl : List Nat) (e : Ending) (w' : World) : Prop :=
  ∃ D' n', w'.ownsMap Tryz.prog 9 ptrElem mb n' D' ∧ n' ≤ nn + 1 ∧ MapE D' L' bl ∧ (∀ k, k < w.heap.size → k ≠ mb → w'.heap[k]? = w.heap[k]?) ∧ w.heap.size ≤ w'.heap.size ∧ w'.os = w.os ∧ w'.tape = w.tape ∧ w'.output = w.output ∧ e = .returned (.tuple #[])
set_option maxRecDepth 100000 in
set_option maxHeartbeats 1000000 in
theorem chdo_walk (w : World) (mb nn : Nat) (D : DataW Unit) (L : Es) (bl : List Nat) (hO : w.ownsMap Tryz.prog 9 ptrElem mb nn D) (hE : MapE D L bl) (hs : sortE L) (hil : ∀ e ∈ L, e.2 < bl.length) (hn : nn ≤ 1000000000)
    (c : Ch) (pc : Value) (hc : OkC c) (h1 : c.kind = 1 → ∃ b, bl[c.node]? = some b ∧ pc = .pointer (some ⟨b, 0, none⟩)) (h0 : c.kind ≠ 1 → pc = .pointer none) (h2 : c.kind = 2 → getE L c.fr ≠ none) (hf : c.fr.length ≤ maxLen) (ht : c.tt.length ≤ maxLen) :
    Calls Tryz.prog 84 #[.agg (chA c pc), .map (some mb)] w (ChgPost w mb nn (didE L c) bl) := by
  have hT := hO.tidy lawS
  obtain ⟨kind, fr, tt, node⟩ := c
  simp only [] at h1 h0 h2 hf ht
  have HBx := Lib.hid (Blk.new w 80 #[.int .i64 kind, .string (bs fr), .string (bs tt), pc])
  have k0 : (w.alloc (.cells #[.int .i64 kind, .string (bs fr), .string (bs tt), pc] 80)).cell? ⟨w.heap.size, 0, none⟩ = some (.int .i64 kind) := HBx.out.cell 0
  have k1 : (w.alloc (.cells #[.int .i64 kind, .string (bs fr), .string (bs tt), pc] 80)).cell? ⟨w.heap.size, 1, none⟩ = some (.string (bs fr)) := HBx.out.cell 1
  have k2 : (w.alloc (.cells #[.int .i64 kind, .string (bs fr), .string (bs tt), pc] 80)).cell? ⟨w.heap.size, 2, none⟩ = some (.string (bs tt)) := HBx.out.cell 2
  have k3 : (w.alloc (.cells #[.int .i64 kind, .string (bs fr), .string (bs tt), pc] 80)).cell? ⟨w.heap.size, 3, none⟩ = some pc := HBx.out.cell 3
  have hO1 := hO.alloc (.cells #[.int .i64 kind, .string (bs fr), .string (bs tt), pc] 80)
  have hmb := hO.lt
  have hst : ∀ w', ((w.alloc (.cells #[.int .i64 kind, .string (bs fr), .string (bs tt), pc] 80)).grownBy w' (some mb)) → (∀ k, k < w.heap.size → k ≠ mb → w'.heap[k]? = w.heap[k]?) ∧ w.heap.size ≤ w'.heap.size ∧ w'.os = w.os ∧ w'.tape = w.tape ∧ w'.output = w.output := fun w' g =>
    ⟨fun k h1 h2 => (g.block k (by simp; omega) (fun e => h2 (by injection e))).trans (Below.heap_alloc w _ k h1), by have := g.size; simp at this; omega, g.os, g.tape, g.output⟩
  have HST := Lib.hid hst
  change Calls Tryz.prog 84 #[.agg #[.int .i64 kind, .string (bs fr), .string (bs tt), pc], .map (some mb)] w (ChgPost w mb nn (didE L ⟨kind, fr, tt, node⟩) bl)
  rcases hc with ⟨ek, ef, et⟩ | ⟨ek, ef, et, ene⟩ | ⟨ek, ef, et⟩
  · simp only [] at ek
    subst ek
    obtain ⟨b, hb, rfl⟩ := h1 rfl
    obtain ⟨wa, ua, oa, ga⟩ := hO1.update lawS Tryz.underlying65 (by unfold maxLen; omega) (keyS ht) (ptrElem_mk b)
    unfold ptrV at ua
    have HD := Lib.hid (hE.put hT hs hil ht hb)
    have HOA := Lib.hid oa
    have HGA := Lib.hid ga
    have HE : Hid (didE L ⟨1, fr, tt, node⟩ = putE L tt node) := Lib.hid rfl
    clear hO hE hs hil hT HBx h1 h0 h2 hf ht hO1 oa ga ef et hb hmb hn hst
    go_enter Tryz.func84, Tryz.ntmps84
    go_wp2_with fail
    refine bodyPost_ret (res0 rfl _ _ _) rfl ?_
    unfold ChgPost
    rw [HE.out]
    obtain ⟨s1, s2, s3, s4, s5⟩ := HST.out _ HGA.out
    exact ⟨_, _, HOA.out, Nat.le_refl _, HD.out, s1, s2, s3, s4, s5, rfl⟩
  · simp only [] at ek
    subst ek
    obtain ⟨i, hi⟩ := Option.ne_none_iff_exists'.1 (h2 rfl)
    have hil2 := hil _ (getE_some hi)
    obtain ⟨b, hb⟩ : ∃ b, bl[i]? = some b := ⟨_, List.getElem?_eq_getElem hil2⟩
    obtain rfl := h0 (by decide)
    have hlk := look1_yes hO1 hE hf hi hb 0
    rw [drewN0] at hlk
    obtain ⟨wa, ua, oa, ta⟩ := hO1.drop lawS Tryz.underlying65 (keyS hf) 0
    have hd := hE.del hT hs hil hf
    have hTd := hT.del (kL fr)
    have hsd := sort_dropE hs fr
    have hild : ∀ e ∈ dropE L fr, e.2 < bl.length := fun e he => hil e (mem_dropE.1 he).1
    obtain ⟨wb, ub, ob, gb⟩ := oa.update lawS Tryz.underlying65 (by unfold maxLen; omega) (keyS ht) (ptrElem_mk b)
    unfold ptrV at ub
    have HD := Lib.hid (hd.put hTd hsd hild ht hb)
    have HOB := Lib.hid ob
    have HGA := Lib.hid ta.grown
    have HGB := Lib.hid gb
    have HE : Hid (didE L ⟨2, fr, tt, node⟩ = putE (dropE L fr) tt i) := Lib.hid (by show (match getE L fr with | none => L | some n => putE (dropE L fr) tt n) = _; rw [hi])
    have hne : some w.heap.size ≠ some mb := fun e => by injection e; omega
    have k2a : wa.cell? ⟨w.heap.size, 2, none⟩ = some (.string (bs tt)) := (HBx.out.grown ta.grown hne).cell 2
    clear hO hE hs hil hT HBx h1 h0 h2 hf ht hO1 oa ta gb ob ef et ene hb hmb hn hst hi hil2 hd hTd hsd hild hne
    go_enter Tryz.func84, Tryz.ntmps84
    go_wp2_with fail
    refine bodyPost_ret (res0 rfl _ _ _) rfl ?_
    unfold ChgPost
    rw [HE.out]
    obtain ⟨s1, s2, s3, s4, s5⟩ := HST.out _ (HGA.out.trans HGB.out)
    exact ⟨_, _, HOB.out, Nat.le_refl _, HD.out, s1, s2, s3, s4, s5, rfl⟩
  · simp only [] at ek
    subst ek
    obtain rfl := h0 (by decide)
    obtain ⟨wa, ua, oa, ta⟩ := hO1.drop lawS Tryz.underlying65 (keyS hf) 0
    have HD := Lib.hid (hE.del hT hs hil hf)
    have HOA := Lib.hid oa
    have HGA := Lib.hid ta.grown
    have HE : Hid (didE L ⟨3, fr, tt, node⟩ = dropE L fr) := Lib.hid rfl
    clear hO hE hs hil hT HBx h1 h0 h2 hf ht hO1 oa ta ef et hmb hn hst
    go_enter Tryz.func84, Tryz.ntmps84
    go_wp2_with fail
    refine bodyPost_ret (res0 rfl _ _ _) rfl ?_
    unfold ChgPost
    rw [HE.out]
    obtain ⟨s1, s2, s3, s4, s5⟩ := HST.out _ HGA.out
    exact ⟨_, _, HOA.out, Nat.le_succ _, HD.out, s1, s2, s3, s4, s5, rfl⟩
end Go.Proofs.YtbpooaicmjkemaaGreatDoor
