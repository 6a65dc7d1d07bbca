/-
  The walks of the program's leans and of SyncDir's predicate. Conditions: the lengths.
-/
import Derived.Test.YtbpooaicmjkemaaDoorSfFn
namespace Go.Proofs.YtbpooaicmjkemaaDoor
open Go.RowKit Go.Maps Go.Sort
set_option linter.unusedVariables false
theorem paths_le (c : Ch) : (pathsC c).length ≤ 2 := List.length_filter_le _ _
theorem mem_paths {c : Ch} {p : Tx} : p ∈ pathsC c ↔ namesC c p = true := by
  rw [namesC_iff]
  unfold pathsC
  simp only [List.mem_filter, List.mem_cons, List.not_mem_nil, or_false, Bool.not_eq_true', decide_eq_false_iff_not]
  constructor
  · rintro ⟨h | h, h2⟩
    · exact ⟨h2, .inl h.symm⟩
    · exact ⟨h2, .inr h.symm⟩
  · rintro ⟨h2, h | h⟩
    · exact ⟨.inl h.symm, h2⟩
    · exact ⟨.inr h.symm, h2⟩
theorem paths_share (c e : Ch) : ((pathsC c).any fun s => (pathsC e).contains s) = shareC e c := by
  rw [Bool.eq_iff_iff, List.any_eq_true]
  unfold shareC
  rw [Bool.or_eq_true]
  constructor
  · rintro ⟨p, hp, h⟩
    rw [List.contains_iff_mem, mem_paths] at h
    rw [mem_paths, namesC_iff] at hp
    rcases hp.2 with h2 | h2
    · exact .inl (by rw [h2]; exact h)
    · exact .inr (by rw [h2]; exact h)
  · rintro (h | h)
    · exact ⟨c.fr, mem_paths.2 (namesC_iff.2 ⟨(namesC_iff.1 h).1, .inl rfl⟩), List.contains_iff_mem.2 (mem_paths.2 h)⟩
    · exact ⟨c.tt, mem_paths.2 (namesC_iff.2 ⟨(namesC_iff.1 h).1, .inr rfl⟩), List.contains_iff_mem.2 (mem_paths.2 h)⟩
theorem slash_app {dir t : Tx} (h : 47 ∉ dir) : slash (dir ++ 47 :: t) = dir.length ∧ hasSlash (dir ++ 47 :: t) = true := by
  refine ⟨?_, by simp [hasSlash]⟩
  unfold slash
  rw [List.findIdx_append]
  have h1 : ¬ List.findIdx (· == 47) dir < dir.length := by
    rw [List.findIdx_lt_length]
    rintro ⟨x, hx, e⟩
    rw [beq_iff_eq] at e
    rw [e] at hx
    exact h hx
  rw [if_neg h1]
  simp [List.findIdx_cons]
theorem dirOf_app {dir t : Tx} (h : 47 ∉ dir) : dirOf (dir ++ 47 :: t) = dir ∧ nameOf (dir ++ 47 :: t) = t := by
  obtain ⟨h1, h2⟩ := slash_app (t := t) h
  unfold dirOf nameOf
  rw [if_pos h2, if_pos h2, h1]
  constructor
  · simp
  · rw [List.drop_append]
    simp
theorem pre_dir {dir : Tx} (h : 47 ∉ dir) (h0 : dir ≠ []) (s : Tx) : Lib.hasPrefix s (dir ++ [47]) = decide (dirOf s = dir) := by
  rw [Bool.eq_iff_iff, decide_eq_true_iff]
  unfold Lib.hasPrefix
  rw [List.isPrefixOf_iff_prefix]
  constructor
  · rintro ⟨t, rfl⟩
    rw [List.append_assoc]
    exact (dirOf_app h).1
  · intro e
    have hs : hasSlash s = true := by
      cases hs : hasSlash s with
      | true => rfl
      | false =>
        unfold dirOf at e
        rw [hs] at e
        exact absurd e.symm h0
    refine ⟨nameOf s, ?_⟩
    have := slash_at hs
    rw [e] at this
    rw [List.append_assoc]
    exact this.symm
theorem cut_dir {dir : Tx} (h : 47 ∉ dir) (h0 : dir ≠ []) {s : Tx} (e : dirOf s = dir) : Lib.trimPrefix s (dir ++ [47]) = nameOf s := by
  have hp := pre_dir h h0 s
  rw [decide_eq_true e] at hp
  unfold Lib.trimPrefix
  rw [if_pos hp]
  have hs : hasSlash s = true := by
    cases hs : hasSlash s with
    | true => rfl
    | false =>
      unfold dirOf at e
      rw [hs] at e
      exact absurd e.symm h0
  have h1 := slash_at hs
  rw [e] at h1
  have h2 : s.drop (dir ++ [47]).length = (dir ++ 47 :: nameOf s).drop (dir ++ [47]).length := by rw [← h1]
  rw [h2, show dir ++ 47 :: nameOf s = (dir ++ [47]) ++ nameOf s by simp, List.drop_left]
theorem paths_within {dir : Tx} (h : 47 ∉ dir) (h0 : dir ≠ []) (c : Ch) : ((pathsC c).any fun s => Lib.hasPrefix s (dir ++ [47])) = withinC c dir := by
  have hn : dirOf [] ≠ dir := by intro e; apply h0; rw [← e]; rfl
  unfold withinC
  rw [Bool.eq_iff_iff, List.any_eq_true, Bool.or_eq_true, decide_eq_true_iff, decide_eq_true_iff]
  constructor
  · rintro ⟨p, hp, e⟩
    rw [pre_dir h h0, decide_eq_true_iff] at e
    rw [mem_paths, namesC_iff] at hp
    rcases hp.2 with h2 | h2
    · exact .inl (by rw [h2]; exact e)
    · exact .inr (by rw [h2]; exact e)
  · rintro (e | e)
    · exact ⟨c.fr, mem_paths.2 (namesC_iff.2 ⟨fun h3 => hn (by rw [← h3]; exact e), .inl rfl⟩), by rw [pre_dir h h0, decide_eq_true_iff]; exact e⟩
    · exact ⟨c.tt, mem_paths.2 (namesC_iff.2 ⟨fun h3 => hn (by rw [← h3]; exact e), .inr rfl⟩), by rw [pre_dir h h0, decide_eq_true_iff]; exact e⟩
def chA (c : Ch) (pv : Value) : Array Value := #[.int .i64 c.kind, .string (bs c.fr), .string (bs c.tt), pv]
def PtrV (pv : Value) : Prop := pv = .pointer none ∨ ∃ b, pv = .pointer (some b)
theorem leans1_walk (w : World) (s : Tx) (eb : Nat) (e : Ch) (pe : Value) (hp : PtrV pe) (hB : Blk w eb 68 (chA e pe)) :
    Calls Tryd.prog 55 #[.string (bs s), .pointer (some ⟨eb, 0, none⟩)] w fun e' w' => e' = .returned (.bool ((pathsC e).contains s)) ∧ Below w.heap.size w w' := by
  have k0 : w.cell? ⟨eb, 0, none⟩ = some (.int .i64 e.kind) := hB.cell 0
  have k1 : w.cell? ⟨eb, 1, none⟩ = some (.string (bs e.fr)) := hB.cell 1
  have k2 : w.cell? ⟨eb, 2, none⟩ = some (.string (bs e.tt)) := hB.cell 2
  have k3 : w.cell? ⟨eb, 3, none⟩ = some pe := hB.cell 3
  have HP := Lib.hid (paths_walk w e pe hp)
  have hl := paths_le e
  have HPv := Lib.hid hp
  obtain ⟨F, hF⟩ : ∃ F, (pathsC e).contains s = F := ⟨_, rfl⟩
  rw [hF]
  have HF := Lib.hid hF
  clear hF
  generalize pathsC e = L at *
  clear hB
  rcases hp with rfl | ⟨pb, rfl⟩
  all_goals
    go_enter Tryd.func55, Tryd.ntmps55
    go_wp2_with fail
    refine HP.out.mono ?_
    rintro e1 w1 ⟨hb1, A1, c1, rfl, hr1⟩
    have HB1 := Lib.hid hb1
    have KC := Lib.hid (contains_walk w1 A1 L.length c1 L s hr1 rfl (by omega))
    rw [HF.out] at KC
    clear hb1 hr1
    go_wp2_with fail
    refine KC.out.mono ?_
    rintro e2 w2 ⟨rfl, rfl⟩
    go_wp2_with fail
    go_ret
    exact ⟨rfl, HB1.out⟩
theorem leans_walk (w : World) (c e : Ch) (pc pe : Value) (hc : PtrV pc) (he : PtrV pe) :
    Calls Tryd.prog 36 #[.agg (chA c pc), .agg (chA e pe)] w fun e' w' => Below w.heap.size w w' ∧ e' = .returned (.bool (shareC e c)) := by
  have hb := ((Below.refl w.heap.size w).alloc (Nat.le_refl _) (.cells (chA c pc) 68)).alloc (by simp) (.cells (chA e pe) 68)
  have HB0 := Lib.hid hb
  have hX := (Blk.new w 68 (chA c pc)).alloc (.cells (chA e pe) 68)
  have HY := Lib.hid (Blk.new (w.alloc (.cells (chA c pc) 68)) 68 (chA e pe))
  have hs1 : (w.alloc (.cells (chA c pc) 68)).heap.size = w.heap.size + 1 := by simp
  rw [hs1] at HY
  have k0 : ((w.alloc (.cells (chA c pc) 68)).alloc (.cells (chA e pe) 68)).cell? ⟨w.heap.size, 0, none⟩ = some (.int .i64 c.kind) := hX.cell 0
  have k1 : ((w.alloc (.cells (chA c pc) 68)).alloc (.cells (chA e pe) 68)).cell? ⟨w.heap.size, 1, none⟩ = some (.string (bs c.fr)) := hX.cell 1
  have k2 : ((w.alloc (.cells (chA c pc) 68)).alloc (.cells (chA e pe) 68)).cell? ⟨w.heap.size, 2, none⟩ = some (.string (bs c.tt)) := hX.cell 2
  have k3 : ((w.alloc (.cells (chA c pc) 68)).alloc (.cells (chA e pe) 68)).cell? ⟨w.heap.size, 3, none⟩ = some pc := hX.cell 3
  have HP := Lib.hid (fun w => paths_walk w c pc hc)
  have HPE := Lib.hid he
  have hl := paths_le c
  have HSh := Lib.hid (paths_share c e)
  generalize shareC e c = F at *
  clear hb hX hs1
  unfold chA at *
  rcases hc with rfl | ⟨pb, rfl⟩
  all_goals
    go_enter Tryd.func36, Tryd.ntmps36
    go_wp2_with fail
    refine (HP.out _).mono ?_
    rintro e1 w1 ⟨hb1, A1, c1, rfl, hr1⟩
    have HB1 := Lib.hid (HB0.out.trans (hb1.mono HB0.out.size))
    have HYb := Lib.hid (HY.out.keep hb1)
    have KC := Lib.hid (contains_leans w1 A1 (pathsC c).length c1 (pathsC c) (fun s => (pathsC e).contains s) (w.heap.size + 1) hr1 rfl (by omega) (fun W p hb _ => leans1_walk W p (w.heap.size + 1) e pe HPE.out (HYb.out.keep hb)))
    rw [HSh.out] at KC
    clear hb1 hr1
    go_wp2_with fail
    refine KC.out.mono ?_
    rintro e2 w2 ⟨hb2, rfl⟩
    have HB2 := Lib.hid (HB1.out.trans (hb2.mono HB1.out.size))
    clear hb2
    go_wp2_with fail
    go_ret
    exact ⟨HB2.out, rfl⟩
theorem sync1_walk (w : World) (s dir : Tx) (eb : Nat) (hd : dir.length ≤ 32) (hB : Blk w eb 9 #[.string (bs dir)]) :
    Calls Tryd.prog 34 #[.string (bs s), .pointer (some ⟨eb, 0, none⟩)] w fun e' w' => e' = .returned (.bool (Lib.hasPrefix s (dir ++ [47]))) ∧ Below w.heap.size w w' := by
  have k0 : w.cell? ⟨eb, 0, none⟩ = some (.string (bs dir)) := hB.cell 0
  have K := Tryd.strings_HasPrefix (bs s) (bs (dir ++ [47])) w
  rw [bs_list, bs_list] at K
  have hsz : (bs dir).size ≤ 32 := by rw [bs_size]; exact hd
  have ea : (bs dir) ++ (⟨#[47]⟩ : ByteArray) = bs (dir ++ [47]) := bs_app dir [47]
  have HK := Lib.hid K
  clear hB K
  generalize Lib.hasPrefix s (dir ++ [47]) = F at *
  go_enter Tryd.func34, Tryd.ntmps34
  go_wp2_with fail
  refine HK.out.mono ?_
  rintro e1 w1 ⟨rfl, rfl⟩
  go_wp2_with fail
  go_ret
  exact ⟨rfl, Below.refl _ _⟩
end Go.Proofs.YtbpooaicmjkemaaDoor
