/-
  The walk of slices.Insert at entries, one entry more. Conditions: the size.
-/
import Derived.Test.YtlknclkkhincfaaDoorTbPla
import Derived.Test.YtlknclkkhincfaaDoorLibAll
import Derived.Shelf.Spec.SlicesInsert
namespace Go.Proofs.YtlknclkkhincfaaDoor
open Go.RowKit Go.Shelf
set_option linter.unusedVariables false
theorem uxE : UX Tryd.prog 68 78 2 := by
  obtain ⟨i, h1, h2, h3, h4⟩ := info_parts (show (Tryd.prog.info? 78).map (fun i => (i.zero, i.size, i.bytes)) = some (some (.agg #[.string ⟨#[]⟩, .string ⟨#[]⟩]), 2, 32) by kernel_rfl)
  exact ⟨Tryd.underlying68, ⟨i, _, h1, h2, rfl, h3, by omega⟩, by omega⟩
theorem enC_one (T : List En) : ∀ u ∈ (T.map enC).flatten, u.oneCell' = true := by
  intro u hu
  obtain ⟨r, hr, hu⟩ := List.mem_flatten.1 hu
  obtain ⟨e, _, rfl⟩ := List.mem_map.1 hr
  simp [enC] at hu
  rcases hu with rfl | rfl <;> rfl
theorem enC_put (T : List En) (x : En) (i : Nat) : ((T.take i ++ x :: T.drop i).map enC).flatten = (T.map enC).flatten.take (i * 2) ++ enC x ++ (T.map enC).flatten.drop (i * 2) := by
  rw [flat_take i (enC_len T), flat_drop i (enC_len T), List.map_append, List.flatten_append, List.map_cons, List.flatten_cons, List.append_assoc, List.map_take, List.map_drop]
theorem enx_one (x : En) : ∀ u ∈ enC x, u.oneCell' = true := by
  intro u hu
  simp [enC] at hu
  rcases hu with rfl | rfl <;> rfl
theorem enx_news {w : World} {vb : Nat} {x : En} (hB : Blk w vb 78 #[.string (bs x.k), .string (bs x.v)]) : ∀ ad, (some (⟨vb, 0, none⟩ : Addr)) = some ad → ∀ j u, (enC x)[j]? = some u → w.cell? (ad.add j) = some u := by
  intro ad e j u hu
  cases e
  rw [Addr.add_lit, Nat.zero_add, hB.cell j]
  simpa [enC] using hu
def InsPost (w : World) (g : Option Nat) (T : List En) (i : Nat) (x : En) (e : Ending) (w' : World) : Prop :=
  ∃ v' g', e = .returned v' ∧ OwnX 2 w' g' v' ((T.take i ++ x :: T.drop i).map enC).flatten ∧ w.grownBy w' g ∧ (g' = g ∨ ∃ k, g' = some k ∧ w.heap.size ≤ k)
set_option maxRecDepth 100000 in
set_option maxHeartbeats 1000000 in
theorem ins_end (w : World) (A : Option Addr) (c n : Nat) (g : Option Nat) (T : List En) (x : En) (vb : Nat) (hn : n = T.length) (hX : OwnX 2 w g (.slice A n c) (T.map enC).flatten) (hB : Blk w vb 78 #[.string (bs x.k), .string (bs x.v)]) (hl : n ≤ 100000) :
    Calls Tryd.prog 28 #[.slice A n c, .int .i64 (n : Int), .slice (some ⟨vb, 0, none⟩) 1 1] w (InsPost w g T n x) := by
  obtain ⟨e1, e2, e3, -⟩ := hX.re
  unfold maxLen at e3
  have HX := Lib.hid hX
  have HB := Lib.hid hB
  have HN := Lib.hid hn
  have hfl : Hid ((T.map enC).flatten.length + 1 * 2 ≤ 1000000000000) := Lib.hid (by rw [flat_len (enC_len T), List.length_map, ← hn]; omega)
  clear hX hB hn e1
  go_enter Tryd.func28, Tryd.ntmps28
  go_wp2_with (at_builtin; refine wpList_appX _ uxE (.tmp 23) (.tmp 24) rfl rfl rfl HX.out (some ⟨vb, 0, none⟩) 1 1 rfl (enC x) rfl (fun h => by cases h) (enx_news HB.out) (enx_one x) hfl.out ?_; intro v3 g3 w3 hX3 hG3 ho3; obtain ⟨A3, n3, c3, rfl, -⟩ := hX3.sl; have HX3 := Lib.hid hX3; have HG3 := Lib.hid hG3; have HO3 := Lib.hid ho3; clear hX3 hG3 ho3)
  all_goals
    go_ret
    refine ⟨_, g3, rfl, ?_, HG3.out, ?_⟩
    · rw [HN.out, List.take_of_length_le (Nat.le_refl _), List.drop_of_length_le (Nat.le_refl _)]
      have : ((T ++ [x]).map enC).flatten = (T.map enC).flatten ++ enC x := by simp
      rw [this]
      exact HX3.out
    · rcases HO3.out with h | h
      · exact .inl h
      · exact .inr ⟨_, h, Nat.le_refl _⟩
set_option maxRecDepth 100000 in
set_option maxHeartbeats 2000000 in
theorem ins_room (w : World) (b off c n i : Nat) (g : Option Nat) (T : List En) (x : En) (vb : Nat) (hn : n = T.length) (hX : OwnX 2 w g (.slice (some ⟨b, off, none⟩) n c) (T.map enC).flatten) (hB : Blk w vb 78 #[.string (bs x.k), .string (bs x.v)]) (hne : vb ≠ b) (hl : n ≤ 100000) (hi : i < n) (hroom : n + 1 ≤ c) (hgb : g = some b) :
    Calls Tryd.prog 28 #[.slice (some ⟨b, off, none⟩) n c, .int .i64 (i : Int), .slice (some ⟨vb, 0, none⟩) 1 1] w (InsPost w g T i x) := by
  obtain ⟨e1, e2, e3, -⟩ := hX.re
  unfold maxLen at e3
  obtain ⟨_, _, ho, e, hlt, hcl, hf⟩ := hX.at_ (by omega)
  injection e with e
  injection e with e4 e5
  subst e4 e5
  have hxl : (T.map enC).flatten.length = n * 2 := by rw [flat_len (enC_len T), List.length_map, ← hn]
  have hS := (show OwnX 2 w.drew g (.slice (some ⟨b, off, none⟩) n c) (T.map enC).flatten from hX).shift (by omega) hroom i (by omega) (vs := enC x) rfl
  obtain ⟨cv, hcv⟩ := Option.isSome_iff_exists.1 (hf 0 (by omega)).1
  obtain ⟨tB, kB, hsb, hkB⟩ := shape_of (w := w) hcv
  have hsa : w.shape? vb = some (78, 2) := by unfold World.shape?; unfold Blk at hB; rw [hB]; rfl
  have hov : ∀ lb cb, (callFunc 56 #[.slice (some ⟨vb, 0, none⟩) 1 1, .slice (some ⟨b, off + (i + 1) * 2, none⟩) lb cb]).run Tryd.prog w = .ok (.value (.bool false)) w := fun lb cb => by
    rw [run_callFunc_extern Tryd.func56 (by kernel_rfl) (by kernel_rfl) (by kernel_rfl) (e := Extern.SlicesOverlaps.overlaps #[68, 68] #[4]) (by kernel_rfl),
      Lib.run_overlaps_apart w 68 4 78 Tryd.underlying68 2 Tryd.sizeOf78 ⟨vb, 0, none⟩ ⟨b, off + (i + 1) * 2, none⟩ 1 1 lb cb hne 78 tB 2 kB hsa hsb hkB (hB.frozen 0) (hB.frozen 2)]
    rfl
  have hz1 : ¬ ((i : Int) = (n : Int)) := by omega
  have hzb : ((i : Int) == (n : Int)) = false := beq_eq_false_iff_ne.2 hz1
  have hz3 : ¬ ((c : Int) < (n : Int) + 1) := by omega
  have HS := Lib.hid hS
  have hinfo : (Tryd.prog.info? 78).map (·.size) = some 2 := by kernel_rfl
  have hcp1 : ∀ dl, dl = n - i → ∀ ty dc sc, (Builtin.copy_ #[68, 68] ty #[.slice (some ⟨b, off + (i + 1) * 2, none⟩) dl dc, .slice (some ⟨b, off + i * 2, none⟩) (n + 1 - i) sc]).run Tryd.prog w.drew = .ok (goInt ((n - i : Nat) : Int)) (w.drew.setCells b (off + (i + 1) * 2) ((T.map enC).flatten.drop (i * 2))) := fun dl hdl ty dc sc =>
    run_copyX w.drew _ _ ty 78 2 b (off + (i + 1) * 2) dl dc ⟨b, off + i * 2, none⟩ (n + 1 - i) sc (n - i) ((T.map enC).flatten.drop (i * 2)) Tryd.underlying68 hinfo (by simp only [Nat.min_def]; split <;> omega) (by rw [List.length_drop, hxl]; omega)
      (fun j v hj => by
        rw [List.getElem?_drop] at hj
        have hj2 := (List.getElem?_eq_some_iff.1 hj).1
        rw [Addr.add_lit, Nat.add_assoc, ← hj]
        exact hcl _ hj2)
      (fun j hj => by rw [List.length_drop, hxl] at hj; rw [Nat.add_assoc]; exact (hf ((i + 1) * 2 + j) (by omega)).1) (fun j hj => by rw [List.length_drop, hxl] at hj; rw [Nat.add_assoc]; exact (hf ((i + 1) * 2 + j) (by omega)).2) (fun u hu => enC_one T u (List.mem_of_mem_drop hu))
  obtain ⟨W1, hW1⟩ : ∃ W1, W1 = w.drew.setCells b (off + (i + 1) * 2) ((T.map enC).flatten.drop (i * 2)) := ⟨_, rfl⟩
  have hcp2 : ∀ (W : World), (∀ x, W.cell? x = W1.cell? x) → (∀ x, W.frozen? x = W1.frozen? x) → ∀ ty dc, (Builtin.copy_ #[68, 68] ty #[.slice (some ⟨b, off + i * 2, none⟩) (n + 1 - i) dc, .slice (some ⟨vb, 0, none⟩) 1 1]).run Tryd.prog W = .ok (goInt ((1 : Nat) : Int)) (W.setCells b (off + i * 2) (enC x)) := fun W hWc hWf ty dc =>
    run_copyX W _ _ ty 78 2 b (off + i * 2) (n + 1 - i) dc ⟨vb, 0, none⟩ 1 1 1 (enC x) Tryd.underlying68 hinfo (by simp only [Nat.min_def]; split <;> omega) rfl
      (fun j v hj => by
        rw [Addr.add_lit, Nat.zero_add, hWc, hW1, World.cell?_setCells_out b _ _ _ _ (fun h _ => absurd h hne)]
        have := hB.cell j
        rw [show w.drew.cell? ⟨vb, j, none⟩ = w.cell? ⟨vb, j, none⟩ from rfl, this]
        simpa [enC] using hj)
      (fun j hj => by
        have hj : j < 2 := hj
        rw [hWc, hW1]
        exact isSome_sets b _ _ _ (fun k hk => by rw [List.length_drop, hxl] at hk; rw [Nat.add_assoc]; exact (hf ((i + 1) * 2 + k) (by omega)).1) _ (by rw [Nat.add_assoc]; exact (hf (i * 2 + j) (by omega)).1))
      (fun j hj => by
        have hj : j < 2 := hj
        rw [hWf, hW1, World.frozen?_setCells, Nat.add_assoc]; exact (hf (i * 2 + j) (by omega)).2)
      (enx_one x)
  have HW1 := Lib.hid hW1
  have mixed : Tryd.prog.follows .mixedOrders = true := by kernel_rfl
  have hb1 : (0 : Int) ≤ (i : Int) + 1 := by omega
  have hin : i ≤ n := by omega
  have htn : ((i : Int) + 1).toNat = i + 1 := by omega
  have hb2 : ¬ (c = i + 1) := by omega
  have hb3 : (i : Int) ≤ (n : Int) + 1 := by omega
  have hb4 : ¬ (c = i) := by omega
  have hw1 : IntKind.i64.wrap ((i : Int) + 1) = (i : Int) + 1 := by rw [IntKind.wrap_i64]; omega
  rw [← hW1] at hcp1
  have HCP1 := Lib.hid hcp1
  have HCP2 := Lib.hid hcp2
  have HOV := Lib.hid hov
  clear hX hB hn e1 hcl hf hcv hsb hsa hov hcp1 hcp2 hS hinfo hxl hW1 ho
  go_enter Tryd.func28, Tryd.ntmps28
  go_wp2_with (simp only [HOV.out])
  go_region_law_o (refine step_copy_runI rfl _ _ 68 68 rfl (.slice (some ⟨b, off + (i + 1) * 2, none⟩) (n - i) (c - (i + 1))) (.slice (some ⟨b, off + i * 2, none⟩) (n + 1 - i) (c - i)) (by simp [Act.eval, Act.put]) (by simp [Act.eval, Act.put]) (HCP1.out (n - i) rfl _ _ _) ?_)
  go_wp2_with (with_reducible refine wpList_copy_runI _ (o := ⟨some 82, _, _, _, _, _⟩) rfl (.tmp 80) (.tmp 81) 68 68 rfl (.slice (some ⟨b, off + i * 2, none⟩) (n + 1 - i) (c - i)) (.slice (some ⟨vb, 0, none⟩) 1 1) rfl rfl (HCP2.out _ (fun _ => rfl) (fun _ => rfl) _ _) ?_)
  go_ret
  have hS := HS.out
  rw [← HW1.out] at hS
  refine ⟨_, g, rfl, ?_, ⟨hS.2.os, hS.2.tape, hS.2.output, hS.2.size, hS.2.block⟩, .inl rfl⟩
  rw [enC_put]
  exact hS.1
set_option maxRecDepth 100000 in
set_option maxHeartbeats 2000000 in
theorem ins_grow (w : World) (b off c n i : Nat) (g : Option Nat) (T : List En) (x : En) (vb : Nat) (hn : n = T.length) (hX : OwnX 2 w g (.slice (some ⟨b, off, none⟩) n c) (T.map enC).flatten) (hB : Blk w vb 78 #[.string (bs x.k), .string (bs x.v)]) (hl : n ≤ 100000) (hi : i < n) (hroom : c < n + 1) :
    Calls Tryd.prog 28 #[.slice (some ⟨b, off, none⟩) n c, .int .i64 (i : Int), .slice (some ⟨vb, 0, none⟩) 1 1] w (InsPost w g T i x) := by
  obtain ⟨e1, e2, e3, -⟩ := hX.re
  unfold maxLen at e3
  obtain rfl : c = n := by omega
  obtain ⟨_, _, ho, e, hlt, hcl, hf⟩ := hX.at_ (by omega)
  injection e with e
  injection e with e4 e5
  subst e4 e5
  have hxl : (T.map enC).flatten.length = c * 2 := by rw [flat_len (enC_len T), List.length_map, ← hn]
  obtain ⟨i0, hi0, hz0, hzs, hzb⟩ := info_parts (show (Tryd.prog.info? 78).map (fun i => (i.zero, i.size, i.bytes)) = some (some (.agg #[.string ⟨#[]⟩, .string ⟨#[]⟩]), 2, 32) by kernel_rfl)
  have hinfo : (Tryd.prog.info? 78).map (·.size) = some 2 := by kernel_rfl
  have hold : (Builtin.firstCells i0.size i (.slice (some ⟨b, off, none⟩) i c)).run Tryd.prog w.drew = .ok ((T.map enC).flatten.take (i * 2)).toArray w.drew := by
    rw [hzs]
    exact run_firstCells_some w.drew 2 i ⟨b, off, none⟩ i c ((T.map enC).flatten.take (i * 2)) (by rw [List.length_take]; omega) (fun j v hj => by
      rw [Addr.add_lit]
      rw [List.getElem?_take] at hj
      split at hj
      · rw [← hj]; exact hcl j (by omega)
      · cases hj)
  have hrz : ∀ ty, (Builtin.append_ #[68, 3] ty #[.slice (some ⟨b, off, none⟩) i c, .int .i64 ((c : Int) + 1 - (i : Int))]).run Tryd.prog w =
      .ok (.slice (some ⟨w.heap.size, 0, none⟩) (c + 1) (grownCap w (c + 1) c 78)) (w.drew.alloc (.cells (((T.map enC).flatten.take (i * 2)).toArray ++ Builtin.zeroCells (Value.agg #[.string ⟨#[]⟩, .string ⟨#[]⟩]).cells (c + 1 - i) ++ Builtin.zeroCells (Value.agg #[.string ⟨#[]⟩, .string ⟨#[]⟩]).cells (grownCap w (c + 1) c 78 - (c + 1))) 78)) := fun ty => by
    have h := Lib.run_append_grow_zeros w 68 3 ty 78 i0 _ .i64 .i64 Tryd.underlying68 Tryd.underlying3 hi0 hz0 (some ⟨b, off, none⟩) i c ((T.map enC).flatten.take (i * 2)) hold (c + 1 - i) (by omega) (by omega) (by omega) (by omega) (by rw [hzb]; omega) (by rw [hzb, show i + (c + 1 - i) = c + 1 by omega]; exact growslice_fits (by omega) (by omega))
    rw [show i + (c + 1 - i) = c + 1 by omega] at h
    rw [show (c : Int) + 1 - (i : Int) = ((c + 1 - i : Nat) : Int) by omega]
    exact h
  obtain ⟨G, hG⟩ : ∃ G, G = grownCap w (c + 1) c 78 := ⟨_, rfl⟩
  obtain ⟨ROW, hROW⟩ : ∃ ROW : Array Value, ROW = ((T.map enC).flatten.take (i * 2)).toArray ++ Builtin.zeroCells (Value.agg #[.string ⟨#[]⟩, .string ⟨#[]⟩]).cells (c + 1 - i) ++ Builtin.zeroCells (Value.agg #[.string ⟨#[]⟩, .string ⟨#[]⟩]).cells (G - (c + 1)) := ⟨_, rfl⟩
  rw [← hG] at hrz
  rw [← hROW] at hrz
  have hGn : c + 1 ≤ G := by rw [hG]; exact grownCap_ge w _ _ _
  have hG63 : G ≤ maxLen := by rw [hG]; exact grownCap_le_maxLen w (c + 1) c 78 (by unfold maxLen; omega)
  have hRs : ROW.size = G * 2 := by
    rw [hROW, Array.size_append, Array.size_append, size_zeroCells, size_zeroCells]
    rw [List.size_toArray, List.length_take, hxl]
    have : (Value.agg #[.string ⟨#[]⟩, .string ⟨#[]⟩]).cells.size = 2 := rfl
    rw [this]
    omega
  obtain ⟨W1, hW1⟩ : ∃ W1, W1 = w.drew.alloc (.cells ROW 78) := ⟨_, rfl⟩
  have B1 : Blk W1 w.heap.size 78 ROW := by rw [hW1]; exact Blk.new w.drew 78 ROW
  have hbW : Below w.heap.size w W1 := by rw [hW1]; exact (show Below w.heap.size w w.drew from ⟨rfl, rfl, rfl, Nat.le_refl _, fun _ _ => rfl⟩).alloc (Nat.le_refl _) _
  have hN : w.heap.size < W1.heap.size := B1.lt
  have hbn : b ≠ w.heap.size := by omega
  have hvn : vb ≠ w.heap.size := by have := hB.lt; omega
  have hR0 : ∀ j, j < i * 2 → W1.cell? ⟨w.heap.size, j, none⟩ = (T.map enC).flatten[j]? := fun j hj => by
    rw [B1.cell j, hROW, Array.append_assoc, Array.getElem?_append_left (by rw [List.size_toArray, List.length_take, hxl]; omega), List.getElem?_toArray, List.getElem?_take_of_lt hj]
  have hRc : ∀ j, j < G * 2 → (W1.cell? ⟨w.heap.size, j, none⟩).isSome = true ∧ W1.frozen? ⟨w.heap.size, j, none⟩ = false := fun j hj => ⟨by rw [B1.cell j, Array.getElem?_eq_getElem (by rw [hRs]; exact hj)]; rfl, B1.frozen j⟩
  have hF := OwnX.fill (sz := 2) (n := c) (i := i) hN hxl (by omega) hGn hG63 (vs := enC x) rfl hR0 hRc
  have hcpA : ∀ ty dc, (Builtin.copy_ #[68, 68] ty #[.slice (some ⟨w.heap.size, i * 2, none⟩) (c + 1 - i) dc, .slice (some ⟨vb, 0, none⟩) 1 1]).run Tryd.prog W1 = .ok (goInt ((1 : Nat) : Int)) (W1.setCells w.heap.size (i * 2) (enC x)) := fun ty dc =>
    run_copyX W1 _ _ ty 78 2 w.heap.size (i * 2) (c + 1 - i) dc ⟨vb, 0, none⟩ 1 1 1 (enC x) Tryd.underlying68 hinfo (by simp only [Nat.min_def]; split <;> omega) rfl
      (fun j v hj => by
        have h1 := (hB.keep hbW).cell j
        rw [Addr.add_lit, Nat.zero_add, h1]
        simpa [enC] using hj)
      (fun j hj => by
        have hj : j < 2 := hj
        exact (hRc (i * 2 + j) (by omega)).1)
      (fun j hj => by
        have hj : j < 2 := hj
        exact (hRc (i * 2 + j) (by omega)).2) (enx_one x)
  have hs1 : ∀ j, j < (enC x).length → (W1.cell? ⟨w.heap.size, i * 2 + j, none⟩).isSome = true := fun j hj => by
    have hj : j < 2 := hj
    exact (hRc (i * 2 + j) (by omega)).1
  have hcpB : ∀ ty dc sc, (Builtin.copy_ #[68, 68] ty #[.slice (some ⟨w.heap.size, (i + 1) * 2, none⟩) (c - i) dc, .slice (some ⟨b, off + i * 2, none⟩) (c - i) sc]).run Tryd.prog (W1.setCells w.heap.size (i * 2) (enC x)).drew = .ok (goInt ((c - i : Nat) : Int)) ((W1.setCells w.heap.size (i * 2) (enC x)).drew.setCells w.heap.size ((i + 1) * 2) ((T.map enC).flatten.drop (i * 2))) := fun ty dc sc =>
    run_copyX (W1.setCells w.heap.size (i * 2) (enC x)).drew _ _ ty 78 2 w.heap.size ((i + 1) * 2) (c - i) dc ⟨b, off + i * 2, none⟩ (c - i) sc (c - i) ((T.map enC).flatten.drop (i * 2)) Tryd.underlying68 hinfo (by simp) (by rw [List.length_drop, hxl]; omega)
      (fun j v hj => by
        rw [List.getElem?_drop] at hj
        have hj2 := (List.getElem?_eq_some_iff.1 hj).1
        rw [Addr.add_lit, Nat.add_assoc]
        show (W1.setCells w.heap.size (i * 2) (enC x)).cell? _ = _
        rw [World.cell?_setCells_out _ _ _ _ _ (fun h _ => absurd h hbn), hbW.cell (p := ⟨b, off + (i * 2 + j), none⟩) hlt, hcl _ hj2]
        exact hj)
      (fun j hj => by
        rw [List.length_drop, hxl] at hj
        show ((W1.setCells w.heap.size (i * 2) (enC x)).cell? _).isSome = true
        exact isSome_sets _ _ _ _ hs1 _ (hRc ((i + 1) * 2 + j) (by omega)).1)
      (fun j hj => by
        rw [List.length_drop, hxl] at hj
        show (W1.setCells w.heap.size (i * 2) (enC x)).frozen? _ = false
        rw [World.frozen?_setCells]
        exact (hRc ((i + 1) * 2 + j) (by omega)).2) (fun u hu => enC_one T u (List.mem_of_mem_drop hu))
  have HRZ := Lib.hid hrz
  rw [← hW1] at HRZ
  have HA := Lib.hid hcpA
  have HBc := Lib.hid hcpB
  have HF := Lib.hid hF
  have HG0 := Lib.hid hbW
  have mixed : Tryd.prog.follows .mixedOrders = true := by kernel_rfl
  have hz1 : ¬ ((i : Int) = (c : Int)) := by omega
  have hzb : ((i : Int) == (c : Int)) = false := beq_eq_false_iff_ne.2 hz1
  have hGi : ¬ (G = i) := by omega
  have hGim : ¬ (G = i + 1) := by omega
  have hci : ¬ (c = i) := by omega
  have hin : i ≤ c := by omega
  have hb1 : (0 : Int) ≤ (i : Int) + 1 := by omega
  have htn : ((i : Int) + 1).toNat = i + 1 := by omega
  have hb3 : (i : Int) ≤ (c : Int) := by omega
  unfold maxLen at hG63
  have hw1 : IntKind.i64.wrap ((i : Int) + 1) = (i : Int) + 1 := by rw [IntKind.wrap_i64]; omega
  clear hX hB hn e1 hcl hf ho hxl hi0 hz0 hzs hzb hinfo hold hrz hG hROW hRs B1 hbW hR0 hRc hF hcpA hs1 hcpB hvn hbn hlt hW1
  go_enter Tryd.func28, Tryd.ntmps28
  go_wp2_with (first
    | (at_builtin; refine Lib.wpList_append_run _ rfl _ _ _ _ rfl _ _ rfl rfl _ _ (HRZ.out _) ?_)
    | (with_reducible refine wpList_copy_runI _ (o := ⟨some 45, _, _, _, _, _⟩) rfl (.tmp 43) (.tmp 44) 68 68 rfl (.slice (some ⟨w.heap.size, i * 2, none⟩) (c + 1 - i) (G - i)) (.slice (some ⟨vb, 0, none⟩) 1 1) rfl rfl (HA.out _ _) ?_))
  go_region_law_o (refine step_copy_runI rfl _ _ 68 68 rfl (.slice (some ⟨w.heap.size, (i + 1) * 2, none⟩) (c - i) (G - (i + 1))) (.slice (some ⟨b, off + i * 2, none⟩) (c - i) (c - i)) (by simp [Act.eval, Act.put]) (by simp [Act.eval, Act.put]) (HBc.out _ _ _) ?_)
  go_wp2
  go_ret
  obtain ⟨f1, f2⟩ := HF.out
  have hbW := HG0.out
  rw [← drew_setCells]
  refine ⟨_, some w.heap.size, rfl, ?_, ⟨f2.os.trans hbW.os, f2.tape.trans hbW.tape, f2.output.trans hbW.output, Nat.le_trans hbW.size f2.size, fun k hk _ => (f2.block k (Nat.lt_of_lt_of_le hk hbW.size) (fun e => by injection e; omega)).trans (hbW.block k hk)⟩, .inr ⟨_, rfl, Nat.le_refl _⟩⟩
  rw [enC_put]
  exact f1
/-- whichever way -/
theorem ins_walk (w : World) (v : Value) (i : Nat) (g : Option Nat) (T : List En) (x : En) (vb : Nat) (hX : OwnX 2 w g v (T.map enC).flatten) (hB : Blk w vb 78 #[.string (bs x.k), .string (bs x.v)]) (hne : g ≠ some vb) (hl : T.length ≤ 100000) (hi : i ≤ T.length) :
    Calls Tryd.prog 28 #[v, .int .i64 (i : Int), .slice (some ⟨vb, 0, none⟩) 1 1] w (InsPost w g T i x) := by
  obtain ⟨A, n, c, rfl, -⟩ := hX.sl
  obtain ⟨e1, e2, e3, -⟩ := hX.re
  rcases Nat.eq_or_lt_of_le hi with h | h
  · subst h
    rw [← e1]
    exact ins_end w A c n g T x vb e1 hX hB (by omega)
  · obtain ⟨b, off, ho, hA, -⟩ := hX.at_ (by omega)
    subst hA
    rcases Nat.lt_or_ge c (n + 1) with hr | hr
    · exact ins_grow w b off c n i g T x vb e1 hX hB (by omega) (by omega) hr
    · exact ins_room w b off c n i g T x vb e1 hX hB (fun e => hne (by rw [ho, e])) (by omega) (by omega) hr ho
end Go.Proofs.YtlknclkkhincfaaDoor
