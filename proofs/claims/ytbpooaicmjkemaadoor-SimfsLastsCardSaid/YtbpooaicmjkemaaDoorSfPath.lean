/-
  The walks of a change's paths and leans; slices.ContainsFunc at a predicate that may lay blocks. Conditions: the lengths.
-/
import Derived.Test.YtbpooaicmjkemaaDoorSfRng
namespace Go.Proofs.YtbpooaicmjkemaaDoor
open Go.RowKit Go.Maps Go.Sort
set_option linter.unusedVariables false
def pathsC (c : Ch) : List Tx := [c.fr, c.tt].filter fun p => !decide (p = [])
theorem empty_walk (p : Tx) (w : World) : Calls Tryd.prog 53 #[.string (bs p)] w fun e w' => e = .returned (.bool (decide (p = []))) ∧ w' = w := by
  have he : (bs p).toList = p := bs_nil p
  go_enter Tryd.func53, Tryd.ntmps53
  by_cases hp : p = []
  · subst hp
    rw [show decide (([] : Tx) = []) = true from rfl]
    go_wp2
    go_ret
    exact ⟨rfl, rfl⟩
  · rw [show decide (p = []) = false from decide_eq_false hp]
    have h1 : p.isEmpty = false := by cases p; exact absurd rfl hp; rfl
    go_wp2
    go_ret
    exact ⟨rfl, rfl⟩
theorem grown_putRow {α : Type} [Inhabited α] (enc : α → Value) (w : World) (n g off : Nat) (d : Array α) : w.grownBy (putRow enc (Sort.ahead w n) g off d) (some g) := by
  refine ⟨rfl, rfl, rfl, by simp, fun k hk hne => ?_⟩
  have : g ≠ k := fun e => hne (by rw [e])
  simp [putRow, mapBlock, Sort.ahead, Array.getElem?_modify, this]
theorem grown_below {w w' : World} {g B : Nat} (h : w.grownBy w' (some g)) (hB : B ≤ g) (hs : B ≤ w.heap.size) : Below B w w' := ⟨h.os, h.tape, h.output, h.size, fun k hk => h.block k (by omega) (fun e => by injection e; omega)⟩
theorem cell_putA {α : Type} [Inhabited α] (enc : α → Value) (w : World) (n blk off : Nat) (d0 d : Array α) (h0 : Holds enc w blk off d0) (hs : d.size = d0.size) (j : Nat) (hj : j < d.size) : (putRow enc (Sort.ahead w n) blk off d).cell? ⟨blk, off + j, none⟩ = some (enc d[j]!) :=
  cell?_putRow enc (Sort.ahead w n) blk off d0 d h0 hs j hj
def chV (k : Int) (fr tt : Tx) (pv : Value) : Value := .agg #[.int .i64 k, .string (bs fr), .string (bs tt), pv]
/-- paths, in new memory -/
def PathsPost (w : World) (L : List Tx) (e : Ending) (w' : World) : Prop := Below w.heap.size w w' ∧ ∃ A c, e = .returned (.slice A L.length c) ∧ RSx w' A L
theorem paths_walk (w : World) (c : Ch) (pv : Value) (hp : pv = .pointer none ∨ ∃ b, pv = .pointer (some b)) :
    Calls Tryd.prog 33 #[.agg #[.int .i64 c.kind, .string (bs c.fr), .string (bs c.tt), pv]] w (PathsPost w (pathsC c)) := by
  have HB0 := Lib.hid (((Below.refl w.heap.size w).alloc (Nat.le_refl _) (.cells #[.int .i64 c.kind, .string (bs c.fr), .string (bs c.tt), pv] 68)).alloc (by simp) (.cells #[.string (bs c.fr), .string (bs c.tt)] 9))
  have HX := Lib.hid (Blk.new (w.alloc (.cells #[.int .i64 c.kind, .string (bs c.fr), .string (bs c.tt), pv] 68)) 9 #[.string (bs c.fr), .string (bs c.tt)])
  have hs1 : (w.alloc (.cells #[.int .i64 c.kind, .string (bs c.fr), .string (bs c.tt), pv] 68)).heap.size = w.heap.size + 1 := by simp
  have hH : Holds stV ((w.alloc (.cells #[.int .i64 c.kind, .string (bs c.fr), .string (bs c.tt), pv] 68)).alloc (.cells #[.string (bs c.fr), .string (bs c.tt)] 9)) (w.heap.size + 1) 0 #[c.fr, c.tt] := fun j hj => by
    have h1 := HX.out.cell j
    have h2 := HX.out.frozen j
    rw [hs1] at h1 h2
    rw [Nat.zero_add, h1]
    refine ⟨?_, h2⟩
    match j, hj with
    | 0, _ => rfl
    | 1, _ => rfl
  have KD := Lib.hid (Tryd.slices_DeleteFunc stV (fun _ => rfl) (fun p : Tx => decide (p = [])) 53 #[] (enters_of Tryd.func53 (by kernel_rfl) rfl) [] (fun w => by kernel_rfl) (w.heap.size + 1) 0 2 #[c.fr, c.tt]
    ((w.alloc (.cells #[.int .i64 c.kind, .string (bs c.fr), .string (bs c.tt), pv] 68)).alloc (.cells #[.string (bs c.fr), .string (bs c.tt)] 9))
    (fun W x _ => (empty_walk x W).mono fun e w' h => ⟨h.1, 0, h.2⟩) (fun n os dk x _ => (empty_walk x _).mono fun e w' h => ⟨h.1, 0, h.2⟩) hH (by simp) (by simp))
  have HH := Lib.hid hH
  have hL : (#[c.fr, c.tt].toList.filter fun x => !(fun p : Tx => decide (p = [])) x) = pathsC c := rfl
  rw [hL] at KD
  have hle : (pathsC c).length ≤ 2 := List.length_filter_le _ _
  obtain ⟨kind, fr, tt, node⟩ := c
  simp only [] at *
  generalize pathsC ⟨kind, fr, tt, node⟩ = L at *
  have HLE := Lib.hid hle
  clear hH hL hle
  rcases hp with rfl | ⟨b, rfl⟩
  all_goals
    go_enter Tryd.func33, Tryd.ntmps33
    go_wp2_with fail
    refine KD.out.mono ?_
    rintro e w' ⟨rfl, qn, rfl⟩
    go_wp2_with fail
    go_ret
    refine ⟨HB0.out.trans ((grown_below (grown_putRow stV _ qn (w.heap.size + 1) 0 _) (by omega) (by simp; omega))), _, _, rfl, ?_⟩
    rcases Nat.eq_zero_or_pos L.length with h0 | h0
    · exact .inl (List.eq_nil_of_length_eq_zero h0)
    · refine .inr ⟨w.heap.size + 1, 0, rfl, by simp, fun j l hl => ?_⟩
      have hj := (List.getElem?_eq_some_iff.1 hl).1
      have hsz : (L ++ List.replicate (#[fr, tt].size - L.length) ([] : Tx)).toArray.size = #[fr, tt].size := by
        have := HLE.out
        simp
        omega
      have hc := cell_putA stV _ qn (w.heap.size + 1) 0 #[fr, tt] (L ++ List.replicate (#[fr, tt].size - L.length) ([] : Tx)).toArray HH.out hsz j (by rw [hsz]; have := HLE.out; show j < 2; omega)
      refine hc.trans ?_
      congr 1
      show stV _ = stV l
      congr 1
      rw [List.getElem!_toArray, List.getElem!_eq_getElem?_getD, List.getElem?_append_left hj, hl]
      rfl
end Go.Proofs.YtbpooaicmjkemaaDoor
