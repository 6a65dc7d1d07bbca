/-
  The walk of the program's New. Conditions: the sizes.
-/
import Derived.Test.YtbpooaicmjkemaaGreatDoorSfVal
import Derived.Test.YtbpooaicmjkemaaGreatDoorRun7
import Derived.Test.YtbpooaicmjkemaaGreatDoorShelf4
namespace Go.Proofs.YtbpooaicmjkemaaGreatDoor
open Go.RowKit Go.Maps Go.Sort Go.Shelf
set_option linter.unusedVariables false
/-! ### compacting names by rising order -/
theorem adj_lt {l : List Tx} (hs : l.Pairwise (· ≤ ·)) (h : ∀ j, (hj : j + 1 < l.length) → l[j] ≠ l[j + 1]) : l.Pairwise (· < ·) := by
  rw [List.pairwise_iff_getElem] at hs ⊢
  intro i j hi hj hij
  have h1 := hs i (i + 1) hi (by omega) (by omega)
  have h2 : l[i + 1] ≤ l[j] := by
    rcases Nat.lt_or_ge (i + 1) j with h | h
    · exact hs (i + 1) j (by omega) hj h
    · obtain rfl : j = i + 1 := by omega
      exact List.le_refl _
  have h3 : l[i] < l[i + 1] := by
    rcases key_tot l[i] l[i + 1] with h4 | h4 | h4
    · exact h4
    · exact absurd h4 (h i (by omega))
    · exact absurd h4 (List.not_lt.2 h1)
  rcases key_tot l[i] l[j] with h4 | h4 | h4
  · exact h4
  · rw [h4] at h3
    exact absurd h3 (List.not_lt.2 h2)
  · exact absurd (key_tr h4 h3) (List.not_lt.2 h2)
theorem compact_lt {l : List Tx} (hs : l.Pairwise (· ≤ ·)) : (Lib.compact l).length < l.length ↔ ¬ l.Pairwise (· < ·) := by
  constructor
  · intro h hp
    rw [Lib.compact_all l fun j hj => ?_] at h
    · exact absurd h (Nat.lt_irrefl _)
    · unfold Lib.keeps
      rw [decide_eq_true_eq]
      rcases Nat.eq_zero_or_pos j with h0 | h0
      · exact .inl h0
      · right
        have h1 := (List.pairwise_iff_getElem.1 hp) (j - 1) j (by omega) hj (by omega)
        rw [getElem!_pos _ j (by simpa using hj), getElem!_pos _ (j - 1) (by simp; omega)]
        simp only [List.getElem_toArray]
        intro e
        rw [e] at h1
        exact key_ir _ h1
  · intro h
    rcases Nat.lt_or_ge (Lib.compact l).length l.length with h1 | h1
    · exact h1
    · exfalso
      refine h (adj_lt hs fun j hj e => ?_)
      have h2 : ∀ x ∈ List.range l.length, Lib.keeps l.toArray x = true := by
        unfold Lib.compact Lib.compactUpTo at h1
        rw [List.length_map] at h1
        have h3 : ((List.range l.length).filter (Lib.keeps l.toArray)).length = (List.range l.length).length := by
          have := List.length_filter_le (Lib.keeps l.toArray) (List.range l.length)
          rw [List.length_range] at this ⊢
          omega
        exact List.length_filter_eq_length_iff.1 h3
      have h4 := h2 (j + 1) (List.mem_range.2 hj)
      unfold Lib.keeps at h4
      rw [decide_eq_true_eq, getElem!_pos _ (j + 1) (by simpa using hj), Nat.add_sub_cancel, getElem!_pos _ j (by simp; omega)] at h4
      simp only [List.getElem_toArray] at h4
      rcases h4 with h4 | h4
      · omega
      · exact h4 e.symm
theorem sortT_le (l : List Tx) : (sortT l).Pairwise (· ≤ ·) := by
  have h := List.pairwise_mergeSort (le := fun x y : Tx => decide (x ≤ y)) (fun a b c h1 h2 => by rw [decide_eq_true_eq] at *; exact List.le_trans h1 h2) (fun a b => by rw [Bool.or_eq_true, decide_eq_true_eq, decide_eq_true_eq]; exact List.le_total a b) l
  exact h.imp fun h => by simpa using h
theorem sortT_mem {l : List Tx} {x : Tx} : x ∈ sortT l ↔ x ∈ l := List.mem_mergeSort
theorem sortT_len (l : List Tx) : (sortT l).length = l.length := List.length_mergeSort l
/-! ### the model -/
def initM (quota : Int) (ds : List Tx) : Option Dk :=
  if (1 ≤ quota ∧ quota ≤ 67108864) ∧ (1 ≤ ds.length ∧ ds.length ≤ 16) ∧ (∀ x ∈ ds, nameB x = true) ∧ (sortT ds).Pairwise (· < ·) then some ⟨quota, sortT ds, [], [], [], [], false, 0, 0, 0, 0⟩ else none
theorem initM_wf {quota : Int} {ds : List Tx} {d : Dk} (h : initM quota ds = some d) : Wf d 0 := by
  unfold initM at h
  split at h
  · rename_i hc
    obtain ⟨⟨h1, h2⟩, ⟨h3, h4⟩, h5, h6⟩ := hc
    obtain rfl := Option.some.inj h
    exact ⟨h1, h2, fun x hx => h5 x (sortT_mem.1 hx), h6, by show (sortT ds).length ≤ 16; rw [sortT_len]; exact h4, List.Pairwise.nil, (fun e he => by cases he), (fun e he => by cases he), (fun e he => by cases he), trivial, rfl, (fun p q n h => by cases h), ⟨(fun e he => by cases he), List.Pairwise.nil⟩, (fun e he => by cases he), (fun e he => by cases he), Nat.le_refl _, (fun e he => by cases he), Nat.le_refl _, Nat.le_refl _⟩
  · cases h
/-! ### the walk -/
theorem values_walk (w : World) (A : Option Addr) (n c : Nat) : Calls Tryz.prog 26 #[.slice A n c] w fun e w' => e = .returned (.func (.func 80) #[] #[.pointer (some ⟨w.heap.size, 0, none⟩)]) ∧ w' = w.alloc (.cells #[.slice A n c] 32) := by
  go_enter Tryz.func26, Tryz.ntmps26
  go_wp2
  go_ret
  exact ⟨rfl, rfl⟩
theorem new1_walk (w : World) (p : Tx) (hp : p.length ≤ maxLen) : Calls Tryz.prog 27 #[.string (bs p)] w fun e w' => e = .returned (.bool (!nameB p)) ∧ Below w.heap.size w w' := by
  have K := Lib.hid (named_walk p w hp)
  generalize nameB p = F at *
  clear hp
  go_enter Tryz.func27, Tryz.ntmps27
  go_wp2_with fail
  refine K.out.mono ?_
  rintro e w1 ⟨rfl, hb⟩
  have HB := Lib.hid hb
  clear hb
  go_wp2_with fail
  go_ret
  exact ⟨rfl, HB.out⟩
def NewPost (z : Nat) (w : World) (own : Nat → Nat × Nat) (r : Option Dk) (e : Ending) (w' : World) : Prop :=
  Below w.heap.size w w' ∧ match r with
  | none => e = .returned (.tuple #[.pointer none, .int .i64 1])
  | some d => ∃ db own', w.heap.size ≤ db ∧ Disk z w' own' db d ∧ (∀ k, k < w.heap.size → own' k = own k) ∧ e = .returned (.tuple #[ptrV db, .int .i64 0])
theorem RowPost.rs {w w' : World} {L : List Tx} {e : Ending} (h : RowPost w L e w') : Below w.heap.size w w' ∧ ∃ A n c, e = .returned (.slice A n c) ∧ n = L.length ∧ n ≤ c ∧ c ≤ maxLen ∧ (A = none → n = 0) ∧ RSx w' A L ∧ (∀ b off, A = some ⟨b, off, none⟩ → 0 < n → w.heap.size ≤ b ∧ Holds encStr w' b off L.toArray) := by
  obtain ⟨hb, g, v, rfl, hX, hg⟩ := h
  obtain ⟨A, n, c, rfl, h1, h2, h3⟩ := hX.sl
  have hn : n = L.length := by rw [List.length_map] at h1; omega
  refine ⟨hb, A, n, c, rfl, hn, h2, h3, fun e => ?_, ?_, fun b off e hn0 => ?_⟩
  · rcases Nat.eq_zero_or_pos n with h0 | h0
    · exact h0
    · obtain ⟨g, off, -, e2, -⟩ := hX.at_ (by omega)
      rw [e] at e2; cases e2
  · rcases Nat.eq_zero_or_pos n with h0 | h0
    · exact .inl (List.eq_nil_of_length_eq_zero (by omega))
    · obtain ⟨g, off, -, rfl, hl, hc, -⟩ := hX.at_ (by omega)
      refine .inr ⟨g, off, rfl, hl, fun i l hl => ?_⟩
      have hi := (List.getElem?_eq_some_iff.1 hl).1
      rw [hc i (by rw [List.length_map]; exact hi), List.getElem?_map, hl]; rfl
  · obtain ⟨g, off', eg, e2, hl, hc, hf⟩ := hX.at_ (by omega)
    rw [e] at e2
    injection e2 with e2
    injection e2 with e3 e4
    subst e3 e4
    refine ⟨hg _ eg, fun j hj => ?_⟩
    have hj : j < L.length := by simpa using hj
    refine ⟨?_, (hf j (by omega)).2⟩
    rw [hc j (by rw [List.length_map]; exact hj), List.getElem?_map, List.getElem?_eq_getElem hj, getElem!_pos _ j (by simpa using hj)]
    rfl
def diskC (quota : Int) (A : Option Addr) (n c m : Nat) : Array Value := #[.int .i64 quota, .int .i64 0, .slice A n c, .slice none 0 0, .map (some m), .map (some (m + 1)), .slice none 0 0, .bool false, .int .i64 0, .int .i64 0, .int .i64 0, .int .i64 0]
theorem new_fin {z : Nat} {w w5 : World} {own : Nat → Nat × Nat} {quota : Int} {ds : List Tx} {A : Option Addr} {n c : Nat} (hb : Below w.heap.size w w5) (hn : n = (sortT ds).length) (hl : n ≤ c) (hc : c ≤ maxLen) (hr : sortT ds = [] ∨ ∃ b off, A = some ⟨b, off, none⟩ ∧ w.heap.size ≤ b ∧ b < w5.heap.size ∧ ∀ i l, (sortT ds)[i]? = some l → w5.cell? ⟨b, off + i, none⟩ = some (.string (bs l))) :
    NewPost z w own (some ⟨quota, sortT ds, [], [], [], [], false, 0, 0, 0, 0⟩) (.returned (.tuple #[.pointer (some ⟨w5.heap.size + 2, 0, none⟩), .int .i64 0])) (((w5.alloc (.map #[] 0)).alloc (.map #[] 0)).alloc (.cells (diskC quota A n c w5.heap.size) 69)) := by
  have hs := hb.size
  have s1 : (w5.alloc (.map #[] 0)).heap.size = w5.heap.size + 1 := by simp
  have s2 : ((w5.alloc (.map #[] 0)).alloc (.map #[] 0)).heap.size = w5.heap.size + 2 := by simp
  have hb1 : Below w5.heap.size w5 (((w5.alloc (.map #[] 0)).alloc (.map #[] 0)).alloc (.cells (diskC quota A n c w5.heap.size) 69)) := (((Below.refl _ w5).alloc (Nat.le_refl _) _).alloc (by simp) _).alloc (by simp; omega) _
  have hB := Blk.new ((w5.alloc (.map #[] 0)).alloc (.map #[] 0)) 69 (diskC quota A n c w5.heap.size)
  rw [s2] at hB
  have m1 := ((World.ownsMap_made (H := Unit) w5 Tryz.prog 9 ptrElem).alloc (.map #[] 0)).alloc (.cells (diskC quota A n c w5.heap.size) 69)
  have m2 := (World.ownsMap_made (H := Unit) (w5.alloc (.map #[] 0)) Tryz.prog 9 ptrElem).alloc (.cells (diskC quota A n c w5.heap.size) 69)
  rw [s1] at m2
  refine ⟨hb.trans (hb1.mono hs), w5.heap.size + 2, newM w own fun k => if k = w5.heap.size + 2 then (10 * z + 1, 0) else if k = w5.heap.size then (10 * z + 1, 2) else if k = w5.heap.size + 1 then (10 * z + 1, 3) else frz, by omega, ⟨⟨[], .slice A n c, .slice none 0 0, none, w5.heap.size, 0, .map [], w5.heap.size + 1, 0, .map [], .slice none 0 0, none⟩, ⟨hB, ?_, ⟨?_, OwnX.nil _ none, (fun k e => by cases e), rfl, ?_, m1, ⟨rfl, fun p _ _ => rfl, fun p i b _ h => by cases h⟩, ?_, m2, ⟨rfl, fun p _ _ => rfl, fun p i b _ h => by cases h⟩, OwnX.nil _ none, (fun k e => by cases e), (fun i b x h => by simp at h), (by show (0 : Nat) ≤ 1000000; omega), (by show (0 : Nat) ≤ 1000000; omega)⟩⟩⟩, fun k hk => newM_old hk, rfl⟩
  · rw [newM_new (by omega), if_pos rfl]
  · refine ⟨A, c, by rw [hn], by rw [← hn]; exact hl, hc, ?_⟩
    rcases hr with hr | ⟨b, off, rfl, h1, h2, h3⟩
    · exact .inl hr
    · refine .inr ⟨b, off, rfl, ?_, Nat.lt_of_lt_of_le h2 hb1.size, fun i l hl => ?_⟩
      · rw [newM_new h1, if_neg (by omega), if_neg (by omega), if_neg (by omega)]
      · rw [← h3 i l hl]
        exact hb1.cell (p := ⟨b, off + i, none⟩) h2
  · show newM w own _ w5.heap.size = _
    rw [newM_new hs, if_neg (by omega), if_pos rfl]
  · show newM w own _ (w5.heap.size + 1) = _
    rw [newM_new (by omega), if_neg (by omega), if_neg (by omega), if_pos rfl]
set_option maxRecDepth 100000 in
set_option maxHeartbeats 2000000 in
theorem new_walk (z : Nat) (w : World) (own : Nat → Nat × Nat) (quota : Int) (A : Option Addr) (n c : Nat) (ds : List Tx) (hn : n = ds.length) (hr : RSx w A ds) (hnm : n ≤ maxLen) (hnb : n * 16 ≤ 140737488355328) (hlen : ∀ p ∈ ds, p.length ≤ maxLen) :
    Calls Tryz.prog 7 #[.int .i64 quota, .slice A n c] w (NewPost z w own (initM quota ds)) := by
  have HN := Lib.hid hn
  have hba := (Below.refl w.heap.size w).alloc (Nat.le_refl _) (.cells #[.slice A n c] 32)
  have HBA := Lib.hid hba
  have KV := Lib.hid (values_walk w A n c)
  have KS := Lib.hid (sorted_walk (w.alloc (.cells #[.slice A n c] 32)) w.heap.size A n c ds hn (hr.below hba) (by simp) ((Blk.new w 32 #[.slice A n c]).cell 0) hnm hnb)
  have HLEN := Lib.hid hlen
  have hmm := @run_makeMap Tryz.prog
  clear hn hr hnm hnb hlen hba
  go_enter Tryz.func7, Tryz.ntmps7
  go_wp2_with fail
  refine KV.out.mono ?_
  rintro e w1 ⟨rfl, rfl⟩
  go_wp2_with fail
  refine KS.out.mono ?_
  intro e w2 hp
  obtain ⟨hb2, A2, n2, c2, rfl, hn2, hc2, hm2, hA2, hr2, hh2⟩ := hp.rs
  have HB2 : Hid (Below w.heap.size w w2) := Lib.hid (HBA.out.trans (hb2.mono HBA.out.size))
  have HN2 : Hid (n2 = ds.length) := Lib.hid (by rw [hn2, sortT_len])
  have HR2 := Lib.hid hr2
  have HC2 := Lib.hid (⟨hc2, hm2⟩ : n2 ≤ c2 ∧ c2 ≤ maxLen)
  have HL2 := Lib.hid hn2
  have HH2 := Lib.hid hh2
  have HA2 := Lib.hid hA2
  have HWB : Hid (w.heap.size + 1 ≤ w2.heap.size ∧ ∀ b off, A2 = some ⟨b, off, none⟩ → 0 < n2 → w.heap.size ≤ b) := Lib.hid ⟨by have := hb2.size; simpa using this, fun b off e h0 => Nat.le_trans (by simp) (hh2 b off e h0).1⟩
  have hm64 : (n2 : Int) ≤ 9223372036854775807 := by unfold maxLen at hm2; omega
  clear hp hb2 hn2 hc2 hm2 hA2 hr2 hh2 KV KS
  have no : initM quota ds = none → Hid (NewPost z w own (initM quota ds) (.returned (.tuple #[.pointer none, .int .i64 1])) w2) := fun e => Lib.hid (by rw [e]; exact ⟨HB2.out, rfl⟩)
  by_cases q1 : quota < 1
  · have HNO := no (by unfold initM; rw [if_neg (fun h => by omega)])
    clear no
    go_wp2_with fail
    go_ret2
    exact HNO.out
  by_cases q2 : 67108864 < quota
  · have HNO := no (by unfold initM; rw [if_neg (fun h => by omega)])
    clear no
    go_wp2_with fail
    go_ret2
    exact HNO.out
  by_cases q3 : (n2 : Int) < 1
  · have HNO := no (by unfold initM; rw [if_neg (fun h => by have := HN2.out; omega)])
    clear no
    go_wp2_with fail
    go_ret2
    exact HNO.out
  by_cases q4 : (16 : Int) < (n2 : Int)
  · have HNO := no (by unfold initM; rw [if_neg (fun h => by have := HN2.out; omega)])
    clear no
    go_wp2_with fail
    go_ret2
    exact HNO.out
  have KC := Lib.hid (contains_new w2 A2 n2 c2 (sortT ds) (fun p => !nameB p) HR2.out HL2.out (by omega) (fun W p hb hp => new1_walk W p (HLEN.out p (sortT_mem.1 hp))))
  obtain ⟨F, hF⟩ : ∃ F, (sortT ds).any (fun p => !nameB p) = F := ⟨_, rfl⟩
  rw [hF] at KC
  cases F with
  | true =>
    have hn : initM quota ds = none := by
      unfold initM
      rw [if_neg fun h => ?_]
      obtain ⟨-, -, h5, -⟩ := h
      obtain ⟨x, hx, hx2⟩ := List.any_eq_true.1 hF
      rw [h5 x (sortT_mem.1 hx)] at hx2
      cases hx2
    have HNN := Lib.hid hn
    clear no hn hF
    go_wp2_with fail
    refine KC.out.mono ?_
    rintro e w3 ⟨hb3, rfl⟩
    have HB3 := Lib.hid (HB2.out.trans (hb3.mono HB2.out.size))
    clear hb3
    go_wp2_with fail
    go_ret2
    rw [HNN.out]
    exact ⟨HB3.out, rfl⟩
  | false =>
    have HF := Lib.hid hF
    clear no hF
    go_wp2_with fail
    refine KC.out.mono ?_
    rintro e w3 ⟨hb3, rfl⟩
    have HB23 := Lib.hid hb3
    have HB3 := Lib.hid (HB2.out.trans (hb3.mono HB2.out.size))
    have KCl := Lib.hid (sclone_walk w3 A2 n2 c2 (sortT ds) HL2.out (HR2.out.below hb3) HA2.out (by omega))
    clear hb3
    go_wp2_with fail
    refine KCl.out.mono ?_
    intro e w4 hp
    obtain ⟨hb4, A4, n4, c4, rfl, hn4, hc4, hm4, hA4, hr4, hh4⟩ := hp.rs
    obtain rfl : n4 = n2 := by rw [hn4, HL2.out]
    have h04 : 0 < n4 := by omega
    obtain ⟨b4, o4, rfl⟩ : ∃ b4 o4, A4 = some ⟨b4, o4, none⟩ := by
      rcases hr4 with h | ⟨b, off, e, -⟩
      · rw [h] at hn4; simp at hn4; omega
      · exact ⟨b, off, e⟩
    obtain ⟨hb4', hH4⟩ := hh4 b4 o4 rfl h04
    have KK := Lib.hid (Tryz.slices_Compact_string b4 o4 c4 (sortT ds) w4 hH4 (by omega) (by omega))
    rw [← hn4] at KK
    have HB4 := Lib.hid hb4
    have HBB4 := Lib.hid hb4'
    clear hp hb4 hn4 hc4 hm4 hA4 hr4 hh4 hb4' hH4
    go_wp2_with fail
    refine KK.out.mono ?_
    rintro e w5 ⟨rfl, qq, hw5⟩
    have HB5 : Hid (Below w3.heap.size w3 w5) := Lib.hid (by
      rw [hw5]
      exact HB4.out.grown (grown_putRow encStr w4 qq b4 o4 _) HB4.out.size (fun j hj => by cases hj; exact HBB4.out))
    clear hw5
    obtain ⟨m, hm⟩ : ∃ m, (Lib.compact (sortT ds)).length = m := ⟨_, rfl⟩
    have HM := Lib.hid hm
    rw [hm]
    have hmn : m ≤ n4 := by rw [← hm, HL2.out]; exact Lib.compact_length_le _
    clear hm
    by_cases q5 : (m : Int) < (n4 : Int)
    · have hn : initM quota ds = none := by
        unfold initM
        rw [if_neg fun h => ?_]
        exact (compact_lt (sortT_le ds)).1 (by rw [HM.out, ← HL2.out]; omega) h.2.2.2
      have HNN := Lib.hid hn
      clear hn
      go_wp2_with fail
      go_ret2
      rw [HNN.out]
      exact ⟨HB3.out.trans (HB5.out.mono HB3.out.size), rfl⟩
    · have hn : initM quota ds = some ⟨quota, sortT ds, [], [], [], [], false, 0, 0, 0, 0⟩ := by
        unfold initM
        rw [if_pos]
        refine ⟨by omega, by have := HN2.out; omega, fun x hx => ?_, ?_⟩
        · have h1 := List.any_eq_false.1 HF.out x (sortT_mem.2 hx)
          simpa using h1
        · exact Decidable.not_not.1 fun h => q5 (by have := (compact_lt (sortT_le ds)).2 h; rw [HM.out, ← HL2.out] at this; omega)
      have HNN := Lib.hid hn
      clear hn
      go_wp2_with fail
      go_ret2
      rw [HNN.out]
      refine new_fin (HB3.out.trans (HB5.out.mono HB3.out.size)) HL2.out HC2.out.1 HC2.out.2 ?_
      rcases HR2.out with h | ⟨b, off, h1, h2, h3⟩
      · exact .inl h
      · have h4 : b < w3.heap.size := Nat.lt_of_lt_of_le h2 HB23.out.size
        refine .inr ⟨b, off, h1, HWB.out.2 b off h1 (by omega), Nat.lt_of_lt_of_le h4 HB5.out.size, fun i l hl => ?_⟩
        rw [← h3 i l hl]
        exact (HB5.out.cell (p := ⟨b, off + i, none⟩) h4).trans (HB23.out.cell (p := ⟨b, off + i, none⟩) h2)
end Go.Proofs.YtbpooaicmjkemaaGreatDoor
