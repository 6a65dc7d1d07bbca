/-
  The walks of strings.Cut at one byte, and of the program's may. Condition: the text's length.
-/
import Derived.Test.YtbpooaicmjkemaaDoorSfNam
namespace Go.Proofs.YtbpooaicmjkemaaDoor
open Go.RowKit Go.Maps
set_option linter.unusedVariables false
theorem idx_slash : ∀ p : Tx, Lib.indexByte p 47 = if hasSlash p = true then (slash p : Int) else -1
  | [] => rfl
  | b :: r => by
    have ih := idx_slash r
    have hge := Lib.indexByte_ge r 47
    unfold Lib.indexByte hasSlash slash
    unfold hasSlash slash at ih
    rw [List.findIdx_cons, List.contains_cons]
    cases hb : b == 47 with
    | true =>
      have : ((47 : UInt8) == b) = true := by rw [beq_iff_eq] at hb ⊢; exact hb.symm
      simp [this]
    | false =>
      have : ((47 : UInt8) == b) = false := by rw [beq_eq_false_iff_ne] at hb ⊢; exact fun e => hb e.symm
      rw [this, Bool.false_or, ih]
      simp only [Bool.false_eq_true, if_false, cond_false]
      split
      · rename_i h
        rw [if_neg (by simp)]
        omega
      · rfl
theorem bs_take (l : Tx) (i : Nat) : (bs l).extract 0 i = bs (l.take i) := by rw [bs_extract]; simp
theorem bs_drop (l : Tx) (i : Nat) : (bs l).extract i (bs l).size = bs (l.drop i) := by
  rw [bs_extract, bs_size, List.take_of_length_le (by simp)]
theorem cut_walk0 (p : Tx) (w : World) (hp : p.length ≤ maxLen) :
    Calls Tryd.prog 67 #[.string (bs p), .string ⟨#[47]⟩] w fun e w' => e = .returned (.tuple #[.string (bs (if hasSlash p = true then dirOf p else p)), .string (bs (nameOf p)), .bool (hasSlash p)]) ∧ ∃ n, w' = w.drewN n := by
  unfold maxLen at hp
  have K := fun w => Tryd.stringslite_Index_one (bs p) 47 w
  rw [bs_list, idx_slash] at K
  have hsz := bs_size p
  cases hs : hasSlash p with
  | true =>
    have hl := slash_lt hs
    have ed : dirOf p = p.take (slash p) := by unfold dirOf; rw [if_pos hs]
    have en : nameOf p = p.drop (slash p + 1) := by unfold nameOf; rw [if_pos hs]
    rw [hs, if_pos rfl] at K
    rw [if_pos rfl, ed, en]
    have HT := Lib.hid (bs_take p (slash p))
    have HD := Lib.hid (bs_drop p (slash p + 1))
    have HK := Lib.hid K
    have h1 : (slash p : Int) ≤ ((bs p).size : Int) := by rw [hsz]; omega
    have h2 : (slash p : Int) + 1 ≤ ((bs p).size : Int) := by rw [hsz]; omega
    have h3 : ((bs p).size : Int) ≤ 9223372036854775807 := by rw [hsz]; omega
    clear K ed en hl hs hsz hp
    generalize slash p = k at *
    go_enter Tryd.func67, Tryd.ntmps67
    go_wp2_with fail
    refine (HK.out _).mono ?_
    rintro e w1 ⟨rfl, rfl⟩
    go_wp2_with fail
    go_quiet (fail)
    go_wp2
    go_ret3
    exact ⟨by rw [HT.out, HD.out]; rfl, _, rfl⟩
  | false =>
    have en : nameOf p = [] := by unfold nameOf; rw [if_neg (by rw [hs]; decide)]
    rw [hs, if_neg (by decide)] at K
    rw [if_neg (by decide), en]
    have HK := Lib.hid K
    clear K en hs hsz hp
    go_enter Tryd.func67, Tryd.ntmps67
    go_wp2_with fail
    refine (HK.out _).mono ?_
    rintro e w1 ⟨rfl, rfl⟩
    go_wp2_with fail
    go_ret3
    exact ⟨rfl, 0, rfl⟩
theorem cut_walk (p : Tx) (w : World) (hp : p.length ≤ maxLen) :
    Calls Tryd.prog 49 #[.string (bs p), .string ⟨#[47]⟩] w fun e w' => e = .returned (.tuple #[.string (bs (if hasSlash p = true then dirOf p else p)), .string (bs (nameOf p)), .bool (hasSlash p)]) ∧ ∃ n, w' = w.drewN n := by
  have HK := Lib.hid (cut_walk0 p w hp)
  generalize bs (if hasSlash p = true then dirOf p else p) = s1 at *
  generalize bs (nameOf p) = s2 at *
  generalize hasSlash p = s3 at *
  go_enter Tryd.func49, Tryd.ntmps49
  go_wp2_with fail
  refine HK.out.mono ?_
  rintro e w1 ⟨rfl, n, rfl⟩
  go_wp2_with fail
  go_ret3
  exact ⟨rfl, n, rfl⟩
/-- a slice's address reads as strings -/
def RSx (w : World) (A : Option Addr) (L : List Tx) : Prop := L = [] ∨ ∃ b off, A = some ⟨b, off, none⟩ ∧ b < w.heap.size ∧ ∀ i l, L[i]? = some l → w.cell? ⟨b, off + i, none⟩ = some (.string (bs l))
theorem RSx.below {w w' : World} {A : Option Addr} {L : List Tx} (h : RSx w A L) (hb : Below w.heap.size w w') : RSx w' A L := by
  rcases h with h | ⟨b, off, rfl, hl, hc⟩
  · exact .inl h
  · exact .inr ⟨b, off, rfl, Nat.lt_of_lt_of_le hl hb.size, fun i l hi => (hb.cell (p := ⟨b, off + i, none⟩) hl).trans (hc i l hi)⟩
theorem FzS.sx {w : World} {own : Nat → Nat × Nat} {v : Value} {L : List Tx} (h : FzS w own v L) : ∃ A c, v = .slice A L.length c ∧ L.length ≤ c ∧ c ≤ maxLen ∧ RSx w A L := by
  obtain ⟨A, c, h1, h2, h3, h4⟩ := h
  refine ⟨A, c, h1, h2, h3, ?_⟩
  rcases h4 with h4 | ⟨b, off, rfl, -, hb, hc⟩
  · exact .inl h4
  · exact .inr ⟨b, off, rfl, hb, hc⟩
theorem containsS_bs (L : List Tx) (x : Tx) : Lib.containsS (L.map bs) (bs x) = L.contains x := by
  rw [Bool.eq_iff_iff, Lib.containsS_iff, List.contains_iff_mem]
  constructor
  · intro h
    obtain ⟨y, hy, e⟩ := List.mem_map.1 h
    rw [← bs_inj e]; exact hy
  · exact fun h => List.mem_map.2 ⟨x, h, rfl⟩
theorem contains_walk (w : World) (A : Option Addr) (n c : Nat) (L : List Tx) (x : Tx) (h : RSx w A L) (hn : n = L.length) (hm : n ≤ 9223372036854775807) :
    Calls Tryd.prog 32 #[.slice A n c, .string (bs x)] w fun e w' => e = .returned (.bool (L.contains x)) ∧ w' = w := by
  subst hn
  rcases h with rfl | ⟨b, off, rfl, hb, hc⟩
  · exact Tryd.slices_Contains_string_empty A c (bs x) w
  · have h := Tryd.slices_Contains_string b off L.length c (L.map bs) (bs x) w (by simp) hm (fun j hj => by
      rw [List.length_map] at hj
      rw [hc j _ (List.getElem?_eq_getElem hj), List.getD_eq_getElem?_getD, List.getElem?_map, List.getElem?_eq_getElem hj]
      rfl)
    rw [List.take_of_length_le (by simp), containsS_bs] at h
    exact h
theorem may_cut (dirs : List Tx) (p : Tx) : mayB dirs p = (hasSlash p && (dirs.contains (dirOf p) && nameB (nameOf p))) := by
  unfold mayB
  cases h : hasSlash p with
  | true => rfl
  | false =>
    have en : nameOf p = [] := by unfold nameOf; rw [if_neg (by rw [h]; decide)]
    rw [en]
    simp [nameB]
theorem dirOf_le (p : Tx) : (dirOf p).length ≤ p.length := by
  unfold dirOf
  split
  · rw [List.length_take]; omega
  · simp
theorem nameOf_le (p : Tx) : (nameOf p).length ≤ p.length := by
  unfold nameOf
  split
  · rw [List.length_drop]; omega
  · simp
theorem may_walk (w : World) (db : Nat) (A : Option Addr) (n c : Nat) (dirs : List Tx) (hB : w.cell? ⟨db, 2, none⟩ = some (.slice A n c)) (hn : n = dirs.length) (hm : n ≤ c ∧ c ≤ maxLen) (hr : RSx w A dirs) (p : Tx) (hp : p.length ≤ maxLen) :
    Calls Tryd.prog 29 #[ptrV db, .string (bs p)] w fun e w' => e = .returned (.bool (mayB dirs p)) ∧ Below w.heap.size w w' := by
  have KC := Lib.hid (cut_walk p w hp)
  have KD := Lib.hid (fun k => contains_walk (w.drewN k) A n c dirs (dirOf p) hr hn (by unfold maxLen at hm; omega))
  have KN := Lib.hid (fun k => named_walk (nameOf p) (w.drewN k) (Nat.le_trans (nameOf_le p) hp))
  have k2 := fun k => show (w.drewN k).cell? ⟨db, 2, none⟩ = some (.slice A n c) from hB
  rw [may_cut]
  unfold ptrV
  clear hB hn hr hm hp
  generalize dirs.contains (dirOf p) = s1 at *
  generalize nameB (nameOf p) = s3 at *
  cases hs : hasSlash p with
  | false =>
    rw [hs, if_neg (by decide)] at KC
    rw [Bool.false_and]
    clear hs KD KN
    go_enter Tryd.func29, Tryd.ntmps29
    go_wp2_with fail
    refine KC.out.mono ?_
    rintro e w1 ⟨rfl, nd, rfl⟩
    go_wp2_with fail
    go_ret
    exact ⟨rfl, bdrewN (Below.refl _ _) nd⟩
  | true =>
    rw [hs, if_pos rfl] at KC
    rw [Bool.true_and]
    clear hs
    generalize dirOf p = d1 at *
    generalize nameOf p = n1 at *
    cases s1 with
    | false =>
      rw [Bool.false_and]
      clear KN
      go_enter Tryd.func29, Tryd.ntmps29
      go_wp2_with fail
      refine KC.out.mono ?_
      rintro e w1 ⟨rfl, nd, rfl⟩
      go_wp2_with fail
      refine (KD.out nd).mono ?_
      rintro e w1 ⟨rfl, rfl⟩
      go_wp2_with fail
      go_ret
      exact ⟨rfl, bdrewN (Below.refl _ _) nd⟩
    | true =>
      rw [Bool.true_and]
      go_enter Tryd.func29, Tryd.ntmps29
      go_wp2_with fail
      refine KC.out.mono ?_
      rintro e w1 ⟨rfl, nd, rfl⟩
      go_wp2_with fail
      refine (KD.out nd).mono ?_
      rintro e w1 ⟨rfl, rfl⟩
      go_wp2_with fail
      refine (KN.out nd).mono ?_
      rintro e w1 ⟨rfl, hb⟩
      have HB := Lib.hid hb
      clear hb
      go_wp2_with fail
      go_ret
      exact ⟨rfl, (bdrewN (Below.refl _ _) nd).trans HB.out⟩
end Go.Proofs.YtbpooaicmjkemaaDoor
