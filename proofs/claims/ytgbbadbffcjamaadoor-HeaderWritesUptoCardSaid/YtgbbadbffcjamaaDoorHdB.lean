/-
  bytes.Cut at one byte and at CR LF, at slices that read as lists. Conditions: the sizes.
-/
import Derived.Test.YtgbbadbffcjamaaDoorChg
import Derived.Test.YtgbbadbffcjamaaDoorLnPl
import Derived.Test.YtgbbadbffcjamaaDoorBy
import Derived.Test.YtgbbadbffcjamaaDoorMore
import Derived.Test.YtgbbadbffcjamaaDoorShelf
import Derived.Lib.IndexAny
import Derived.Lib.SlBytesConst
namespace Go.Proofs.YtgbbadbffcjamaaDoor
open Go.RowKit
set_option linter.unusedVariables false
theorem u8S : U8 Tryd.prog 22 5 := by
  obtain ⟨i, h1, h2, h3, h4⟩ := info_parts (show (Tryd.prog.info? 5).map (fun i => (i.zero, i.size, i.bytes)) = some (some (.int .u8 0), 1, 1) by kernel_rfl)
  exact ⟨Tryd.underlying22, Tryd.underlying5, i, h1, h2, h3, h4⟩
theorem indexByte_mem (c : UInt8) : ∀ l : List UInt8, (0 ≤ Lib.indexByte l c) = (c ∈ l) := by
  intro l
  have h := Lib.contains_iff_indexByte l c
  rw [Bool.eq_iff_iff] at h
  simp only [List.contains_iff_mem, decide_eq_true_eq] at h
  exact propext h.symm
theorem indexByte_cut (c : UInt8) : ∀ l : List UInt8, Lib.indexByte l c = match cutAt c l with | none => -1 | some (x, _) => (x.length : Int) := by
  intro l
  have hge := Lib.indexByte_ge l c
  cases h : cutAt c l with
  | none =>
    have := cutAt_none h
    have h2 := indexByte_mem c l
    have : ¬ 0 ≤ Lib.indexByte l c := by rw [h2]; exact this
    show _ = (-1 : Int)
    omega
  | some xy =>
    obtain ⟨x, y⟩ := xy
    obtain ⟨rfl, h2⟩ := cutAt_some h
    have h3 : 0 ≤ Lib.indexByte (x ++ c :: y) c := by rw [indexByte_mem]; simp
    obtain ⟨o, ho⟩ : ∃ o : Nat, Lib.indexByte (x ++ c :: y) c = o := ⟨_, (Int.toNat_of_nonneg h3).symm⟩
    obtain ⟨h4, h5⟩ := Lib.indexByte_some ho
    show _ = (x.length : Int)
    rw [ho]
    have h6 : ¬ x.length < o := fun hlt => h5 x.length hlt (by simp)
    have h7 : ¬ o < x.length := fun hlt => h2 (by
      rw [List.getElem?_append_left hlt] at h4
      exact List.mem_of_getElem? h4)
    omega
/-- bytes.Cut at one byte -/
theorem cut_walk (w : World) {B : Nat} {A : Option Addr} {l : List UInt8} (h : RB w B A l) (n c b2 o2 d : Nat) (hn : n = l.length) (hc : n ≤ c) (hl : n ≤ 4611686018427387904) (cv : Int) (cu : UInt8) (hcv : cv = (cu.toNat : Int)) (h2 : w.cell? ⟨b2, o2, none⟩ = some (.int .u8 cv)) :
    Calls Tryd.prog 21 #[.slice A n c, .slice (some ⟨b2, o2, none⟩) 1 d] w fun e w' => (∃ q, w' = w.drewN q) ∧
      ((cutAt cu l = none ∧ e = .returned (.tuple #[.slice A n c, .slice none 0 0, .bool false])) ∨
       ∃ x y, cutAt cu l = some (x, y) ∧ e = .returned (.tuple #[.slice A x.length c, .slice (if c = x.length + 1 then A else A.map fun a => a.add (x.length + 1)) (n - (x.length + 1)) (c - (x.length + 1)), .bool true])) := by
  subst hcv hn
  have hcu : ((cu.toNat : Int)).toNat.toUInt8 = cu := by simp
  have hk := indexByte_cut cu l
  refine (Tryd.bytes_Cut_of A (some ⟨b2, o2, none⟩) l.length c 1 d (Lib.indexByte l cu) w hc (Lib.indexByte_ge _ _) (fun h0 => ?_) hl ((Any.bytes_Index_oneRB Tryd.lays185 h c b2 o2 d _ h2).mono ?_)).mono ?_
  · rw [hk] at h0 ⊢
    cases e : cutAt cu l with
    | none => rw [e] at h0; simp at h0
    | some xy =>
      obtain ⟨x, y⟩ := xy
      have := (cutAt_some e).1
      simp only []
      have hl := congrArg List.length this
      simp at hl
      omega
  · rintro e w' ⟨rfl, rfl⟩
    exact ⟨by rw [hcu], 0, rfl⟩
  · rintro e w' ⟨rfl, q, rfl⟩
    refine ⟨⟨q, rfl⟩, ?_⟩
    rw [hk]
    unfold Lib.cutV Lib.fromV
    cases e : cutAt cu l with
    | none => exact .inl ⟨rfl, by simp⟩
    | some xy =>
      obtain ⟨x, y⟩ := xy
      exact .inr ⟨x, y, rfl, by simp⟩
theorem RB.drop {w : World} {B b off : Nat} {l : List UInt8} (h : RB w B (some ⟨b, off, none⟩) l) (k : Nat) : RB w B (some ⟨b, off + k, none⟩) (l.drop k) := by
  rcases h with rfl | ⟨b', off', e, hb, hc⟩
  · exact .inl (by simp)
  · injection e with e
    injection e with e1 e2
    subst e1 e2
    refine .inr ⟨_, _, rfl, hb, fun i hi => ?_⟩
    rw [List.length_drop] at hi
    rw [Nat.add_assoc, hc (k + i) (by omega)]
    unfold bt
    rw [List.getD_eq_getElem?_getD, List.getD_eq_getElem?_getD, List.getElem?_drop]
theorem idx_crlf : ∀ d : List UInt8, Lib.index d [13, 10] = match cutCR d with | none => -1 | some (x, _) => (x.length : Int)
  | [] => by rfl
  | [a] => by
    have : Lib.index [a] [13, 10] = -1 := Lib.index_long (by simp) (by intro h; have := congrArg List.length h; simp at this)
    rw [this]; rfl
  | a :: b :: r => by
    rw [cutCR]
    by_cases h : a = 13 ∧ b = 10
    · rw [if_pos h, Lib.index]
      simp [h.1, h.2, List.isPrefixOf]
    · rw [if_neg h]
      have hp : ([13, 10] : List UInt8).isPrefixOf (a :: b :: r) = false := by
        simp only [List.isPrefixOf, Bool.and_eq_false_iff, beq_eq_false_iff_ne]
        by_cases h13 : a = 13
        · exact .inr (.inl (fun e => h ⟨h13, e.symm⟩))
        · exact .inl (fun e => h13 e.symm)
      have ih := idx_crlf (b :: r)
      rw [Lib.index, hp]
      simp only [Bool.false_eq_true, if_false]
      rw [ih]
      cases e : cutCR (b :: r) with
      | none => simp
      | some xy =>
        obtain ⟨x, y⟩ := xy
        show (if (x.length : Int) = -1 then -1 else (x.length : Int) + 1) = ((a :: x).length : Int)
        rw [if_neg (by omega)]
        simp
/-- a constant's row, behind its conversion -/
theorem RB.mark (w : World) (E : TypeId) (C : Array Value) (fr : Nat × Nat) (l : List UInt8) (hC : C.toList = Lib.byteCells l) : RB (w.alloc (.cells C E fr)) (w.heap.size + 1) (some ⟨w.heap.size, 0, none⟩) l := by
  refine .inr ⟨w.heap.size, 0, rfl, Nat.lt_succ_self _, fun i hi => ?_⟩
  rw [Nat.zero_add, World.cell?_alloc_mark w C E fr i, ← Array.getElem?_toList, hC, bt_getElem hi]
  simp [Lib.byteCells, hi]
theorem cutCR_at {d x y : List UInt8} (h : cutCR d = some (x, y)) : d.take x.length = x ∧ d.drop (x.length + 2) = y ∧ d.length = x.length + 2 + y.length := by
  obtain ⟨h1, -⟩ := cutCR_some h
  subst h1
  refine ⟨by simp, ?_, by simp; omega⟩
  rw [show x.length + 2 = (x ++ [13, 10]).length by simp, show x ++ 13 :: 10 :: y = (x ++ [13, 10]) ++ y by simp, List.drop_left]
/-- bytes.Cut at CR LF -/
theorem cutcr_walk (w : World) {B B2 b off b2 o2 : Nat} {d : List UInt8} (h : RB w B (some ⟨b, off, none⟩) d) (h2 : RB w B2 (some ⟨b2, o2, none⟩) [13, 10]) (n c c2 : Nat) (hn : n = d.length) (hc : n ≤ c) (hl : n < 4294967281) (m : Int) (hm : w.cell? ⟨0, 0, none⟩ = some (.int .i64 m)) :
    Calls Tryd.prog 21 #[.slice (some ⟨b, off, none⟩) n c, .slice (some ⟨b2, o2, none⟩) 2 c2] w fun e w' => (∃ q, w' = w.drewN q) ∧
      ((cutCR d = none ∧ e = .returned (.tuple #[.slice (some ⟨b, off, none⟩) n c, .slice none 0 0, .bool false])) ∨
       ∃ x y A3 c3, cutCR d = some (x, y) ∧ e = .returned (.tuple #[.slice (some ⟨b, off, none⟩) x.length c, .slice A3 y.length c3, .bool true]) ∧ RB w B A3 y ∧ y.length ≤ c3 ∧ c3 ≤ c) := by
  subst hn
  refine (Tryd.bytes_Cut_all (some ⟨b, off, none⟩) (some ⟨b2, o2, none⟩) d.length c 2 c2 (nums d) (nums [13, 10]) m w (nums_len d) rfl (nums_rng d) (nums_rng _) h.bytesIn h2.bytesIn (fun e => by cases e) hc hl (by decide) hm).mono ?_
  rintro e w' ⟨rfl, hw⟩
  refine ⟨hw, ?_⟩
  rw [bytesOf_nums, bytesOf_nums, idx_crlf]
  unfold Lib.cutV Lib.fromV
  cases e : cutCR d with
  | none => exact .inl ⟨rfl, by simp⟩
  | some xy =>
    obtain ⟨x, y⟩ := xy
    obtain ⟨h1, h3, h4⟩ := cutCR_at e
    refine .inr ⟨x, y, (if c = x.length + 2 then some ⟨b, off, none⟩ else some ⟨b, off + (x.length + 2), none⟩), c - (x.length + 2), rfl, ?_, ?_, by omega, by omega⟩
    · have : d.length - (x.length + 2) = y.length := by omega
      simp [this, Addr.add_lit]
    · by_cases hce : c = x.length + 2
      · exact .inl (List.eq_nil_of_length_eq_zero (by omega))
      · rw [if_neg hce, ← h3]
        exact h.drop _
end Go.Proofs.YtgbbadbffcjamaaDoor
