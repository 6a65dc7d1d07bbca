/-
  bytes.Cut, CutSuffix, CutPrefix, IndexByte, Clone and slices.Clip at slices that read as lists. Conditions: the sizes.
-/
import Derived.Test.YtkemmgfmmfcdlaaDoorChg
import Derived.Test.YtkemmgfmmfcdlaaDoorLnPl
import Derived.Test.YtkemmgfmmfcdlaaDoorBy
import Derived.Test.YtkemmgfmmfcdlaaDoorShelf
import Derived.Lib.IndexAny
namespace Go.Proofs.YtkemmgfmmfcdlaaDoor
open Go.RowKit
set_option linter.unusedVariables false
theorem u8S : U8 Tryd.prog 32 5 := by
  obtain ⟨i, h1, h2, h3, h4⟩ := info_parts (show (Tryd.prog.info? 5).map (fun i => (i.zero, i.size, i.bytes)) = some (some (.int .u8 0), 1, 1) by kernel_rfl)
  exact ⟨Tryd.underlying32, Tryd.underlying5, i, h1, h2, h3, h4⟩
theorem indexByte_mem (c : UInt8) : ∀ l : List UInt8, (0 ≤ Lib.indexByte l c) = (c ∈ l) := by
  intro l
  have h := Lib.contains_iff_indexByte l c
  rw [Bool.eq_iff_iff] at h
  simp only [List.contains_iff_mem, decide_eq_true_eq] at h
  exact propext h.symm
theorem indexByte_cut (c : UInt8) : ∀ l : List UInt8, Lib.indexByte l c = match cutAt c l with | none => -1 | some (x, _) => (x.length : Int) := by
  intro l
  have hge := Lib.indexByte_ge l c
  cases h : cutAt c l with
  | none =>
    have := cutAt_none h
    have h2 := indexByte_mem c l
    have : ¬ 0 ≤ Lib.indexByte l c := by rw [h2]; exact this
    show _ = (-1 : Int)
    omega
  | some xy =>
    obtain ⟨x, y⟩ := xy
    obtain ⟨rfl, h2⟩ := cutAt_some h
    have h3 : 0 ≤ Lib.indexByte (x ++ c :: y) c := by rw [indexByte_mem]; simp
    obtain ⟨o, ho⟩ : ∃ o : Nat, Lib.indexByte (x ++ c :: y) c = o := ⟨_, (Int.toNat_of_nonneg h3).symm⟩
    obtain ⟨h4, h5⟩ := Lib.indexByte_some ho
    show _ = (x.length : Int)
    rw [ho]
    have h6 : ¬ x.length < o := fun hlt => h5 x.length hlt (by simp)
    have h7 : ¬ o < x.length := fun hlt => h2 (by
      rw [List.getElem?_append_left hlt] at h4
      exact List.mem_of_getElem? h4)
    omega
/-- bytes.IndexByte, asked whether the byte is there -/
theorem idx_walk (w : World) {B : Nat} {A : Option Addr} {l : List UInt8} (h : RB w B A l) (n c : Nat) (hn : n = l.length) (cv : Int) (cu : UInt8) (hcv : cv = (cu.toNat : Int)) (bo : Bool) (hbo : decide (cu ∈ l) = bo) :
    Calls Tryd.prog 24 #[.slice A n c, .int .u8 cv] w fun e w' => w = w' ∧ ∃ i : Int, e = .returned (.int .i64 i) ∧ (decide (0 ≤ i) = bo) := by
  subst hcv
  refine (Any.bytes_IndexByteRB Tryd.lays187 h n c hn _).mono ?_
  rintro e w' ⟨rfl, rfl⟩
  refine ⟨rfl, _, rfl, ?_⟩
  have : ((cu.toNat : Int)).toNat.toUInt8 = cu := by simp
  rw [← hbo, Bool.eq_iff_iff, decide_eq_true_eq, decide_eq_true_eq, this, indexByte_mem]
/-- bytes.Cut at one byte -/
theorem cut_walk (w : World) {B : Nat} {A : Option Addr} {l : List UInt8} (h : RB w B A l) (n c b2 o2 d : Nat) (hn : n = l.length) (hc : n ≤ c) (hl : n ≤ 4611686018427387904) (cv : Int) (cu : UInt8) (hcv : cv = (cu.toNat : Int)) (h2 : w.cell? ⟨b2, o2, none⟩ = some (.int .u8 cv)) :
    Calls Tryd.prog 22 #[.slice A n c, .slice (some ⟨b2, o2, none⟩) 1 d] w fun e w' => (∃ q, w' = w.drewN q) ∧
      ((cutAt cu l = none ∧ e = .returned (.tuple #[.slice A n c, .slice none 0 0, .bool false])) ∨
       ∃ x y, cutAt cu l = some (x, y) ∧ e = .returned (.tuple #[.slice A x.length c, .slice (if c = x.length + 1 then A else A.map fun a => a.add (x.length + 1)) (n - (x.length + 1)) (c - (x.length + 1)), .bool true])) := by
  subst hcv hn
  have hcu : ((cu.toNat : Int)).toNat.toUInt8 = cu := by simp
  have hk := indexByte_cut cu l
  refine (Tryd.bytes_Cut_of A (some ⟨b2, o2, none⟩) l.length c 1 d (Lib.indexByte l cu) w hc (Lib.indexByte_ge _ _) (fun h0 => ?_) hl ((Any.bytes_Index_oneRB Tryd.lays185 h c b2 o2 d _ h2).mono ?_)).mono ?_
  · rw [hk] at h0 ⊢
    cases e : cutAt cu l with
    | none => rw [e] at h0; simp at h0
    | some xy =>
      obtain ⟨x, y⟩ := xy
      have := (cutAt_some e).1
      simp only []
      have hl := congrArg List.length this
      simp at hl
      omega
  · rintro e w' ⟨rfl, rfl⟩
    exact ⟨by rw [hcu], 0, rfl⟩
  · rintro e w' ⟨rfl, q, rfl⟩
    refine ⟨⟨q, rfl⟩, ?_⟩
    rw [hk]
    unfold Lib.cutV Lib.fromV
    cases e : cutAt cu l with
    | none => exact .inl ⟨rfl, by simp⟩
    | some xy =>
      obtain ⟨x, y⟩ := xy
      exact .inr ⟨x, y, rfl, by simp⟩
/-- bytes.CutSuffix, at one byte -/
theorem cutsuf_walk (w : World) {B B2 : Nat} {A A2 : Option Addr} {l : List UInt8} {x : UInt8} (h : RB w B A l) (h2 : RB w B2 A2 [x]) (n c d : Nat) (hn : n = l.length) (hc : n ≤ c) (hl : n ≤ 4611686018427387904) :
    Calls Tryd.prog 23 #[.slice A n c, .slice A2 1 d] w fun e w' => w = w' ∧ e = .returned (.tuple #[.slice A (Lib.trimSuffix l [x]).length c, .bool (Lib.hasSuffix l [x])]) := by
  subst hn
  refine (Tryd.bytes_CutSuffix_all A A2 l.length c 1 d (nums l) (nums [x]) w (nums_len l) rfl hc (by omega) h.bytesIn h2.bytesIn).mono ?_
  rintro e w' ⟨rfl, rfl⟩
  refine ⟨rfl, ?_⟩
  simp only [bytesOf_nums]
  unfold Lib.trimSuffix
  have hne : Lib.hasSuffix [] [x] = false := by simp [Lib.hasSuffix]
  have key : Lib.trimSuffixV A l.length c (nums l) (nums [x]) = Value.slice A (if Lib.hasSuffix l [x] = true then l.take (l.length - [x].length) else l).length c := by
    rcases h with rfl | ⟨b, off, rfl, _, _⟩
    · rw [hne]
      unfold Lib.trimSuffixV
      split
      · unfold Lib.bytesTrimSuffix
        rw [bytesOf_nums, bytesOf_nums, hne]
        rfl
      · rfl
    · show Lib.bytesTrimSuffix b off l.length c (nums l) (nums [x]) = _
      unfold Lib.bytesTrimSuffix Lib.sliceTo
      rw [bytesOf_nums, bytesOf_nums]
      by_cases hs : Lib.hasSuffix l [x] = true
      · simp [hs, nums]
      · simp [hs]
  rw [key]
theorem RB.drop {w : World} {B b off : Nat} {l : List UInt8} (h : RB w B (some ⟨b, off, none⟩) l) (k : Nat) : RB w B (some ⟨b, off + k, none⟩) (l.drop k) := by
  rcases h with rfl | ⟨b', off', e, hb, hc⟩
  · exact .inl (by simp)
  · injection e with e
    injection e with e1 e2
    subst e1 e2
    refine .inr ⟨_, _, rfl, hb, fun i hi => ?_⟩
    rw [List.length_drop] at hi
    rw [Nat.add_assoc, hc (k + i) (by omega)]
    unfold bt
    rw [List.getD_eq_getElem?_getD, List.getD_eq_getElem?_getD, List.getElem?_drop]
/-- a slice's cell is no byte's -/
theorem RB.store {w : World} {B : Nat} {A : Option Addr} {l : List UInt8} (h : RB w B A l) {pa : Addr} {a : Option Addr} {n c : Nat} (hd : w.cell? pa = some (.slice a n c)) (u : Value) : RB (w.setCell pa u) B A l := by
  rcases h with h | ⟨b, off, rfl, hb, hc⟩
  · exact .inl h
  · refine .inr ⟨b, off, rfl, hb, fun i hi => ?_⟩
    have hne : pa ≠ ⟨b, off + i, none⟩ := fun e => by rw [e, hc i hi] at hd; cases hd
    rw [World.cell?_setCell_other (h := hne), hc i hi]
/-- bytes.CutPrefix, at one byte -/
theorem cutpre_walk (w : World) {B B2 : Nat} {A A2 : Option Addr} {l : List UInt8} {x : UInt8} (h : RB w B A l) (h2 : RB w B2 A2 [x]) (n c d : Nat) (hn : n = l.length) (hc : n ≤ c) (hl : n ≤ 4611686018427387904) :
    Calls Tryd.prog 31 #[.slice A n c, .slice A2 1 d] w fun e w' => w = w' ∧ ∃ A3 c3, e = .returned (.tuple #[.slice A3 (Lib.trimPrefix l [x]).length c3, .bool (Lib.hasPrefix l [x])]) ∧ RB w B A3 (Lib.trimPrefix l [x]) ∧ (Lib.trimPrefix l [x]).length ≤ c3 ∧ c3 ≤ c := by
  subst hn
  refine (Tryd.bytes_CutPrefix_all A A2 l.length c 1 d (nums l) (nums [x]) w (nums_len l) rfl hc h.bytesIn h2.bytesIn).mono ?_
  rintro e w' ⟨rfl, rfl⟩
  refine ⟨rfl, ?_⟩
  unfold Lib.trimPrefixV
  simp only [bytesOf_nums]
  unfold Lib.trimPrefix
  have hne : Lib.hasPrefix [] [x] = false := by simp [Lib.hasPrefix]
  by_cases hs : Lib.hasPrefix l [x] = true
  · have hr := h
    rcases h with rfl | ⟨b, off, rfl, _, _⟩
    · rw [hne] at hs; cases hs
    · refine ⟨some ⟨b, if c = 1 then off else off + 1, none⟩, c - 1, ?_, ?_, ?_, by omega⟩
      · show Ending.returned (.tuple #[Lib.bytesTrimPrefix b off l.length c (nums l) (nums [x]), _]) = _
        unfold Lib.bytesTrimPrefix Lib.sliceFrom
        rw [bytesOf_nums, bytesOf_nums, if_pos hs, if_pos hs, hs]
        by_cases hc1 : c = 1 <;> simp [nums, hc1]
      · rw [if_pos hs]
        by_cases hc1 : c = 1
        · have : l.drop 1 = [] := List.drop_eq_nil_of_le (by omega)
          exact .inl this
        · rw [if_neg hc1]; exact hr.drop 1
      · rw [if_pos hs, List.length_drop]
        show l.length - 1 ≤ c - 1
        omega
  · refine ⟨A, c, ?_, by rw [if_neg hs]; exact h, by rw [if_neg hs]; exact hc, Nat.le_refl _⟩
    rw [if_neg hs]
    have hs' : Lib.hasPrefix l [x] = false := by simpa using hs
    rw [hs']
    congr 3
    split
    · unfold Lib.bytesTrimPrefix
      rw [bytesOf_nums, bytesOf_nums, if_neg hs]
    · rfl
/-- bytes.Clone -/
theorem clone_walk (w : World) {B : Nat} {A : Option Addr} {l : List UInt8} (h : RB w B A l) (n c : Nat) (hn : n = l.length) (hl : n ≤ 140737488355328) :
    Calls Tryd.prog 26 #[.slice A n c] w fun e w' => Below w.heap.size w w' ∧ ∃ A2 c2, e = .returned (.slice A2 n c2) ∧ OwnV w' w.heap.size (.slice A2 n c2) l := by
  subst hn
  cases A with
  | none =>
    have h0 : l = [] := by
      rcases h with h | ⟨b, off, e, _⟩
      · exact h
      · cases e
    subst h0
    refine (Tryd.bytes_Clone_nil 0 c w).mono ?_
    rintro e w' ⟨rfl, rfl⟩
    exact ⟨Below.refl _ _, none, 0, rfl, none, 0, rfl, Nat.le_refl _, by simp [maxLen], .inl rfl⟩
  | some a =>
    refine (Tryd.bytes_Clone_at a l.length c (nums l) w (nums_len l) hl (fun i hi => ?_)).mono ?_
    · obtain ⟨b, off, e, _, hc⟩ := h.at_ hi
      injection e with e
      subst e
      rw [Addr.add_lit, hc i hi, nums_getD l hi]
    · rintro e w' ⟨v', rfl, hr, _, hb⟩
      have hO : OwnB w' w.heap.size 5 v' l := by
        have : (nums l).map (Value.int .u8) = Lib.byteCells l := by simp [nums, Lib.byteCells]
        rw [this] at hr
        exact hr
      obtain ⟨A2, m, c2, rfl⟩ := hO.sl
      have hV := OwnV.of_own hO
      obtain ⟨rfl, _⟩ := hV.sl
      exact ⟨hb, A2, c2, rfl, hV⟩
theorem OwnV.clip {w : World} {base n c : Nat} {A : Option Addr} {l : List UInt8} (h : OwnV w base (.slice A n c) l) : OwnV w base (.slice A n n) l := by
  obtain ⟨A', c', e, h1, h2, h3⟩ := h
  injection e with e1 e2 e3
  subst e1; subst e2; subst e3
  exact ⟨A, _, rfl, Nat.le_refl _, by omega, h3⟩
/-- slices.Clip -/
theorem clip_walk (w : World) (A : Option Addr) (n c : Nat) (hc : n ≤ c) (hm : c ≤ 9223372036854775807) :
    Calls Tryd.prog 25 #[.slice A n c] w fun e w' => w = w' ∧ e = .returned (.slice A n n) := by
  go_enter Tryd.func25, Tryd.ntmps25
  go_wp2
  go_ret
  exact ⟨rfl, rfl⟩
end Go.Proofs.YtkemmgfmmfcdlaaDoor
