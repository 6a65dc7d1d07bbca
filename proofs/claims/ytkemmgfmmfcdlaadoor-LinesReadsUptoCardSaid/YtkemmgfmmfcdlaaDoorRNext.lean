/-
  The walks of waybillref12's has and Next. Conditions: the sizes.
-/
import Derived.Test.YtkemmgfmmfcdlaaDoorFeed
import Derived.Test.YtkemmgfmmfcdlaaDoorLnSt
namespace Go.Proofs.YtkemmgfmmfcdlaaDoor
open Go.RowKit
set_option linter.unusedVariables false

theorem byte_beq (a b : UInt8) : ((a.toNat : Int) == (b.toNat : Int)) = decide (a = b) := by
  rw [Bool.eq_iff_iff, beq_iff_eq, decide_eq_true_eq]
  constructor
  · intro h; exact UInt8.toNat_inj.1 (by omega)
  · intro h; rw [h]
theorem has_walk (w : World) (A : Option Addr) (l : List UInt8) (c : Nat) (cv : UInt8) (h : RB w w.heap.size A l) (hl : l.length ≤ 4611686018427387904) :
    Calls Tryd.prog 27 #[.slice A l.length c, .int .u8 (cv.toNat : Int)] w fun e w' => w = w' ∧ e = .returned (.bool (decide (cv ∈ l))) := by
  generalize hF : decide (cv ∈ l) = F at *
  have HF : Hid (F = decide (cv ∈ l.drop 0)) := Lib.hid (by rw [List.drop_zero]; exact hF.symm)
  have HR := Lib.hid h
  clear h hF
  go_enter Tryd.func27, Tryd.ntmps27
  go_wp2_with fail
  go_loopg [5] l.length (fun k i wr => w = wr ∧ ∃ (j : Nat), j + k = l.length ∧ i = .int .i64 j ∧ Hid (F = decide (cv ∈ l.drop j)))
  case atStart => exact ⟨rfl, 0, by omega, rfl, HF⟩
  case round =>
    obtain ⟨rfl, j, hj, rfl, H⟩ := hrel
    clear HF
    by_cases hlt : j < l.length
    · have hj1 : (j : Int) < (l.length : Int) := by omega
      obtain ⟨b, off, rfl, -, hcell⟩ := HR.out.at_ hlt
      have cj := hcell j hlt
      rw [bt_getElem hlt] at cj
      have hq := byte_beq l[j] cv
      have H2 : Hid (F = (decide (l[j] = cv) || decide (cv ∈ l.drop (j + 1)))) := Lib.hid (by
        rw [H.out, Bool.eq_iff_iff]
        simp only [Bool.or_eq_true, decide_eq_true_eq]
        rw [List.drop_eq_getElem_cons hlt, List.mem_cons]
        exact ⟨fun h => h.imp Eq.symm id, fun h => h.imp Eq.symm id⟩)
      clear hcell H
      generalize l[j] = x at *
      by_cases hx : x = cv
      · subst hx
        have he : Hid (F = true) := Lib.hid (by rw [H2.out]; simp)
        clear H2 hq
        go_wp2
        go_ret
        exact ⟨rfl, by rw [he.out]; rfl⟩
      · have hq2 : ((x.toNat : Int) == (cv.toNat : Int)) = false := by rw [hq]; simpa using hx
        have he : Hid (F = decide (cv ∈ l.drop (j + 1))) := Lib.hid (by rw [H2.out, decide_eq_false hx, Bool.false_or])
        clear H2 hq hx
        go_wp2
        go_roundg (gk - 1)
        case rel => exact ⟨rfl, j + 1, by omega, by go_num, he⟩
        case measure => omega
    · have hj1 : ¬ (j : Int) < (l.length : Int) := by omega
      have he : Hid (F = false) := Lib.hid (by rw [H.out, List.drop_of_length_le (by omega)]; simp)
      clear H
      go_wp2
      go_ret
      exact ⟨rfl, by rw [he.out]; rfl⟩
/-- what Next answers, and what it leaves -/
def NextPost (T : TypeId) (w : World) (base p : Nat) (own : Option Nat) (most : Nat) (l : List UInt8) (e : Ending) (w' : World) : Prop :=
  (nextP most l = none ∧ e = .returned (.tuple #[.slice none 0 0, .int .i64 0, .bool false]) ∧ Below w.heap.size w w' ∧ Rd w' T base p own most l) ∨
  ∃ r y v own', nextP most l = some (r, y) ∧ e = .returned (.tuple #[v, .int .i64 r.2, .bool true]) ∧ OwnV w' w.heap.size v r.1 ∧ Chg p none w w' ∧ Rd w' T base p own' most y ∧ (own' = own ∨ own' = none ∨ ∃ g, own' = some g ∧ w.heap.size ≤ g)
theorem take_cut {l x y : List UInt8} (h : l = x ++ 10 :: y) : l.take x.length = x ∧ l.drop (x.length + 1) = y := by
  subst h
  refine ⟨by simp, ?_⟩
  rw [show x.length + 1 = (x ++ [10]).length by simp, show x ++ 10 :: y = (x ++ [10]) ++ y by simp, List.drop_left]
theorem Chg.own {p : Nat} {w w' w2 : World} (h : Chg p none w w') {own : Option Nat} (hg : w'.grownBy w2 own) (ho : own = none ∨ ∃ g, own = some g ∧ w.heap.size ≤ g) : Chg p none w w2 :=
  ⟨hg.os.trans h.os, hg.tape.trans h.tape, hg.output.trans h.output, Nat.le_trans h.size hg.size, fun i hi h1 h2 => (hg.block i (Nat.lt_of_lt_of_le hi h.size) (fun e => by
    rcases ho with rfl | ⟨g, rfl, hg⟩
    · cases e
    · injection e with e; omega)).trans (h.block i hi h1 h2)⟩
theorem hasSuf13 (x : List UInt8) (h : x ≠ []) : Lib.hasSuffix x [13] = decide (x.getLast? = some 13) := by
  rw [Bool.eq_iff_iff, decide_eq_true_eq]
  constructor
  · intro hs
    have : [13] <:+ x := by simpa [Lib.hasSuffix] using hs
    obtain ⟨m, rfl⟩ := this
    simp
  · intro hl
    rw [List.getLast?_eq_some_iff] at hl
    obtain ⟨m, rfl⟩ := hl
    exact (suf_13 m).1
end Go.Proofs.YtkemmgfmmfcdlaaDoor
