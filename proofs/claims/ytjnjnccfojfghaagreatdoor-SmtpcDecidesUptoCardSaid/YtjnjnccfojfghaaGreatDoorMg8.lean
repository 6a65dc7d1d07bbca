/-
  Several texts in one: ScTab, ScForm, ScNum, ScHex, ScGrp. Conditions: each part names its own.
-/
import Derived.Test.YtjnjnccfojfghaaGreatDoorMg6
import Derived.Test.YtjnjnccfojfghaaGreatDoorMg7
import Derived.Lib.LaidTab
import Derived.Test.YtjnjnccfojfghaaGreatDoorMg5
import Derived.Lib.Replace
import Derived.BigQuiet
import Derived.Test.YtjnjnccfojfghaaGreatDoorShelf6
import Derived.Shelf.Strings.SlTrimAscii
set_option linter.unusedSimpArgs false
/-! What the library's tables hold, for smtpc. No condition. -/
namespace Go.Proofs.YtjnjnccfojfghaaGreatDoor
open Go.RowKit
set_option linter.unusedVariables false
structure TabC (w : World) : Prop where
  tl : TabsL w.heap.size w
  pw : ∀ x, Below w.heap.size w x → Lib.TabIs Tryz.prog x "internal/strconv.uint64pow10" .u64 Lib.pow10Tab
  errs : Errs w
  db : w.cell? ⟨7, 15, none⟩ = some (.int .u8 4)
theorem TabC.keep {w w' : World} (h : TabC w) (hb : Below w.heap.size w w') : TabC w' :=
  ⟨fun x hx => h.tl x (hb.trans (hx.mono hb.size)), fun x hx => h.pw x (hb.trans (hx.mono hb.size)), h.errs.keep hb, (hb.cell (World.block_lt_of_cell? _ _ h.db)).trans h.db⟩
theorem TabC.pow {w : World} (h : TabC w) : Lib.TabIs Tryz.prog w "internal/strconv.uint64pow10" .u64 Lib.pow10Tab := h.pw w (Below.refl _ _)
theorem TabC.ml {w : World} (h : TabC w) : ∃ m, w.cell? ⟨0, 0, none⟩ = some (.int .i64 m) := (h.tl w (Below.refl _ _)).2
theorem TabC.u8 {w : World} (h : TabC w) : Lib.Utf8Tabs 1 2 w := (h.tl w (Below.refl _ _)).1
end Go.Proofs.YtjnjnccfojfghaaGreatDoor

/-! strings.ReplaceAll of one byte, and the walk of path.form. Condition: the text's length, the cell at block 0. -/
namespace Go.Proofs.YtjnjnccfojfghaaGreatDoor
open Go.RowKit
set_option linter.unusedVariables false
/-- each byte c as new -/
def repC (c : UInt8) (new : Tx) : Tx → Tx
  | [] => []
  | x :: r => (if x = c then new else [x]) ++ repC c new r
theorem repC_len (c : UInt8) (new : Tx) (h1 : 1 ≤ new.length) : ∀ l, (repC c new l).length ≤ new.length * l.length
  | [] => by simp [repC]
  | x :: r => by
    have ih := repC_len c new h1 r
    rw [repC, List.length_append, List.length_cons, Nat.mul_add, Nat.mul_one]
    by_cases hx : x = c
    · rw [if_pos hx]; omega
    · rw [if_neg hx, List.length_singleton]; omega
theorem replaceK_rep (c : UInt8) (new : Tx) : ∀ l : Tx, Lib.replaceK [c] new (Lib.count l [c]) l = repC c new l
  | [] => rfl
  | x :: r => by
    have ih := replaceK_rep c new r
    by_cases hx : x = c
    · subst hx
      rw [Lib.count_cons_eq, Nat.add_comm, Lib.replaceK_hit _ _ _ _ 0 (idx_eq x r), repC, if_pos rfl, ← ih]
      rfl
    · rw [Lib.count_cons_ne x c r hx, repC, if_neg hx]
      by_cases h1 : Lib.index r [c] = -1
      · rw [count_no h1] at ih ⊢
        rw [← ih]
        rfl
      · have hg := Lib.index_ge r [c]
        obtain ⟨j, hj⟩ : ∃ j : Nat, Lib.index r [c] = j := ⟨(Lib.index r [c]).toNat, by omega⟩
        have hc := Lib.count_hit (sub := [c]) (s := r) (i := j) (by simp) hj
        have hj2 : Lib.index (x :: r) [c] = ((j + 1 : Nat) : Int) := by rw [idx_ne hx, if_neg h1, hj]; rfl
        rw [hc, Nat.add_comm] at ih ⊢
        rw [Lib.replaceK_hit _ _ _ _ j hj] at ih
        rw [Lib.replaceK_hit _ _ _ _ (j + 1) hj2, ← ih]
        simp [Nat.add_right_comm j 1 1]
theorem replaceAll_rep (c : UInt8) (new : Tx) (hn : ([c] == new) = false) (l : Tx) : Lib.replaceAll l [c] new = repC c new l := by
  unfold Lib.replaceAll Lib.replace Lib.replaceNum
  rw [hn, if_neg (by decide), if_pos (.inl (by decide)), replaceK_rep]
def formM (l : Tx) : Tx := if dottedM l then l else 34 :: (repC 34 [92, 34] (repC 92 [92, 92] l) ++ [34])
theorem formM_len (l : Tx) : (formM l).length ≤ 4 * l.length + 2 := by
  unfold formM
  by_cases h : dottedM l = true
  · rw [if_pos h]; omega
  · rw [if_neg h, List.length_cons, List.length_append, List.length_singleton]
    have h1 := repC_len 34 [92, 34] (by simp) (repC 92 [92, 92] l)
    have h2 := repC_len 92 [92, 92] (by simp) l
    simp only [List.length_cons, List.length_nil] at h1 h2
    omega
theorem rep_walk (c : UInt8) (new l : Tx) (hn : ([c] == new) = false) (h2 : new.length ≤ 2) (w : World) (T : TabC w) (hs : l.length ≤ 2147483648) :
    Calls Tryz.prog 154 #[.string (bs l), .string (bs [c]), .string (bs new)] w fun e w' => e = .returned (.string (bs (repC c new l))) ∧ Below w.heap.size w w' := by
  obtain ⟨m, hm⟩ := T.ml
  have hsz := bs_size l
  have hc := Lib.countB_le (bs [c]) (by simp [bs_size]) _ (bs l) (Nat.le_refl _)
  have hn2 : (bs new).size ≤ 2 := by rw [bs_size]; exact h2
  have h := Tryz.strings_ReplaceAll (bs l) (bs [c]) (bs new) m w (by omega) hm (by simp [bs_size]) (by
    have : Lib.countB (bs l) (bs [c]) * (bs new).size ≤ 2147483648 * 2 := Nat.mul_le_mul (by omega) hn2
    omega)
  rw [bs_list, bs_list, bs_list, replaceAll_rep c new hn] at h
  exact h
theorem form_walk (l : Tx) (w : World) (T : TabC w) (hs : l.length ≤ 1073741824) :
    Calls Tryz.prog 120 #[.string (bs l)] w fun e w' => Below w.heap.size w w' ∧ e = .returned (.string (bs (formM l))) := by
  have KD : Hid (Calls Tryz.prog 153 #[.string (bs l)] w fun e w' => Below w.heap.size w w' ∧ e = .returned (.bool (dottedM l))) := by
    obtain ⟨m, hm⟩ := T.ml
    exact Lib.hid (dotted_walk l m w hm hs)
  have hF : formM l = if dottedM l then l else 34 :: (repC 34 [92, 34] (repC 92 [92, 92] l) ++ [34]) := rfl
  have KR := Lib.hid (fun W T => rep_walk 92 [92, 92] l rfl (Nat.le_refl _) W T (by omega))
  have KS := Lib.hid (fun W T => rep_walk 34 [92, 34] (repC 92 [92, 92] l) rfl (Nat.le_refl _) W T (by
    have h2 := repC_len 92 [92, 92] (by simp) l
    simp only [List.length_cons, List.length_nil] at h2
    omega))
  have b1 : bs [92] = ⟨#[92]⟩ := rfl
  have b2 : bs [92, 92] = ⟨#[92, 92]⟩ := rfl
  have b3 : bs [34] = ⟨#[34]⟩ := rfl
  have b4 : bs [92, 34] = ⟨#[92, 34]⟩ := rfl
  rw [b1, b2] at KR
  rw [b3, b4] at KS
  have hS : (bs (repC 34 [92, 34] (repC 92 [92, 92] l))).size ≤ 4294967296 := by
    have h1 := repC_len 34 [92, 34] (by simp) (repC 92 [92, 92] l)
    have h2 := repC_len 92 [92, 92] (by simp) l
    simp only [List.length_cons, List.length_nil] at h1 h2
    rw [bs_size]
    omega
  generalize formM l = F at *
  generalize repC 92 [92, 92] l = R at *
  generalize repC 34 [92, 34] R = S at *
  generalize dottedM l = D at *
  have HF := Lib.hid hF
  have TW := Lib.hid T
  clear hF b1 b2 T
  go_enter Tryz.func120, Tryz.ntmps120
  go_wp2_with fail
  refine KD.out.mono ?_
  rintro e w2 ⟨hb2, rfl⟩
  have HB := Lib.hid hb2
  have TW2 := Lib.hid (TW.out.keep hb2)
  clear hb2 KD TW
  cases D with
  | true =>
    go_wp2_with fail
    go_ret
    exact ⟨HB.out, by rw [HF.out]; rfl⟩
  | false =>
    go_wp2_with fail
    refine (KR.out _ TW2.out).mono ?_
    rintro e w3 ⟨rfl, hb3⟩
    have HB3 := Lib.hid (HB.out.trans (hb3.mono HB.out.size))
    have TW3 := Lib.hid (TW2.out.keep hb3)
    clear hb3
    go_wp2_with fail
    refine (KS.out _ TW3.out).mono ?_
    rintro e w4 ⟨rfl, hb4⟩
    have HB4 := Lib.hid (HB3.out.trans (hb4.mono HB3.out.size))
    clear hb4
    go_wp2_with fail
    go_ret
    refine ⟨HB4.out, ?_⟩
    rw [HF.out]
    show Ending.returned (.string _) = Ending.returned (.string _)
    congr 2
end Go.Proofs.YtjnjnccfojfghaaGreatDoor

/-! The walk of cidr.number. Condition: the text's length, what the tables hold. -/
namespace Go.Proofs.YtjnjnccfojfghaaGreatDoor
open Go.RowKit
set_option linter.unusedVariables false
theorem dropW_nil {α : Type} (p : α → Bool) : ∀ l : List α, l.dropWhile p = [] ↔ l.all p = true
  | [] => by simp
  | x :: l => by
    rw [List.dropWhile_cons, List.all_cons]
    cases h : p x
    · simp
    · simpa using dropW_nil p l
theorem trim_nil (l cs : List UInt8) : Lib.trimS l cs = [] ↔ l.all (cs.contains ·) = true := by
  unfold Lib.trimS Lib.trimLeftS
  rw [dropW_nil]
  unfold Lib.trimRightS
  rw [List.all_reverse]
  constructor
  · intro h
    have h2 : (l.reverse.dropWhile (cs.contains ·)) = [] := by
      cases e : l.reverse.dropWhile (cs.contains ·) with
      | nil => rfl
      | cons x r =>
        exfalso
        have h1 : (l.reverse.dropWhile (cs.contains ·)).head? = some x := by rw [e]; rfl
        have h3 := List.head?_dropWhile_not (cs.contains ·) l.reverse
        rw [h1] at h3
        rw [e, List.all_cons, Bool.and_eq_true] at h
        simp only [h.1] at h3
        cases h3
    rw [dropW_nil, List.all_reverse] at h2
    exact h2
  · intro h
    have h2 : (l.reverse.dropWhile (cs.contains ·)) = [] := by rw [dropW_nil, List.all_reverse]; exact h
    rw [h2]; rfl
/-- strings.Trim at a set of plain letters -/
theorem trim_walk (s cs : Tx) (h1 : s.length ≤ maxLen) (h2 : cs.length < 4294967281) (h3 : cs.all (fun c => decide (c.toNat < 128)) = true) (w : World) :
    Calls Tryz.prog 140 #[.string (bs s), .string (bs cs)] w fun e w' => ∃ t : Tx, e = .returned (.string (bs t)) ∧ Below w.heap.size w w' ∧ (t.isEmpty = s.all (cs.contains ·)) := by
  refine (Any.strings_Trim_laid Tryz.lays160 (by kernel_rfl) (bs s) (bs cs) w (by rw [bs_size]; exact h1) (by rw [bs_size]; exact h2) (by
    rw [bs_list]
    exact ascii_of_all h3)).mono ?_
  rintro e w2 ⟨rfl, hb⟩
  refine ⟨_, rfl, hb, ?_⟩
  rw [bs_list, bs_list, Bool.eq_iff_iff, List.isEmpty_iff]
  exact trim_nil s cs
def digS : Tx := [48, 49, 50, 51, 52, 53, 54, 55, 56, 57]
def numM (s : Tx) : Option Nat := if s.length ≤ 3 ∧ ¬ (1 < s.length ∧ s.head? = some 48) ∧ s.all (digS.contains ·) = true then Lib.decNat s else none
theorem dig_all : ∀ c : UInt8, digS.contains c = true → ∃ d, Lib.digitVal c = some d ∧ d < 10 ∧ c ≠ 45 ∧ c ≠ 43 := by
  have h : ∀ i : Fin 256, digS.contains (UInt8.ofNat i.val) = true → (Lib.digitVal (UInt8.ofNat i.val)).isSome = true ∧ (Lib.digitVal (UInt8.ofNat i.val)).getD 0 < 10 ∧ UInt8.ofNat i.val ≠ 45 ∧ UInt8.ofNat i.val ≠ 43 := by decide +kernel
  intro c hc
  have := h ⟨c.toNat, c.toNat_lt⟩
  rw [show UInt8.ofNat (⟨c.toNat, c.toNat_lt⟩ : Fin 256).val = c from by simp] at this
  obtain ⟨h1, h2, h3, h4⟩ := this hc
  obtain ⟨d, hd⟩ := Option.isSome_iff_exists.1 h1
  rw [hd] at h2
  exact ⟨d, hd, h2, h3, h4⟩
theorem decFrom_all : ∀ (l : Tx) (acc : Nat), l.all (digS.contains ·) = true → ∃ n, Lib.decFrom acc l = some n ∧ n < (acc + 1) * 10 ^ l.length
  | [], acc, _ => ⟨acc, rfl, by simp⟩
  | c :: r, acc, h => by
    rw [List.all_cons, Bool.and_eq_true] at h
    obtain ⟨d, hd, h10, -, -⟩ := dig_all c h.1
    obtain ⟨n, hn, hlt⟩ := decFrom_all r (acc * 10 + d) h.2
    refine ⟨n, ?_, ?_⟩
    · rw [Lib.decFrom, hd]; exact hn
    · rw [List.length_cons, Nat.pow_succ, Nat.mul_comm (10 ^ r.length) 10, ← Nat.mul_assoc]
      exact Nat.lt_of_lt_of_le hlt (Nat.mul_le_mul_right _ (by omega))
theorem atoi_all {c : UInt8} {r : Tx} (h : (c :: r).all (digS.contains ·) = true) : ∃ n, Lib.decNat (c :: r) = some n ∧ Lib.atoi (c :: r) = some (n : Int) ∧ n < 10 ^ (r.length + 1) := by
  obtain ⟨n, hn, hlt⟩ := decFrom_all (c :: r) 0 h
  have h1 : Lib.decNat (c :: r) = some n := hn
  rw [List.all_cons, Bool.and_eq_true] at h
  obtain ⟨d, hd, -, h45, h43⟩ := dig_all c h.1
  refine ⟨n, h1, ?_, by simpa using hlt⟩
  show (if (c == 45) = true then _ else if (c == 43) = true then _ else (Lib.decNat (c :: r)).map fun (m : Nat) => (m : Int)) = _
  rw [if_neg (by simpa using h45), if_neg (by simpa using h43), h1]
  rfl
def numPost (s : Tx) (w : World) (e : Ending) (w' : World) : Prop := Below w.heap.size w w' ∧ e = .returned (.tuple #[.int .i64 (((numM s).getD 0 : Nat) : Int), .bool (numM s).isSome])
set_option maxHeartbeats 2000000 in
theorem number_walk (s : Tx) (w : World) (T : TabC w) (hs : s.length ≤ 1073741824) :
    Calls Tryz.prog 110 #[.string (bs s)] w (numPost s w) := by
  have hsz := bs_size s
  have KT := Lib.hid (trim_walk s digS (by unfold maxLen; omega) (by decide) (by decide) w)
  have hl : bs digS = ⟨#[48, 49, 50, 51, 52, 53, 54, 55, 56, 57]⟩ := rfl
  rw [hl] at KT
  clear hl
  cases s with
  | nil =>
    have KA : Hid (∀ W, Below w.heap.size w W → Calls Tryz.prog 141 #[.string (bs [])] W fun e w' => ∃ N, e = .returned (.tuple #[.int .i64 0, .iface 180 (.pointer (some ⟨N, 0, none⟩))]) ∧ Below W.heap.size W w') := Lib.hid fun W hb => by
      obtain ⟨t, p, h3⟩ := (T.keep hb).errs.c3
      refine (Tryz.strconv_Atoi_err (bs []) (by decide) rfl _ W h3 (.inr ⟨t, p, rfl⟩)).mono ?_
      rintro e w' ⟨N, h1, -, -, h2⟩
      exact ⟨N, h1, h2⟩
    have PO : Hid (∀ w', Below w.heap.size w w' → numPost [] w (.returned (.tuple #[.int .i64 0, .bool false])) w') := Lib.hid fun w' h => ⟨h, rfl⟩
    have he : (bs ([] : Tx)).toList = [] := bs_nil []
    have he2 : (bs ([] : Tx)).toList.isEmpty = true := by rw [he]; rfl
    clear T hs
    generalize numPost [] w = P at *
    have h0 : (bs ([] : Tx)).size = 0 := rfl
    go_enter Tryz.func110, Tryz.ntmps110
    go_wp2_with fail
    refine KT.out.mono ?_
    rintro e w2 ⟨t, rfl, hb, ht⟩
    obtain rfl : t = [] := List.isEmpty_iff.1 ht
    have HB := Lib.hid hb
    clear hb ht KT
    go_wp2_with fail
    refine (KA.out _ HB.out).mono ?_
    rintro e w3 ⟨N, rfl, hb3⟩
    have HB3 := Lib.hid (HB.out.trans (hb3.mono HB.out.size))
    clear hb3 KA
    go_wp2_with fail
    go_quiet (fail)
    go_wp2_with fail
    exact PO.out _ (bdrewN HB3.out _)
  | cons c r =>
    obtain ⟨n, hn⟩ : ∃ n, r.length = n := ⟨_, rfl⟩
    rw [List.length_cons, hn] at hsz
    have hM : numM (c :: r) = if n + 1 ≤ 3 ∧ ¬ (1 < n + 1 ∧ c = 48) ∧ (c :: r).all (digS.contains ·) = true then Lib.decNat (c :: r) else none := by
      unfold numM
      rw [List.length_cons, hn, List.head?_cons]
      simp only [Option.some.injEq]
    have hP0 : 0 < (bs (c :: r)).size := by omega
    have hg0 : (bs (c :: r))[0]'hP0 = c := rfl
    have hszi : ((bs (c :: r)).size : Int) = (n : Int) + 1 := by omega
    have POF : Hid (numM (c :: r) = none → ∀ w', Below w.heap.size w w' → numPost (c :: r) w (.returned (.tuple #[.int .i64 0, .bool false])) w') := Lib.hid fun h w' hb => by
      unfold numPost
      rw [h]
      exact ⟨hb, rfl⟩
    have POT : Hid (∀ m, numM (c :: r) = some m → ∀ w', Below w.heap.size w w' → numPost (c :: r) w (.returned (.tuple #[.int .i64 (m : Int), .bool true])) w') := Lib.hid fun m h w' hb => by
      unfold numPost
      rw [h]
      exact ⟨hb, rfl⟩
    have HAL := Lib.hid (fun h => atoi_all (c := c) (r := r) h)
    have KAT := Lib.hid (fun h => Tryz.strconv_Atoi (bs (c :: r)) h)
    have HM := Lib.hid hM
    have HN := Lib.hid hn
    clear hM hn T
    generalize numPost (c :: r) w = P at *
    by_cases h3 : n + 1 ≤ 3
    · have h3i : ¬ ((n : Int) + 1 > 3) := by omega
      by_cases h48 : 1 < n + 1 ∧ c = 48
      · have H := Lib.hid (POF.out (by rw [HM.out, if_neg (fun x => x.2.1 h48)]))
        have h1i : ((n : Int) + 1 > 1) := by omega
        have hci : ((c.toNat : Int) == 48) = true := by rw [h48.2]; rfl
        clear h48 h3
        go_enter Tryz.func110, Tryz.ntmps110
        go_wp2_with fail
        exact H.out _ (Below.refl _ _)
      · have h48' : ¬ ((n : Int) + 1 > 1) ∨ ((n : Int) + 1 > 1) ∧ ((c.toNat : Int) == 48) = false := by
          by_cases h1 : 1 < n + 1
          · refine .inr ⟨by omega, ?_⟩
            rw [beq_eq_false_iff_ne]
            intro e
            have h2 : c.toNat = (48 : UInt8).toNat := by have : (48 : UInt8).toNat = 48 := rfl
                                                         omega
            exact h48 ⟨h1, UInt8.toNat_inj.1 h2⟩
          · exact .inl (by omega)
        obtain ⟨O, hO⟩ : ∃ O, (c :: r).all (digS.contains ·) = O := ⟨_, rfl⟩
        rw [hO] at KT
        cases O with
        | false =>
          have H := Lib.hid (POF.out (by rw [HM.out, if_neg (fun x => by rw [hO] at x; exact absurd x.2.2 (by decide))]))
          clear h48 h3 hO
          rcases h48' with h1i | ⟨h1i, hci⟩ <;>
          · go_enter Tryz.func110, Tryz.ntmps110
            go_wp2_with fail
            refine KT.out.mono ?_
            rintro e w2 ⟨t, rfl, hb, ht⟩
            rw [← bs_nil t] at ht
            have HB := Lib.hid hb
            clear hb KT
            go_wp2_with fail
            exact H.out _ HB.out
        | true =>
          obtain ⟨m, hm1, hm2, hm3⟩ := HAL.out hO
          have H := Lib.hid (POT.out m (by rw [HM.out, if_pos ⟨h3, h48, hO⟩, hm1]))
          have KA : Hid (∀ W, Calls Tryz.prog 141 #[.string (bs (c :: r))] W fun e w' => e = .returned (.tuple #[.int .i64 (m : Int), .nilIface]) ∧ Below W.heap.size W w') := Lib.hid fun W => by
            refine (Tryz.strconv_Atoi (bs (c :: r)) (m : Int) (by omega) (by rw [bs_list]; exact hm2) W).mono ?_
            rintro e w' ⟨rfl, tt, rfl⟩
            exact ⟨rfl, below_bytesWorld _ _ _⟩
          clear h48 h3 hO hm1 hm2 hm3
          rcases h48' with h1i | ⟨h1i, hci⟩ <;>
          · go_enter Tryz.func110, Tryz.ntmps110
            go_wp2_with fail
            refine KT.out.mono ?_
            rintro e w2 ⟨t, rfl, hb, ht⟩
            rw [← bs_nil t] at ht
            have ht2 : (bs t).toList = [] := List.isEmpty_iff.1 ht
            have HB := Lib.hid hb
            clear hb KT
            go_wp2_with fail
            refine (KA.out _).mono ?_
            rintro e w3 ⟨rfl, hb3⟩
            have HB3 := Lib.hid (HB.out.trans (hb3.mono HB.out.size))
            clear hb3 KA
            go_wp2_with fail
            go_quiet (fail)
            go_wp2_with fail
            exact H.out _ (bdrewN HB3.out _)
    · have h3i : ((n : Int) + 1 > 3) := by omega
      have H := Lib.hid (POF.out (by rw [HM.out, if_neg (fun x => h3 x.1)]))
      go_enter Tryz.func110, Tryz.ntmps110
      go_wp2_with fail
      exact H.out _ (Below.refl _ _)
end Go.Proofs.YtjnjnccfojfghaaGreatDoor

/-! The walk of strconv.ParseUint at base 16, 16 bits, on one to four digits. No condition. -/
namespace Go.Proofs.YtjnjnccfojfghaaGreatDoor
open Go.RowKit
set_option linter.unusedVariables false
/-- a digit of base sixteen, and its value -/
def IsHx (c : UInt8) : Prop := (48 ≤ c.toNat ∧ c.toNat ≤ 57) ∨ (65 ≤ c.toNat ∧ c.toNat ≤ 70) ∨ (97 ≤ c.toNat ∧ c.toNat ≤ 102)
def hx (c : UInt8) : Nat := if c.toNat ≤ 57 then c.toNat - 48 else if c.toNat ≤ 70 then c.toNat - 55 else c.toNat - 87
def hxV (n : Nat) : Tx → Nat
  | [] => n
  | c :: r => hxV (n * 16 + hx c) r
theorem hx_lt {c : UInt8} (h : IsHx c) : hx c < 16 := by 
  unfold IsHx at h
  unfold hx
  by_cases h1 : c.toNat ≤ 57
  · rw [if_pos h1]; omega
  · rw [if_neg h1]
    by_cases h2 : c.toNat ≤ 70
    · rw [if_pos h2]; omega
    · rw [if_neg h2]; omega
theorem hxV_lt : ∀ (l : Tx) (n j : Nat), (∀ c ∈ l, IsHx c) → n < 16 ^ j → hxV n l < 16 ^ (j + l.length)
  | [], n, j, _, h => h
  | c :: r, n, j, hc, h => by
    have h2 := hx_lt (hc c (by simp))
    have := hxV_lt r (n * 16 + hx c) (j + 1) (fun d hd => hc d (by simp [hd])) (by rw [Nat.pow_succ]; omega)
    rw [List.length_cons, show j + (r.length + 1) = j + 1 + r.length by omega]
    exact this
theorem lower_hx (c : UInt8) (h : IsHx c) (h2 : ¬ c.toNat ≤ 57) (w : World) : Calls Tryz.prog 169 #[.int .u8 (c.toNat : Int)] w fun e w' => w = w' ∧ e = .returned (.int .u8 ((hx c + 87 : Nat) : Int)) := by
  have hb : bits .or .u8 (c.toNat : Int) 32 = ((hx c + 87 : Nat) : Int) := by
    rw [show (32 : Int) = ((32 : Nat) : Int) from rfl, u8_or_nat c.toNat 32 c.toNat_lt (by omega)]
    have key : ∀ d : Fin 6, (97 + d.val) ||| 32 = 97 + d.val ∧ (65 + d.val) ||| 32 = 97 + d.val := by decide +kernel
    unfold hx
    rw [if_neg h2]
    unfold IsHx at h
    by_cases h3 : c.toNat ≤ 70
    · rw [if_pos h3]
      have := (key ⟨c.toNat - 65, by omega⟩).2
      simp only at this
      rw [show 65 + (c.toNat - 65) = c.toNat by omega] at this
      rw [this]
      congr 1
      omega
    · rw [if_neg h3]
      have := (key ⟨c.toNat - 97, by omega⟩).1
      simp only at this
      rw [show 97 + (c.toNat - 97) = c.toNat by omega] at this
      rw [this]
      congr 1
      omega
  generalize ((hx c + 87 : Nat) : Int) = z at *
  go_enter Tryz.func169, Tryz.ntmps169
  go_wp2
  go_ret
  exact ⟨rfl, rfl⟩
theorem pow16_le {j : Nat} (h : j ≤ 3) : 16 ^ j ≤ 4096 := Nat.le_trans (Nat.pow_le_pow_right (by omega) h) (by decide)
set_option maxRecDepth 100000 in
set_option maxHeartbeats 4000000 in
theorem parse16 (l : Tx) (h1 : 1 ≤ l.length) (h4 : l.length ≤ 4) (hc : ∀ c ∈ l, IsHx c) (w : World) :
    Calls Tryz.prog 127 #[.string (bs l), .int .i64 16, .int .i64 16] w fun e w' => Below w.heap.size w w' ∧ e = .returned (.tuple #[.int .u64 (hxV 0 l : Int), .nilIface]) := by
  have hcv := conv_sb6 w (bs l)
  have ho := OwnW.conv w 5 (bs l) w.heap.size (by rw [bs_size]; unfold maxLen; omega) (Nat.le_refl _)
  have hbw := below_bytesWorld w 5 (bs l)
  have hsz : (bs l).size = l.length := bs_size l
  rw [bs_size] at hcv ho
  rw [bs_list] at ho
  have hne : (bs l).toList.isEmpty = false := by
    rw [bs_nil]
    cases l with
    | nil => simp at h1
    | cons a r => rfl
  generalize grownCap w l.length 0 5 = cp at *
  have OW := Lib.hid ho
  have HB := Lib.hid hbw
  obtain ⟨T, hT⟩ : ∃ T, hxV 0 l = T := ⟨_, rfl⟩
  have HT := Lib.hid hT
  rw [hT]
  obtain ⟨n, hn⟩ : ∃ n, l.length = n := ⟨_, rfl⟩
  rw [hn] at hsz hcv h1 h4 OW
  have HLN := Lib.hid hn
  have HX := Lib.hid hc
  have hszi : ((bs l).size : Int) = (n : Int) := by omega
  have hn0 : (0 : Int) < (n : Int) := by omega
  have HLW := Lib.hid lower_hx
  clear hT ho hbw hn hc hsz
  go_enter Tryz.func127, Tryz.ntmps127
  go_wp2_with fail
  go_loopg [12, 13, 101] n (fun k u m i wr => Lib.bytesWorld w 5 (bs l) = wr ∧ ∃ (j v : Nat) (mi : Int), j + k = n ∧ u = .bool false ∧ m = .int .u64 mi ∧ i = .int .i64 (j : Int) ∧ 0 ≤ mi ∧ Hid (mi = (v : Int)) ∧ Hid (v < 16 ^ j) ∧ Hid (hxV v (l.drop j) = T))
  case atStart => exact ⟨rfl, 0, 0, 0, by omega, rfl, rfl, rfl, Int.le_refl _, Lib.hid rfl, Lib.hid (by simp), HT⟩
  case round =>
    obtain ⟨rfl, j, v, mi, hj, rfl, rfl, rfl, hm0, HM, hv, H⟩ := hrel
    generalize hW : Lib.bytesWorld w 5 (bs l) = W at *
    clear hW hcv
    by_cases hlt : j < n
    · have hj8 : j < l.length := by rw [HLN.out]; exact hlt
      have hj1 : (j : Int) < (n : Int) := by omega
      obtain ⟨g, hg, -, hcc, hf⟩ := OW.out.byte (k := j) hj8
      obtain rfl : w.heap.size = g := by injection hg with hg; injection hg
      have hd : l.drop j = l[j] :: l.drop (j + 1) := List.drop_eq_getElem_cons hj8
      rw [hd, hxV] at H
      have hbt : bt l j = ((l[j].toNat : Nat) : Int) := by simp [bt, List.getD_eq_getElem?_getD, List.getElem?_eq_getElem hj8]
      rw [hbt] at hcc
      have hic := HX.out l[j] (List.getElem_mem hj8)
      obtain ⟨c, hce⟩ : ∃ c, l[j] = c := ⟨_, rfl⟩
      rw [hce] at hcc H hic
      have hlt16 := hx_lt hic
      have hp := pow16_le (j := j) (by omega)
      have hv2 : mi < 4096 := by have := hv.out; have := HM.out; omega
      have HV2 : Hid (v * 16 + hx c < 16 ^ (j + 1)) := Lib.hid (by have := hv.out; rw [Nat.pow_succ]; omega)
      have HJ := Lib.hid hj
      have HLT := Lib.hid hlt
      clear hg hd hce hbt hf hp hj hlt
      by_cases h57 : c.toNat ≤ 57
      · have e1 : Hid ((hx c : Int) = (c.toNat : Int) - 48) := Lib.hid (by unfold IsHx at hic; unfold hx; rw [if_pos h57]; omega)
        have k1 : (48 : Int) ≤ (c.toNat : Int) := by unfold IsHx at hic; omega
        have k2 : (c.toNat : Int) ≤ 57 := by omega
        have hx95 : ((c.toNat : Int) == 95) = false := beq_eq_false_iff_ne.2 (by omega)
        obtain ⟨d, hd⟩ : ∃ d : Int, (hx c : Int) = d := ⟨_, rfl⟩
        rw [hd] at e1
        have HD := Lib.hid hd
        clear hic h57 hlt16 HLW hd
        generalize hx c = dn at *
        generalize (c.toNat : Int) = x at *
        go_wp2_with fail
        go_roundg (gk - 1)
        case rel =>
          go_light
          exact ⟨rfl, j + 1, v * 16 + dn, _, by have := HJ.out; have := HLT.out; omega, rfl, rfl, by go_num, by omega, Lib.hid (by have := HD.out; have := HM.out; have := e1.out; omega), HV2, H⟩
        case measure => have := HJ.out; have := HLT.out; omega
      · have KL := Lib.hid (fun W => HLW.out c hic h57 W)
        have k1 : (58 : Int) ≤ (c.toNat : Int) := by omega
        have hx95 : ((c.toNat : Int) == 95) = false := beq_eq_false_iff_ne.2 (by unfold IsHx at hic; omega)
        have k2 : ¬ (c.toNat : Int) ≤ 57 := by omega
        have k3 : 10 ≤ hx c := by
          unfold IsHx at hic
          unfold hx
          rw [if_neg h57]
          by_cases h70 : c.toNat ≤ 70
          · rw [if_pos h70]; omega
          · rw [if_neg h70]; omega
        obtain ⟨d, hd⟩ : ∃ d : Int, (hx c : Int) = d := ⟨_, rfl⟩
        have ed : ((hx c + 87 : Nat) : Int) = d + 87 := by omega
        rw [ed] at KL
        have k4 : 10 ≤ d := by omega
        have k5 : d < 16 := by omega
        have HD := Lib.hid hd
        clear hic h57 HLW ed k3 hlt16 hd
        generalize hx c = dn at *
        generalize (c.toNat : Int) = x at *
        go_wp2_with (go_at_call 169; refine (KL.out _).mono ?_; rintro e w' ⟨rfl, rfl⟩)
        go_roundg (gk - 1)
        case rel =>
          go_light
          exact ⟨rfl, j + 1, v * 16 + dn, _, by have := HJ.out; have := HLT.out; omega, rfl, rfl, by go_num, by omega, Lib.hid (by have := HD.out; have := HM.out; omega), HV2, H⟩
        case measure => have := HJ.out; have := HLT.out; omega
    · obtain rfl : j = n := by omega
      have e1 : Hid (mi = (T : Int)) := Lib.hid (by
        rw [HM.out]
        congr 1
        have h := H.out
        rw [List.drop_eq_nil_of_le (by have := HLN.out; omega)] at h
        exact h)
      have hj1 : ¬ (j : Int) < (j : Int) := by omega
      clear hv hne hlt
      go_wp2_with fail
      go_ret2
      rw [← e1.out]
      exact ⟨HB.out, rfl⟩
theorem parseU16 (l : Tx) (h1 : 1 ≤ l.length) (h4 : l.length ≤ 4) (hc : ∀ c ∈ l, IsHx c) (w : World) :
    Calls Tryz.prog 93 #[.string (bs l), .int .i64 16, .int .i64 16] w fun e w' => Below w.heap.size w w' ∧ e = .returned (.tuple #[.int .u64 (hxV 0 l : Int), .nilIface]) := by
  have K := Lib.hid (parse16 l h1 h4 hc w)
  clear h1 h4 hc
  go_enter Tryz.func93, Tryz.ntmps93
  go_wp2_with (go_at_call 127; refine K.out.mono ?_; rintro e w1 ⟨hb, rfl⟩)
  go_ret2
  exact ⟨hb, rfl⟩
end Go.Proofs.YtjnjnccfojfghaaGreatDoor

/-! The walk of cidr.groups. Condition: the text's length, what the tables hold. -/
namespace Go.Proofs.YtjnjnccfojfghaaGreatDoor
open Go.RowKit
set_option linter.unusedVariables false
def hexS : Tx := [48, 49, 50, 51, 52, 53, 54, 55, 56, 57, 97, 98, 99, 100, 101, 102, 65, 66, 67, 68, 69, 70]
def groupB (x : Tx) : Bool := !x.isEmpty && (decide (x.length ≤ 4) && x.all (hexS.contains ·))
def pairM (x : Tx) : Tx := [(hxV 0 x / 256).toUInt8, (hxV 0 x % 256).toUInt8]
def pairsM (L : List Tx) : Tx := L.flatMap pairM
def groupsM (l : Tx) : Option Tx := if l = [] then some [] else if (cutC 58 l).all groupB = true then some (pairsM (cutC 58 l)) else none
theorem hexS_is {x : Tx} (h : x.all (hexS.contains ·) = true) : ∀ c ∈ x, IsHx c := by
  have k : ∀ i : Fin 256, hexS.contains (UInt8.ofNat i.val) = true → (48 ≤ i.val ∧ i.val ≤ 57) ∨ (65 ≤ i.val ∧ i.val ≤ 70) ∨ (97 ≤ i.val ∧ i.val ≤ 102) := by decide +kernel
  intro c hc
  rw [List.all_eq_true] at h
  have h2 := h c hc
  have := k ⟨c.toNat, c.toNat_lt⟩
  simp only [UInt8.ofNat_toNat] at this
  exact this h2
theorem u8c : U8 Tryz.prog 25 5 := ⟨Tryz.underlying25, Tryz.underlying5, info_parts (by kernel_rfl)⟩
theorem pairs_len : ∀ (L : List Tx) (j : Nat), (pairsM (L.take j)).length ≤ 2 * j
  | [], j => by simp [pairsM]
  | x :: r, 0 => by simp [pairsM]
  | x :: r, j + 1 => by
    have h := pairs_len r j
    have e : pairsM ((x :: r).take (j + 1)) = pairM x ++ pairsM (r.take j) := by simp [pairsM]
    rw [e, List.length_append]
    have : (pairM x).length = 2 := rfl
    omega
theorem u8_small {n : Nat} (h : n < 256) : n.toUInt8.toNat = n := by simp; omega
theorem RB.two (w : World) (E : TypeId) (x y : UInt8) (z u : Int) (hz : z = (x.toNat : Int)) (hu : u = (y.toNat : Int)) : RB (w.alloc (.cells #[.int .u8 z, .int .u8 u] E)) (w.heap.size + 1) (some ⟨w.heap.size, 0, none⟩) [x, y] := by
  subst hz hu
  refine .inr ⟨_, _, rfl, by omega, fun i hi => ?_⟩
  have h2 : i = 0 ∨ i = 1 := by simp at hi; omega
  rcases h2 with rfl | rfl <;> simp [bt]
def GrpAns (o : Option Tx) (w : World) (e : Ending) (w' : World) : Prop := Below w.heap.size w w' ∧ match o with
  | none => e = .returned (.tuple #[.slice none 0 0, .bool false])
  | some b => ∃ v, e = .returned (.tuple #[v, .bool true]) ∧ OwnB w' w.heap.size 5 v b
set_option maxRecDepth 4000 in
set_option maxHeartbeats 4000000 in
theorem groups_walk (l : Tx) (w : World) (T : TabC w) (hs : l.length ≤ 1073741824) :
    Calls Tryz.prog 112 #[.string (bs l)] w (GrpAns (groupsM l) w) := by
  cases l with
  | nil =>
    have PO : Hid (GrpAns (groupsM []) w (.returned (.tuple #[.slice none 0 0, .bool true])) w) := Lib.hid ⟨Below.refl _ _, _, rfl, OwnB.nil _ _ _⟩
    have he : (bs ([] : Tx)).toList = [] := bs_nil []
    generalize GrpAns (groupsM []) w = Post at *
    clear T hs
    go_enter Tryz.func112, Tryz.ntmps112
    go_wp2_with fail
    exact PO.out
  | cons a0 r0 =>
    have hne0 : (bs (a0 :: r0)).toList.isEmpty = false := by rw [bs_nil]; rfl
    have hF : groupsM (a0 :: r0) = if (cutC 58 (a0 :: r0)).all groupB = true then some (pairsM (cutC 58 (a0 :: r0))) else none := by
      unfold groupsM
      rw [if_neg (List.cons_ne_nil _ _)]
    generalize a0 :: r0 = l at *
    obtain ⟨m, hm⟩ := T.ml
    have KS := Lib.hid (splC_walk 58 l m w hm hs)
    have hp : bs [58] = ⟨#[58]⟩ := rfl
    rw [hp] at KS
    have hP := Lib.hid (fun x hx => Nat.le_trans (cutC_part_le 58 l x hx) hs)
    have hln : (cutC 58 l).length ≤ 1073741825 := by have := cutC_len_le 58 l; omega
    have POF : Hid (groupsM l = none → ∀ w', Below w.heap.size w w' → GrpAns (groupsM l) w (.returned (.tuple #[.slice none 0 0, .bool false])) w') := Lib.hid fun h w' hb => by
      unfold GrpAns
      rw [h]
      exact ⟨hb, rfl⟩
    have POT : Hid (∀ b, groupsM l = some b → ∀ w' v, Below w.heap.size w w' → OwnB w' w.heap.size 5 v b → GrpAns (groupsM l) w (.returned (.tuple #[v, .bool true])) w') := Lib.hid fun b h w' v hb ho => by
      unfold GrpAns
      rw [h]
      exact ⟨hb, v, rfl, ho⟩
    have KT := Lib.hid (fun x (hx : x.length ≤ 1073741824) W => trim_walk x hexS (by unfold maxLen; omega) (by decide) (by decide) W)
    have hl : bs hexS = ⟨#[48, 49, 50, 51, 52, 53, 54, 55, 56, 57, 97, 98, 99, 100, 101, 102, 65, 66, 67, 68, 69, 70]⟩ := rfl
    rw [hl] at KT
    have HNE : Hid (0 ≠ (cutC 58 l).length) := Lib.hid (by
      obtain ⟨h, tl, e⟩ := cutC_some 58 l
      rw [e]
      exact (Nat.succ_ne_zero _).symm)
    generalize GrpAns (groupsM l) w = Post at *
    generalize groupsM l = F at *
    generalize cutC 58 l = L at *
    have HF := Lib.hid hF
    clear hF hp hl hm T
    go_enter Tryz.func112, Tryz.ntmps112
    go_wp2_with fail
    refine KS.out.mono ?_
    rintro e w2 ⟨hb2, rfl, own2⟩
    have HW2 := Lib.hid hb2
    have RSH := Lib.hid own2.rs
    have HZ2 := Lib.hid (OwnB.nil w2 w2.heap.size 5)
    have hgt : w.heap.size < w2.heap.size := by
      rcases own2.rs with h | ⟨b, off, hA, hB, -⟩
      · have h5 := congrArg List.length h
        rw [List.length_map] at h5
        exact absurd h5.symm HNE.out
      · injection hA with hA
        injection hA with h1 h2
        omega
    clear hb2 own2 KS
    go_wp2_with fail
    go_loopg [4, 6, 7, 8, 14] L.length (fun k s4 s6 s7 s8 i wr => ∃ j : Nat, i = .int .i64 (j : Int) ∧ j + k = L.length ∧ Hid (∀ (n : Nat) (x : Tx), n < j → L[n]? = some x → groupB x = true) ∧ Hid (Below w2.heap.size w2 wr) ∧ Hid (OwnB wr w2.heap.size 5 s4 (pairsM (L.take j))))
    case atStart => exact ⟨0, rfl, by omega, Lib.hid (fun n x h => absurd h (by omega)), Lib.hid (Below.refl _ _), HZ2⟩
    case round =>
      obtain ⟨j, rfl, hj, HA, HW3, HO3⟩ := hrel
      clear HZ2
      by_cases hlt : j < L.length
      · obtain ⟨b, off, hA, hB, hcell⟩ := (RSH.out.below HW3.out).at_ (by rw [List.length_map]; exact hlt)
        obtain ⟨rfl, rfl⟩ : w.heap.size = b ∧ 0 = off := by injection hA with h; injection h with h1 h2; exact ⟨h1, h2⟩
        have cj := hcell j (by rw [List.length_map]; exact hlt)
        obtain ⟨x, hx⟩ : ∃ x, L[j]? = some x := ⟨_, List.getElem?_eq_getElem hlt⟩
        rw [st_map hx, Nat.zero_add] at cj
        have hxl := hP.out x (List.mem_of_getElem? hx)
        have hj1 : (j : Int) < (L.length : Int) := by omega
        have HJ := Lib.hid hj
        have HLT := Lib.hid hlt
        have HX := Lib.hid hx
        have KX := Lib.hid (KT.out x hxl)
        have hsz : ((bs x).size : Int) = (x.length : Int) := by rw [bs_size]
        clear hA hcell hx hlt hj
        have HFALSE : Hid (groupB x = false → F = none) := Lib.hid fun h => by
          rw [HF.out, if_neg]
          intro hh
          rw [all_stop HX.out h] at hh
          exact absurd hh (by decide)
        cases x with
        | nil =>
          have HR := Lib.hid (HFALSE.out rfl)
          have he : (bs ([] : Tx)).toList = [] := bs_nil []
          go_wp2_with fail
          exact POF.out HR.out _ (HW2.out.trans (HW3.out.mono HW2.out.size))
        | cons a r =>
          have hne : (bs (a :: r)).toList.isEmpty = false := by rw [bs_nil]; rfl
          have hxx : groupB (a :: r) = (decide ((a :: r).length ≤ 4) && (a :: r).all (hexS.contains ·)) := rfl
          have h1x : 1 ≤ (a :: r).length := by simp
          generalize a :: r = x at *
          by_cases h4 : x.length ≤ 4
          · have h4i : ¬ ((bs x).size : Int) > 4 := by omega
            rw [decide_eq_true h4, Bool.true_and] at hxx
            obtain ⟨O, hO⟩ : ∃ O, x.all (hexS.contains ·) = O := ⟨_, rfl⟩
            rw [hO] at hxx KX
            cases O with
            | false =>
              have HR := Lib.hid (HFALSE.out hxx)
              clear h4 hxx hO hxl
              go_wp2_with fail
              refine (KX.out _).mono ?_
              rintro e w4 ⟨t, rfl, hb4, ht⟩
              rw [← bs_nil t] at ht
              have HB4 := Lib.hid hb4
              clear hb4
              go_wp2_with fail
              exact POF.out HR.out _ (HW2.out.trans ((HW3.out.trans (HB4.out.mono HW3.out.size)).mono HW2.out.size))
            | true =>
              have HG := Lib.hid hxx
              have KP := Lib.hid (parseU16 x h1x h4 (hexS_is hO))
              have hv : hxV 0 x < 65536 := by
                have h := hxV_lt x 0 0 (hexS_is hO) (by decide)
                have h2 : 16 ^ (0 + x.length) ≤ 16 ^ 4 := Nat.pow_le_pow_right (by decide) (by omega)
                omega
              have hpm : pairM x = [(hxV 0 x / 256).toUInt8, (hxV 0 x % 256).toUInt8] := rfl
              have HPT : Hid (pairsM (L.take (j + 1)) = pairsM (L.take j) ++ pairM x) := Lib.hid (by
                unfold pairsM
                rw [List.take_add_one, HX.out]
                simp)
              have HPL : Hid ((pairsM (L.take j)).length ≤ 2 * j) := Lib.hid (pairs_len L j)
              clear h4 hxx hO hxl h1x
              obtain ⟨vi, hvi⟩ : ∃ vi : Int, (hxV 0 x : Int) = vi := ⟨_, rfl⟩
              rw [hvi] at KP
              have hv0 : 0 ≤ vi := by omega
              have hv6 : vi < 65536 := by omega
              have HZ1 : Hid (vi / 256 = ((hxV 0 x / 256).toUInt8.toNat : Int)) := Lib.hid (by
                have : (hxV 0 x / 256).toUInt8.toNat = hxV 0 x / 256 := u8_small (by omega)
                omega)
              have HZ2 : Hid (vi % 256 = ((hxV 0 x % 256).toUInt8.toNat : Int)) := Lib.hid (by
                have : (hxV 0 x % 256).toUInt8.toNat = hxV 0 x % 256 := u8_small (by omega)
                omega)
              clear hvi hv hpm
              go_wp2_with fail
              refine (KX.out _).mono ?_
              rintro e w4 ⟨t, rfl, hb4, ht⟩
              rw [← bs_nil t] at ht
              have ht2 : (bs t).toList = [] := List.isEmpty_iff.1 ht
              have HB4 := Lib.hid (HW3.out.trans (hb4.mono HW3.out.size))
              have HO4 := Lib.hid (HO3.out.below hb4)
              clear hb4 HW3 HO3
              go_wp2_with fail
              refine (KP.out _).mono ?_
              rintro e w5 ⟨hb5, rfl⟩
              have HB5 := Lib.hid (HB4.out.trans (hb5.mono HB4.out.size))
              have HO5 := Lib.hid (HO4.out.below hb5)
              clear hb5 HB4 HO4
              have HPL2 : Hid ((pairsM (L.take j)).length ≤ 3000000000) := Lib.hid (by have := HPL.out; have := HLT.out; omega)
              go_wp2_with (at_builtin; go_loud (refine wpList_appB _ u8c _ _ rfl rfl w2.heap.size rfl (HO5.out.alloc _) (k := pairM x) _ _ rfl rfl (RB.two _ _ _ _ _ _ HZ1.out HZ2.out) (by have := HPL2.out; simp only [pairM, List.length_cons, List.length_nil]; omega) (by have := HB5.out.size; simp only [World.size_alloc]; omega) ?_); intro v6 w6 ho6 hb6)
              rw [← HPT.out] at ho6
              have HB6 := Lib.hid ((HB5.out.alloc HB5.out.size _).trans hb6)
              have HO6 := Lib.hid ho6
              clear hb6 ho6 HB5 HO5
              go_roundg (gk - 1)
              case rel => exact ⟨j + 1, by go_num, by have := HJ.out; have := HLT.out; omega, Lib.hid (fun i d hi hd => by
                by_cases hin : i < j
                · exact HA.out i d hin hd
                · obtain rfl : i = j := by omega
                  rw [HX.out] at hd
                  obtain rfl := Option.some.inj hd
                  exact HG.out), HB6, HO6⟩
              case measure => have := HJ.out; have := HLT.out; omega
          · have h4i : ((bs x).size : Int) > 4 := by omega
            have HR := Lib.hid (HFALSE.out (by rw [hxx, decide_eq_false h4]; rfl))
            go_wp2_with fail
            exact POF.out HR.out _ (HW2.out.trans (HW3.out.mono HW2.out.size))
      · have hj1 : ¬ (j : Int) < (L.length : Int) := by omega
        obtain rfl : j = L.length := by omega
        have HR : Hid (F = some (pairsM L)) := Lib.hid (by rw [HF.out, if_pos (all_all HA.out)])
        rw [List.take_of_length_le (Nat.le_refl _)] at HO3
        go_wp2_with fail
        exact POT.out _ HR.out _ _ (HW2.out.trans (HW3.out.mono HW2.out.size)) (HO3.out.mono HW2.out.size)
end Go.Proofs.YtjnjnccfojfghaaGreatDoor
