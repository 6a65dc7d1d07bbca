/-
  The walks of reply.Print, waybillref14.digits, waybillref14.Print. No condition but the sizes that the form gives, and what the table of powers of ten holds.
-/
import Derived.Test.YteicojighhhgjaaDoorRight
import Derived.Test.YteicojighhhgjaaDoorShelf
import Derived.Test.YteicojighhhgjaaDoorApp
import Derived.Lib.BufferOld
import Derived.Lib.AppendIntMem
import Derived.Lib.LaidTab
namespace Go.Proofs.YteicojighhhgjaaDoor
open Go.RowKit Go.Sort
set_option linter.unusedVariables false

theorem isU8 : U8 Tryd.prog 27 5 := ⟨Tryd.underlying27, Tryd.underlying5, info_parts (by kernel_rfl)⟩
/-- the table of powers of ten, as it is laid -/
def Pow10 (w : World) : Prop := Lib.TabBelow Tryd.prog w.heap.size w "internal/strconv.uint64pow10" .u64 Lib.pow10Tab
theorem Pow10.keep {w w' : World} (h : Pow10 w) (hb : Below w.heap.size w w') : Pow10 w' := fun x hx => h x (hb.trans (hx.mono hb.size))

/-- the bytes of lines behind the digits d -/
def prt (d : List UInt8) : List ByteArray → List UInt8
  | [] => []
  | s :: r => d ++ ((if r.isEmpty then 32 else 45) :: (s.data.toList ++ (13 :: 10 :: prt d r)))
/-- a code's digits -/
def dig3 (c : Int) : List UInt8 := [UInt8.ofNat (48 + c / 100).toNat, UInt8.ofNat (48 + c / 10 % 10).toNat, UInt8.ofNat (48 + c % 10).toNat]
theorem itoa_dig3 {c : Int} (h : codeOk c = true) : Lib.itoa c = dig3 c := by
  unfold codeOk at h
  rw [decide_eq_true_eq] at h
  unfold Lib.itoa
  rw [if_neg (by omega), Lib.decDigits, dif_neg (by omega), Lib.decDigits_two (by omega) (by omega)]
  unfold dig3
  rw [List.cons_append, List.cons_append, List.nil_append]
  have e1 : 48 + c.toNat / 10 / 10 = (48 + c / 100).toNat := by omega
  have e2 : 48 + c.toNat / 10 % 10 = (48 + c / 10 % 10).toNat := by omega
  have e3 : 48 + c.toNat % 10 = (48 + c % 10).toNat := by omega
  rw [e1, e2, e3]
theorem dig3_len (c : Int) : (dig3 c).length = 3 := rfl
theorem prt_len (d : List UInt8) (hd : d.length = 3) (L : List ByteArray) (h : L.all lineOk = true) : (prt d L).length ≤ 512 * L.length := by
  induction L with
  | nil => simp [prt]
  | cons s r ih =>
    rw [List.all_cons, Bool.and_eq_true] at h
    have h1 := ih h.2
    have h2 := h.1
    unfold lineOk textOk at h2
    rw [Bool.and_eq_true, decide_eq_true_eq] at h2
    simp only [prt, List.length_append, List.length_cons]
    omega
/-- what 'Print' answers -/
def prtB (c : Int) (L : List ByteArray) : List UInt8 := if rightOk c L = true then prt (dig3 c) L else []
def prtE (c : Int) (L : List ByteArray) : Int := if rightOk c L = true then 0 else 141
theorem rightOk_parts {c : Int} {L : List ByteArray} (h : rightOk c L = true) : L.all lineOk = true ∧ codeOk c = true ∧ 1 ≤ L.length ∧ L.length ≤ 50 := by
  unfold rightOk at h
  simpa only [Bool.and_eq_true, decide_eq_true_eq] using h
theorem line_len {s : ByteArray} {L : List ByteArray} (h : L.all lineOk = true) (hs : s ∈ L) : s.data.toList.length ≤ 506 := by
  have h2 := (List.all_eq_true.1 h) s hs
  unfold lineOk textOk at h2
  rw [Bool.and_eq_true, decide_eq_true_eq] at h2
  exact h2.2
theorem bytes_one (l : List UInt8) : ∀ v ∈ Lib.byteCells l, v.oneCell' = true := by
  intro u hu
  simp only [Lib.byteCells, List.mem_map] at hu
  obtain ⟨b, _, rfl⟩ := hu
  rfl
theorem bc_len (l : List UInt8) : (Lib.byteCells l).length = l.length := by simp [Lib.byteCells]
theorem bc_snoc (l : List UInt8) (x : Int) (u : UInt8) (h : x = (u.toNat : Int)) : Lib.byteCells l ++ [.int .u8 x] = Lib.byteCells (l ++ [u]) := by subst h; simp [Lib.byteCells]
theorem itoa_any (n : Int) (w : World) (h0 : -9223372036854775808 ≤ n) (h1 : n ≤ 9223372036854775807) (T : Pow10 w) :
    Calls Tryd.prog 26 #[.int .i64 n] w fun e w' => Below w.heap.size w w' ∧ e = .returned (.string ⟨(Lib.itoa n).toArray⟩) := by
  refine (Tryd.strconv_Itoa n h0 h1 w (T w (Below.refl _ _))).mono ?_
  rintro e w' ⟨rfl, k, os, rfl⟩
  exact ⟨Lib.below_grow _ _ (Nat.le_refl _) _ _, rfl⟩

set_option maxHeartbeats 2000000 in
theorem print_walk (c : Int) (A : Option Addr) (L : List ByteArray) (cp : Nat) (w : World) (h : RS w w.heap.size A L) (hl : L.length ≤ maxLen) (hs : ∀ s ∈ L, s.size ≤ maxLen) (T : Pow10 w) :
    Calls Tryd.prog 12 #[.agg #[.int .i64 c, .slice A L.length cp]] w fun e w' => Below w.heap.size w w' ∧
      ∃ v, e = .returned (.tuple #[v, .int .i64 (prtE c L)]) ∧ OwnB w' w.heap.size 5 v (prtB c L) := by
  have hb0 : Below w.heap.size w (w.alloc (.cells #[.int .i64 c, .slice A L.length cp] 24)) := (Below.refl _ _).alloc (Nat.le_refl _) _
  have hR := Lib.hid (right_walk c A L cp (w.alloc (.cells #[.int .i64 c, .slice A L.length cp] 24)) ((h.below hb0).mono hb0.size) hl hs)
  cases hok : rightOk c L
  · have h2 := Lib.hid (show prtB c L = [] by unfold prtB; rw [hok]; rfl)
    have h3 := Lib.hid (show prtE c L = 141 by unfold prtE; rw [hok]; rfl)
    rw [h2.out, h3.out]
    rw [hok] at hR
    clear hok
    go_enter Tryd.func12, Tryd.ntmps12
    go_wp2_with (go_at_call 10; refine hR.out.mono ?_; rintro e w1 ⟨hb1, rfl⟩)
    go_ret2
    exact ⟨hb0.trans (hb1.mono hb0.size), _, rfl, OwnB.nil _ _ _⟩
  · have h2 := Lib.hid (show prtB c L = prt (dig3 c) L by unfold prtB; rw [hok]; rfl)
    have h3 := Lib.hid (show prtE c L = 0 by unfold prtE; rw [hok]; rfl)
    rw [h2.out, h3.out]
    rw [hok] at hR
    obtain ⟨hall, hco, hl1, hl50⟩ := rightOk_parts hok
    have hit := Lib.hid (itoa_dig3 hco)
    have hc0 : -9223372036854775808 ≤ c := by unfold codeOk at hco; rw [decide_eq_true_eq] at hco; omega
    have hc1 : c ≤ 9223372036854775807 := by unfold codeOk at hco; rw [decide_eq_true_eq] at hco; omega
    have hpos : (0 : Int) < (L.length : Int) := by omega
    have hsz : ∀ s ∈ L, s.data.toList.length ≤ 506 := fun s hs => line_len hall hs
    have HS := Lib.hid hsz
    have hdl := Lib.hid (dig3_len c)
    clear hok hall hco hs hsz
    obtain ⟨d, hd⟩ : ∃ d, dig3 c = d := ⟨_, rfl⟩
    rw [hd] at hit hdl h2
    rw [hd]
    have hds : (⟨d.toArray⟩ : ByteArray).size = 3 := by rw [size_len]; exact hdl.out
    have HIt := Lib.hid (fun w' (Tw : Pow10 w') => itoa_any c w' hc0 hc1 Tw)
    clear hd
    go_enter Tryd.func12, Tryd.ntmps12
    go_wp2_with fail
    refine hR.out.mono ?_
    rintro e w1 ⟨hb1, rfl⟩
    have hs1 := hb1.size
    simp only [World.size_alloc] at hs1
    have hbw1 : Below w.heap.size w w1 := hb0.trans (hb1.mono hb0.size)
    have T1 := T.keep hbw1
    have hr1 : RS w1 w.heap.size A L := h.below hbw1
    have hblk : Blk w1 w.heap.size 24 #[.int .i64 c, .slice A L.length cp] := (Blk.new w _ _).keep hb1
    have k0 : ∀ w', Below w1.heap.size w1 w' → w'.cell? ⟨w.heap.size, 0, none⟩ = some (.int .i64 c) := fun w' hb => (hblk.keep hb).cell 0
    have k1 : ∀ w', Below w1.heap.size w1 w' → w'.cell? ⟨w.heap.size, 1, none⟩ = some (.slice A L.length cp) := fun w' hb => (hblk.keep hb).cell 1
    have K0 := Lib.hid k0; have K1 := Lib.hid k1; clear k0 k1 hblk hR
    have hlw : w.heap.size < w1.heap.size := hs1
    have c1 := K1.out w1 (Below.refl _ _)
    have c2 := K1.out (w1.alloc (.cells #[.slice none 0 0, .int .i64 0, .int .i8 0] 45)) ((Below.refl _ _).alloc (Nat.le_refl _) _)
    go_wp2
    go_loopg [13] L.length (fun k i wr => Below w1.heap.size w1 wr ∧ ∃ (j : Nat) (l : List UInt8), j + k = L.length ∧ i = .int .i64 j ∧ Lib.IsBuffer 45 5 w1.heap.size w1.heap.size (Lib.byteCells l) wr ∧ l.length ≤ 512 * j ∧ Hid (l ++ prt d (L.drop j) = prt d L))
    case atStart => exact ⟨(Below.refl _ _).alloc (Nat.le_refl _) _, 0, [], by omega, rfl, Lib.fresh_isBuffer _ _ _, by simp, Lib.hid (by simp)⟩
    case round =>
      obtain ⟨hb, j, l, hj, rfl, hbuf, hll, H⟩ := hrel
      have hbs := hb.size
      by_cases hlt : j < L.length
      · obtain ⟨b, off, rfl, hB, hcell⟩ := (hr1.below (hb.mono (by omega))).at_ hlt
        have cj := hcell j hlt
        rw [drop_st hlt] at H
        have hsz := HS.out _ (st_mem hlt)
        rw [← size_len] at hsz
        have hj2 : (j : Int) < (L.length : Int) := by omega
        have c0 := K0.out wr hb
        have c1 := K1.out wr hb
        have hem : Hid ((L.drop (j + 1)).isEmpty = decide (j + 1 = L.length)) := Lib.hid (by
          rw [Bool.eq_iff_iff, List.isEmpty_iff, decide_eq_true_eq, List.drop_eq_nil_iff]; omega)
        clear hcell h
        generalize st L j = s at *
        obtain ⟨R, hR⟩ : ∃ R, L.drop (j + 1) = R := ⟨_, rfl⟩
        rw [hR] at H hem
        have HR := Lib.hid hR; clear hR
        go_wp2_with fail
        refine (HIt.out wr (T1.keep hb)).mono ?_
        rintro e w2 ⟨hb2, rfl⟩
        rw [hit.out]
        have bf2 := hbuf.old hb2
        have hh2 : Below w1.heap.size w1 w2 := hb.trans (hb2.mono hbs)
        go_wp2_with fail
        refine (Tryd.Buffer_WriteString_k w1.heap.size w1.heap.size _ ⟨d.toArray⟩ w2 bf2 hh2.size (bytes_one _) (by rw [bc_len]; omega)).mono ?_
        rintro e w3 ⟨rfl, bf3, hb3, -⟩
        have hh3 : Below w1.heap.size w1 w3 := hh2.trans (hb3.mono (Nat.le_refl _))
        have c2 := K1.out w3 hh3
        rw [← Lib.byteCells_append] at bf3
        obtain ⟨l3, hl3⟩ : ∃ l3, l ++ d = l3 := ⟨_, rfl⟩
        rw [hl3] at bf3
        have hl3n : l3.length = l.length + 3 := by rw [← hl3, List.length_append, hdl.out]
        have HL3 := Lib.hid hl3; clear hl3
        by_cases hlast : j + 1 = L.length
        · have hj3 : ¬ (j : Int) < (L.length : Int) - 1 := by omega
          go_wp2_with fail
          refine (Tryd.Buffer_WriteByte_k w1.heap.size w1.heap.size _ 32 w3 bf3 hh3.size (bytes_one _) (by rw [bc_len]; omega)).mono ?_
          rintro e w4 ⟨rfl, bf4, hb4, -⟩
          have hh4 : Below w1.heap.size w1 w4 := hh3.trans (hb4.mono (Nat.le_refl _))
          rw [bc_snoc l3 (32 : Int) 32 rfl] at bf4
          obtain ⟨l4, hl4⟩ : ∃ l4, l3 ++ [32] = l4 := ⟨_, rfl⟩
          rw [hl4] at bf4
          have hl4n : l4.length = l.length + 4 := by rw [← hl4, List.length_append, hl3n]; rfl
          have HL4 := Lib.hid hl4; clear hl4
          go_wp2_with fail
          refine (Tryd.Buffer_WriteString_k w1.heap.size w1.heap.size _ s w4 bf4 hh4.size (bytes_one _) (by rw [bc_len]; omega)).mono ?_
          rintro e w5 ⟨rfl, bf5, hb5, -⟩
          have hh5 : Below w1.heap.size w1 w5 := hh4.trans (hb5.mono (Nat.le_refl _))
          rw [← Lib.byteCells_append] at bf5
          obtain ⟨l5, hl5⟩ : ∃ l5, l4 ++ s.data.toList = l5 := ⟨_, rfl⟩
          rw [hl5] at bf5
          have hl5n : l5.length = l.length + 4 + s.size := by rw [← hl5, List.length_append, hl4n, size_len]
          have HL5 := Lib.hid hl5; clear hl5
          go_wp2_with fail
          refine (Tryd.Buffer_WriteString_k w1.heap.size w1.heap.size _ ⟨#[13, 10]⟩ w5 bf5 hh5.size (bytes_one _) (by rw [bc_len, size_len]; simp; omega)).mono ?_
          rintro e w6 ⟨rfl, bf6, hb6, -⟩
          have hh6 : Below w1.heap.size w1 w6 := hh5.trans (hb6.mono (Nat.le_refl _))
          rw [← Lib.byteCells_append] at bf6
          go_wp2
          go_roundg (gk - 1)
          case rel =>
            refine ⟨hh6, j + 1, l5 ++ [13, 10], by omega, by go_num, bf6, by rw [List.length_append, hl5n]; simp; omega, Lib.hid ?_⟩
            rw [HR.out, ← H.out]
            simp only [prt]
            rw [hem.out, decide_eq_true hlast, ← HL5.out, ← HL4.out, ← HL3.out]
            simp
          case measure => omega
        · have hj3 : (j : Int) < (L.length : Int) - 1 := by omega
          go_wp2_with fail
          refine (Tryd.Buffer_WriteByte_k w1.heap.size w1.heap.size _ 45 w3 bf3 hh3.size (bytes_one _) (by rw [bc_len]; omega)).mono ?_
          rintro e w4 ⟨rfl, bf4, hb4, -⟩
          have hh4 : Below w1.heap.size w1 w4 := hh3.trans (hb4.mono (Nat.le_refl _))
          rw [bc_snoc l3 (45 : Int) 45 rfl] at bf4
          obtain ⟨l4, hl4⟩ : ∃ l4, l3 ++ [45] = l4 := ⟨_, rfl⟩
          rw [hl4] at bf4
          have hl4n : l4.length = l.length + 4 := by rw [← hl4, List.length_append, hl3n]; rfl
          have HL4 := Lib.hid hl4; clear hl4
          go_wp2_with fail
          refine (Tryd.Buffer_WriteString_k w1.heap.size w1.heap.size _ s w4 bf4 hh4.size (bytes_one _) (by rw [bc_len]; omega)).mono ?_
          rintro e w5 ⟨rfl, bf5, hb5, -⟩
          have hh5 : Below w1.heap.size w1 w5 := hh4.trans (hb5.mono (Nat.le_refl _))
          rw [← Lib.byteCells_append] at bf5
          obtain ⟨l5, hl5⟩ : ∃ l5, l4 ++ s.data.toList = l5 := ⟨_, rfl⟩
          rw [hl5] at bf5
          have hl5n : l5.length = l.length + 4 + s.size := by rw [← hl5, List.length_append, hl4n, size_len]
          have HL5 := Lib.hid hl5; clear hl5
          go_wp2_with fail
          refine (Tryd.Buffer_WriteString_k w1.heap.size w1.heap.size _ ⟨#[13, 10]⟩ w5 bf5 hh5.size (bytes_one _) (by rw [bc_len, size_len]; simp; omega)).mono ?_
          rintro e w6 ⟨rfl, bf6, hb6, -⟩
          have hh6 : Below w1.heap.size w1 w6 := hh5.trans (hb6.mono (Nat.le_refl _))
          rw [← Lib.byteCells_append] at bf6
          go_wp2
          go_roundg (gk - 1)
          case rel =>
            refine ⟨hh6, j + 1, l5 ++ [13, 10], by omega, by go_num, bf6, by rw [List.length_append, hl5n]; simp; omega, Lib.hid ?_⟩
            rw [HR.out, ← H.out]
            simp only [prt]
            rw [hem.out, decide_eq_false hlast, ← HL5.out, ← HL4.out, ← HL3.out]
            simp
          case measure => omega
      · have hj2 : (L.length : Int) ≤ (j : Int) := by omega
        rw [List.drop_eq_nil_of_le (by omega)] at H
        go_wp2_with fail
        refine (Tryd.Buffer_Bytes w1.heap.size w1.heap.size _ wr hbuf).mono ?_
        rintro e w2 ⟨v, rfl, hown, n, rfl⟩
        rw [bc_len] at hown
        go_wp2
        go_ret2
        refine ⟨hbw1.trans ((bdrewN hb n).mono (by omega)), v, rfl, ?_⟩
        rw [show prt d L = l by rw [← H.out]; simp [prt]]
        exact (OwnB.of hown).mono (by omega)

theorem digits_walk (c : Int) (w : World) (hco : codeOk c = true) :
    Calls Tryd.prog 29 #[.int .i64 c] w fun e w' => Below w.heap.size w w' ∧ e = .returned (.string ⟨(dig3 c).toArray⟩) := by
  have hc : 200 ≤ c ∧ c ≤ 599 := by unfold codeOk at hco; rw [decide_eq_true_eq] at hco; omega
  obtain ⟨h0, h1⟩ := hc
  have e : strOfNums [48 + c / 100, 48 + c / 10 % 10, 48 + c % 10] = ⟨(dig3 c).toArray⟩ := rfl
  rw [← e]
  have hcv : ∀ (W : World) (x y z : Int), (convert 27 9 (.slice (some ⟨W.heap.size, 0, none⟩) 3 3)).run Tryd.prog (W.alloc (.cells #[.int .u8 x, .int .u8 y, .int .u8 z] 5)) = .ok (.string (strOfNums [x, y, z])) (W.alloc (.cells #[.int .u8 x, .int .u8 y, .int .u8 z] 5)) := by
    intro W x y z
    refine run_convert_bytes_arg _ 27 5 Tryd.underlying27 Tryd.underlying5 _ _ 3 3 [x, y, z] rfl ?_ 9 Tryd.underlying9
    intro i hi
    rcases (by omega : i = 0 ∨ i = 1 ∨ i = 2) with rfl | rfl | rfl <;> simp
  obtain ⟨q1, hq1⟩ : ∃ q, c / 100 = q := ⟨_, rfl⟩
  obtain ⟨q2, hq2⟩ : ∃ q, c / 10 = q := ⟨_, rfl⟩
  go_enter Tryd.func29, Tryd.ntmps29
  go_wp2
  go_ret
  refine ⟨(Below.refl _ _).alloc (Nat.le_refl _) _, ?_⟩
  subst hq1 hq2
  rfl

set_option maxHeartbeats 2000000 in
theorem rprint_walk (c : Int) (A : Option Addr) (L : List ByteArray) (cp : Nat) (w : World) (h : RS w w.heap.size A L) (hl : L.length ≤ maxLen) (hs : ∀ s ∈ L, s.size ≤ maxLen) :
    Calls Tryd.prog 13 #[.agg #[.int .i64 c, .slice A L.length cp]] w fun e w' => Below w.heap.size w w' ∧
      ∃ v, e = .returned (.tuple #[v, .int .i64 (prtE c L)]) ∧ OwnB w' w.heap.size 5 v (prtB c L) := by
  have hb0 : Below w.heap.size w (w.alloc (.cells #[.int .i64 c, .slice A L.length cp] 24)) := (Below.refl _ _).alloc (Nat.le_refl _) _
  have hR := Lib.hid (rright_walk c A L cp (w.alloc (.cells #[.int .i64 c, .slice A L.length cp] 24)) ((h.below hb0).mono hb0.size) hl hs)
  cases hok : rightOk c L
  · have h2 := Lib.hid (show prtB c L = [] by unfold prtB; rw [hok]; rfl)
    have h3 := Lib.hid (show prtE c L = 141 by unfold prtE; rw [hok]; rfl)
    rw [h2.out, h3.out]
    rw [hok] at hR
    clear hok
    go_enter Tryd.func13, Tryd.ntmps13
    go_wp2_with (go_at_call 11; refine hR.out.mono ?_; rintro e w1 ⟨hb1, rfl⟩)
    go_ret2
    exact ⟨hb0.trans (hb1.mono hb0.size), _, rfl, OwnB.nil _ _ _⟩
  · have h2 := Lib.hid (show prtB c L = prt (dig3 c) L by unfold prtB; rw [hok]; rfl)
    have h3 := Lib.hid (show prtE c L = 0 by unfold prtE; rw [hok]; rfl)
    rw [h2.out, h3.out]
    rw [hok] at hR
    obtain ⟨hall, hco, hl1, hl50⟩ := rightOk_parts hok
    have hpos : (0 : Int) < (L.length : Int) := by omega
    have hsz : ∀ s ∈ L, s.data.toList.length ≤ 506 := fun s hs => line_len hall hs
    have HS := Lib.hid hsz
    have hdl := Lib.hid (dig3_len c)
    have HDg := Lib.hid (fun w' => digits_walk c w' hco)
    clear hok hall hco hs hsz
    obtain ⟨d, hd⟩ : ∃ d, dig3 c = d := ⟨_, rfl⟩
    rw [hd] at hdl h2 HDg
    rw [hd]
    have hds : (⟨d.toArray⟩ : ByteArray).size = 3 := by rw [size_len]; exact hdl.out
    clear hd
    go_enter Tryd.func13, Tryd.ntmps13
    go_wp2_with fail
    refine hR.out.mono ?_
    rintro e w1 ⟨hb1, rfl⟩
    have hs1 := hb1.size
    simp only [World.size_alloc] at hs1
    have hlw : w.heap.size < w1.heap.size := hs1
    have hblk1 : Blk w1 w.heap.size 24 #[.int .i64 c, .slice A L.length cp] := (Blk.new w _ _).keep hb1
    have c0 : w1.cell? ⟨w.heap.size, 0, none⟩ = some (.int .i64 c) := hblk1.cell 0
    have hbw1 : Below w.heap.size w w1 := hb0.trans (hb1.mono hb0.size)
    go_wp2_with fail
    refine (HDg.out w1).mono ?_
    rintro e w2 ⟨hb2, rfl⟩
    have hbw2 : Below w.heap.size w w2 := hbw1.trans (hb2.mono hbw1.size)
    have hs2 := hb2.size
    have hblk : Blk w2 w.heap.size 24 #[.int .i64 c, .slice A L.length cp] := hblk1.keep hb2
    have k1 : ∀ w', Below (w.heap.size + 1) w2 w' → w'.cell? ⟨w.heap.size, 1, none⟩ = some (.slice A L.length cp) := fun w' hb => (hblk.below hb (Nat.lt_succ_self _)).cell 1
    have K1 := Lib.hid k1; clear k1 hblk hblk1 hR c0
    have hr2 : RS w2 w.heap.size A L := h.below hbw2
    have c1 := K1.out w2 (Below.refl _ _)
    go_wp2
    go_loopg [7, 5] L.length (fun k i o wr => Below (w.heap.size + 1) w2 wr ∧ ∃ (j : Nat) (l : List UInt8), j + k = L.length ∧ i = .int .i64 j ∧ OwnB wr (w.heap.size + 1) 5 o l ∧ l.length ≤ 512 * j ∧ Hid (l ++ prt d (L.drop j) = prt d L))
    case atStart => exact ⟨Below.refl _ _, 0, [], by omega, rfl, OwnB.nil _ _ _, by simp, Lib.hid (by simp)⟩
    case round =>
      obtain ⟨hb, j, l, hj, rfl, hown, hll, H⟩ := hrel
      have hbs := hb.size
      have hbw : w.heap.size + 1 ≤ wr.heap.size := by omega
      have c1 := K1.out wr hb
      by_cases hlt : j < L.length
      · obtain ⟨b, off, rfl, hB, hcell⟩ := (hr2.below (hb.mono (by omega))).at_ hlt
        have cj := hcell j hlt
        rw [drop_st hlt] at H
        have hsz := HS.out _ (st_mem hlt)
        rw [← size_len] at hsz
        have hj2 : (j : Int) < (L.length : Int) := by omega
        have hem : Hid ((L.drop (j + 1)).isEmpty = decide (j + 1 = L.length)) := Lib.hid (by
          rw [Bool.eq_iff_iff, List.isEmpty_iff, decide_eq_true_eq, List.drop_eq_nil_iff]; omega)
        clear hcell h
        generalize st L j = s at *
        obtain ⟨R, hR⟩ : ∃ R, L.drop (j + 1) = R := ⟨_, rfl⟩
        rw [hR] at H hem
        have HR := Lib.hid hR; clear hR
        by_cases hlast : j + 1 = L.length
        · have hj3 : ((j : Int) == (L.length : Int) - 1) = true := beq_iff_eq.2 (by omega)
          have HLast := Lib.hid hlast; clear hlast
          have hts : ((⟨d.toArray⟩ : ByteArray) ++ ⟨#[32]⟩ ++ s ++ ⟨#[13, 10]⟩).size = s.size + 6 := by
            simp only [ByteArray.size_append, hds, show (⟨#[32]⟩ : ByteArray).size = 1 from rfl, show (⟨#[13, 10]⟩ : ByteArray).size = 2 from rfl]
            omega
          have HSz := Lib.hid (show l.length + ((⟨d.toArray⟩ : ByteArray) ++ ⟨#[32]⟩ ++ s ++ ⟨#[13, 10]⟩).size ≤ 140737488355328 by omega)
          have Hts := Lib.hid hts; clear hts
          have HBW := Lib.hid hbw
          go_wp2_with (at_builtin; refine wpList_appS _ isU8 Tryd.underlying9 _ _ rfl rfl (w.heap.size + 1) rfl hown _ rfl HSz.out HBW.out ?_; intro v2 w3 ho3 hb3)
          go_roundg (gk - 1)
          case rel =>
            refine ⟨hb.trans hb3, j + 1, _, by omega, by go_num, ho3, ?_, Lib.hid ?_⟩
            · rw [List.length_append, ← size_len, Hts.out]
              omega
            · rw [HR.out, ← H.out]
              simp only [prt]
              rw [hem.out, decide_eq_true HLast.out]
              simp [app_list]
          case measure => omega
        · have hj3 : ((j : Int) == (L.length : Int) - 1) = false := beq_eq_false_iff_ne.2 (by omega)
          have HLast := Lib.hid hlast; clear hlast
          have hts : ((⟨d.toArray⟩ : ByteArray) ++ ⟨#[45]⟩ ++ s ++ ⟨#[13, 10]⟩).size = s.size + 6 := by
            simp only [ByteArray.size_append, hds, show (⟨#[45]⟩ : ByteArray).size = 1 from rfl, show (⟨#[13, 10]⟩ : ByteArray).size = 2 from rfl]
            omega
          have HSz := Lib.hid (show l.length + ((⟨d.toArray⟩ : ByteArray) ++ ⟨#[45]⟩ ++ s ++ ⟨#[13, 10]⟩).size ≤ 140737488355328 by omega)
          have Hts := Lib.hid hts; clear hts
          have HBW := Lib.hid hbw
          go_wp2_with (at_builtin; refine wpList_appS _ isU8 Tryd.underlying9 _ _ rfl rfl (w.heap.size + 1) rfl hown _ rfl HSz.out HBW.out ?_; intro v2 w3 ho3 hb3)
          go_roundg (gk - 1)
          case rel =>
            refine ⟨hb.trans hb3, j + 1, _, by omega, by go_num, ho3, ?_, Lib.hid ?_⟩
            · rw [List.length_append, ← size_len, Hts.out]
              omega
            · rw [HR.out, ← H.out]
              simp only [prt]
              rw [hem.out, decide_eq_false HLast.out]
              simp [app_list]
          case measure => omega
      · have hj2 : (L.length : Int) ≤ (j : Int) := by omega
        rw [List.drop_eq_nil_of_le (by omega)] at H
        go_wp2
        go_ret2
        refine ⟨hbw2.trans (hb.mono (by omega)), _, rfl, ?_⟩
        rw [show prt d L = l by rw [← H.out]; simp [prt]]
        exact hown.mono (by omega)
end Go.Proofs.YteicojighhhgjaaDoor
