/-
  Several texts in one: Right, Print, More, Ln, Line. Conditions: each part names its own.
-/
import Derived.Test.YtjnjnccfojfghaaGreatDoorMg6
import Derived.Test.YtjnjnccfojfghaaGreatDoorMg1
import Derived.Test.YtjnjnccfojfghaaGreatDoorShelf
import Derived.Test.YtjnjnccfojfghaaGreatDoorShelf5
import Derived.Lib.BufferOld
import Derived.Lib.AppendIntMem
import Derived.Lib.LaidTab
import Derived.Lib.Strings
import Derived.Lib.Bytealg
import Derived.Lib.IndexLaws
import Derived.WideShapes
import Derived.Lib.ParseIntB
import Derived.Test.YtjnjnccfojfghaaGreatDoorMg4
set_option linter.unusedSimpArgs false
/-! The walks of reply.Right, waybillref14.Right. No condition but the sizes that the form gives. -/
namespace Go.Proofs.YtjnjnccfojfghaaGreatDoor
open Go.RowKit
set_option linter.unusedVariables false

def lineOk (s : ByteArray) : Bool := textOk s.data.toList
/-- may a reply be? -/
def rightOk (c : Int) (L : List ByteArray) : Bool := L.all lineOk && (codeOk c && (decide (1 ≤ L.length) && decide (L.length ≤ 50)))
theorem all_false_drop {L : List ByteArray} {j : Nat} (h : (L.drop j).all lineOk = false) : L.all lineOk = false := by
  rw [← List.take_append_drop j L, List.all_append, h, Bool.and_false]

set_option maxHeartbeats 2000000 in
theorem rright_walk (c : Int) (A : Option Addr) (L : List ByteArray) (cp : Nat) (w : World) (h : RS w w.heap.size A L) (hl : L.length ≤ maxLen) (hs : ∀ s ∈ L, s.size ≤ maxLen) :
    Calls Tryz.prog 40 #[.agg #[.int .i64 c, .slice A L.length cp]] w fun e w' => Below w.heap.size w w' ∧ e = .returned (.bool (rightOk c L)) := by
  unfold maxLen at hl
  obtain ⟨T, hT⟩ : ∃ T, rightOk c L = T := ⟨_, rfl⟩
  have HT := Lib.hid hT
  rw [hT]; clear hT
  have HS := Lib.hid hs; clear hs
  have hc := Lib.hid (rcode_walk c (w.alloc (.cells #[.int .i64 c, .slice A L.length cp] 57)))
  generalize hco : codeOk c = co at *
  have HCO := Lib.hid hco
  clear hco
  by_cases hbad : co = false ∨ L.length < 1 ∨ 50 < L.length
  · have hTf : T = false := by
      rw [← HT.out]; unfold rightOk; rw [HCO.out]
      rcases hbad with rfl | h1 | h1
      · rw [Bool.false_and, Bool.and_false]
      · rw [decide_eq_false (show ¬ 1 ≤ L.length by omega), Bool.false_and, Bool.and_false, Bool.and_false]
      · rw [decide_eq_false (show ¬ L.length ≤ 50 by omega), Bool.and_false, Bool.and_false, Bool.and_false]
    rcases hbad with rfl | h1 | h1
    · clear HCO HT
      go_enter Tryz.func40, Tryz.ntmps40
      go_wp2_with (go_at_call 42; refine hc.out.mono ?_; rintro e w2 ⟨rfl, rfl⟩)
      all_goals
        go_ret
        exact ⟨(Below.refl _ _).alloc (Nat.le_refl _) _, by rw [hTf]; rfl⟩
    all_goals
      have h1' := Lib.hid h1
      cases co
    all_goals
      first
      | have h3 : (L.length : Int) < 1 := by omega
      | have h3 : (50 : Int) < (L.length : Int) := by omega
      clear HCO HT h1
      go_enter Tryz.func40, Tryz.ntmps40
      go_wp2_with (go_at_call 42; refine hc.out.mono ?_; rintro e w2 ⟨rfl, rfl⟩)
    all_goals
      go_ret
      exact ⟨(Below.refl _ _).alloc (Nat.le_refl _) _, by rw [hTf]; rfl⟩
  · simp only [not_or, Bool.not_eq_false] at hbad
    obtain ⟨rfl, h1, h2⟩ := hbad
    have h3 : (1 : Int) ≤ (L.length : Int) := by omega
    have h4 : (L.length : Int) ≤ 50 := by omega
    have hTe : Hid (T = L.all lineOk) := Lib.hid (by
      rw [← HT.out]; unfold rightOk; rw [HCO.out, decide_eq_true (show 1 ≤ L.length by omega), decide_eq_true (show L.length ≤ 50 by omega), Bool.and_self, Bool.and_self, Bool.and_true])
    clear HCO HT h1 h2
    go_enter Tryz.func40, Tryz.ntmps40
    go_wp2_with (go_at_call 42; refine hc.out.mono ?_; rintro e w2 ⟨rfl, rfl⟩)
    clear hc
    go_loopg [4] L.length (fun k i wr => wr = w.alloc (.cells #[.int .i64 c, .slice A L.length cp] 57) ∧ ∃ (j : Nat), j + k = L.length ∧ i = .int .i64 j ∧ Hid (L.all lineOk = (L.drop j).all lineOk))
    case atStart => exact ⟨rfl, 0, by omega, rfl, Lib.hid rfl⟩
    case round =>
      obtain ⟨rfl, j, hj, rfl, H⟩ := hrel
      have hb0 : Below w.heap.size w (w.alloc (.cells #[.int .i64 c, .slice A L.length cp] 57)) := (Below.refl _ _).alloc (Nat.le_refl _) _
      by_cases hlt : j < L.length
      · obtain ⟨b, off, rfl, hB, hcell⟩ := (h.below hb0).at_ hlt
        have cj := hcell j hlt
        rw [drop_st hlt, List.all_cons] at H
        have hsz := HS.out _ (st_mem hlt)
        have hj2 : (j : Int) < (L.length : Int) := by omega
        have ht := Lib.hid (rtext_walk (st L j) (w.alloc (.cells #[.int .i64 c, .slice (some ⟨b, off, none⟩) L.length cp] 57)) hsz)
        have hln : Hid (lineOk (st L j) = textOk (st L j).data.toList) := Lib.hid rfl
        clear hcell h hsz
        generalize st L j = s at *
        generalize textOk s.data.toList = t at *
        cases t
        all_goals
          go_wp2_with (go_at_call 70; refine ht.out.mono ?_; rintro e w2 ⟨rfl, rfl⟩)
        · go_ret
          refine ⟨hb0, ?_⟩
          go_light
          rw [hTe.out, H.out, hln.out]
          rfl
        · go_roundg (gk - 1)
          case rel =>
            go_light
            rw [hln.out, Bool.true_and] at H
            exact ⟨by trivial, j + 1, by omega, by go_num, H⟩
          case measure => omega
      · rw [List.drop_eq_nil_of_le (by omega)] at H
        have hj2 : (L.length : Int) ≤ (j : Int) := by omega
        go_wp2
        go_ret
        refine ⟨hb0, ?_⟩
        rw [hTe.out, H.out]
        rfl
end Go.Proofs.YtjnjnccfojfghaaGreatDoor

/-! The walks of reply.Print, waybillref14.digits, waybillref14.Print. No condition but the sizes that the form gives, and what the table of powers of ten holds. -/
namespace Go.Proofs.YtjnjnccfojfghaaGreatDoor
open Go.RowKit Go.Sort
set_option linter.unusedVariables false

theorem isU8 : U8 Tryz.prog 25 5 := ⟨Tryz.underlying25, Tryz.underlying5, info_parts (by kernel_rfl)⟩
/-- the table of powers of ten, as it is laid -/
def Pow10 (w : World) : Prop := Lib.TabBelow Tryz.prog w.heap.size w "internal/strconv.uint64pow10" .u64 Lib.pow10Tab
theorem Pow10.keep {w w' : World} (h : Pow10 w) (hb : Below w.heap.size w w') : Pow10 w' := fun x hx => h x (hb.trans (hx.mono hb.size))

/-- the bytes of lines behind the digits d -/
def prt (d : List UInt8) : List ByteArray → List UInt8
  | [] => []
  | s :: r => d ++ ((if r.isEmpty then 32 else 45) :: (s.data.toList ++ (13 :: 10 :: prt d r)))
/-- a code's digits -/
def dig3 (c : Int) : List UInt8 := [UInt8.ofNat (48 + c / 100).toNat, UInt8.ofNat (48 + c / 10 % 10).toNat, UInt8.ofNat (48 + c % 10).toNat]
theorem itoa_dig3 {c : Int} (h : codeOk c = true) : Lib.itoa c = dig3 c := by
  unfold codeOk at h
  rw [decide_eq_true_eq] at h
  unfold Lib.itoa
  rw [if_neg (by omega), Lib.decDigits, dif_neg (by omega), Lib.decDigits_two (by omega) (by omega)]
  unfold dig3
  rw [List.cons_append, List.cons_append, List.nil_append]
  have e1 : 48 + c.toNat / 10 / 10 = (48 + c / 100).toNat := by omega
  have e2 : 48 + c.toNat / 10 % 10 = (48 + c / 10 % 10).toNat := by omega
  have e3 : 48 + c.toNat % 10 = (48 + c % 10).toNat := by omega
  rw [e1, e2, e3]
theorem dig3_len (c : Int) : (dig3 c).length = 3 := rfl
theorem prt_len (d : List UInt8) (hd : d.length = 3) (L : List ByteArray) (h : L.all lineOk = true) : (prt d L).length ≤ 512 * L.length := by
  induction L with
  | nil => simp [prt]
  | cons s r ih =>
    rw [List.all_cons, Bool.and_eq_true] at h
    have h1 := ih h.2
    have h2 := h.1
    unfold lineOk textOk at h2
    rw [Bool.and_eq_true, decide_eq_true_eq] at h2
    simp only [prt, List.length_append, List.length_cons]
    omega
/-- what 'Print' answers -/
def prtB (c : Int) (L : List ByteArray) : List UInt8 := if rightOk c L = true then prt (dig3 c) L else []
def prtE (c : Int) (L : List ByteArray) : Int := if rightOk c L = true then 0 else 141
theorem rightOk_parts {c : Int} {L : List ByteArray} (h : rightOk c L = true) : L.all lineOk = true ∧ codeOk c = true ∧ 1 ≤ L.length ∧ L.length ≤ 50 := by
  unfold rightOk at h
  simpa only [Bool.and_eq_true, decide_eq_true_eq] using h
theorem line_len {s : ByteArray} {L : List ByteArray} (h : L.all lineOk = true) (hs : s ∈ L) : s.data.toList.length ≤ 506 := by
  have h2 := (List.all_eq_true.1 h) s hs
  unfold lineOk textOk at h2
  rw [Bool.and_eq_true, decide_eq_true_eq] at h2
  exact h2.2
theorem bytes_one (l : List UInt8) : ∀ v ∈ Lib.byteCells l, v.oneCell' = true := by
  intro u hu
  simp only [Lib.byteCells, List.mem_map] at hu
  obtain ⟨b, _, rfl⟩ := hu
  rfl
theorem bc_len (l : List UInt8) : (Lib.byteCells l).length = l.length := by simp [Lib.byteCells]
theorem bc_snoc (l : List UInt8) (x : Int) (u : UInt8) (h : x = (u.toNat : Int)) : Lib.byteCells l ++ [.int .u8 x] = Lib.byteCells (l ++ [u]) := by subst h; simp [Lib.byteCells]
theorem itoa_any (n : Int) (w : World) (h0 : -9223372036854775808 ≤ n) (h1 : n ≤ 9223372036854775807) (T : Pow10 w) :
    Calls Tryz.prog 81 #[.int .i64 n] w fun e w' => Below w.heap.size w w' ∧ e = .returned (.string ⟨(Lib.itoa n).toArray⟩) := by
  refine (Tryz.strconv_Itoa n h0 h1 w (T w (Below.refl _ _))).mono ?_
  rintro e w' ⟨rfl, k, os, rfl⟩
  exact ⟨Lib.below_grow _ _ (Nat.le_refl _) _ _, rfl⟩

theorem digits_walk (c : Int) (w : World) (hco : codeOk c = true) :
    Calls Tryz.prog 41 #[.int .i64 c] w fun e w' => Below w.heap.size w w' ∧ e = .returned (.string ⟨(dig3 c).toArray⟩) := by
  have hc : 200 ≤ c ∧ c ≤ 599 := by unfold codeOk at hco; rw [decide_eq_true_eq] at hco; omega
  obtain ⟨h0, h1⟩ := hc
  have e : strOfNums [48 + c / 100, 48 + c / 10 % 10, 48 + c % 10] = ⟨(dig3 c).toArray⟩ := rfl
  rw [← e]
  have hcv : ∀ (W : World) (x y z : Int), (convert 25 9 (.slice (some ⟨W.heap.size, 0, none⟩) 3 3)).run Tryz.prog (W.alloc (.cells #[.int .u8 x, .int .u8 y, .int .u8 z] 5)) = .ok (.string (strOfNums [x, y, z])) (W.alloc (.cells #[.int .u8 x, .int .u8 y, .int .u8 z] 5)) := by
    intro W x y z
    refine run_convert_bytes_arg _ 25 5 Tryz.underlying25 Tryz.underlying5 _ _ 3 3 [x, y, z] rfl ?_ 9 Tryz.underlying9
    intro i hi
    rcases (by omega : i = 0 ∨ i = 1 ∨ i = 2) with rfl | rfl | rfl <;> simp
  obtain ⟨q1, hq1⟩ : ∃ q, c / 100 = q := ⟨_, rfl⟩
  obtain ⟨q2, hq2⟩ : ∃ q, c / 10 = q := ⟨_, rfl⟩
  go_enter Tryz.func41, Tryz.ntmps41
  go_wp2
  go_ret
  refine ⟨(Below.refl _ _).alloc (Nat.le_refl _) _, ?_⟩
  subst hq1 hq2
  rfl

set_option maxHeartbeats 2000000 in
theorem rprint_walk (c : Int) (A : Option Addr) (L : List ByteArray) (cp : Nat) (w : World) (h : RS w w.heap.size A L) (hl : L.length ≤ maxLen) (hs : ∀ s ∈ L, s.size ≤ maxLen) :
    Calls Tryz.prog 23 #[.agg #[.int .i64 c, .slice A L.length cp]] w fun e w' => Below w.heap.size w w' ∧
      ∃ v, e = .returned (.tuple #[v, .int .i64 (prtE c L)]) ∧ OwnB w' w.heap.size 5 v (prtB c L) := by
  have hb0 : Below w.heap.size w (w.alloc (.cells #[.int .i64 c, .slice A L.length cp] 57)) := (Below.refl _ _).alloc (Nat.le_refl _) _
  have hR := Lib.hid (rright_walk c A L cp (w.alloc (.cells #[.int .i64 c, .slice A L.length cp] 57)) ((h.below hb0).mono hb0.size) hl hs)
  cases hok : rightOk c L
  · have h2 := Lib.hid (show prtB c L = [] by unfold prtB; rw [hok]; rfl)
    have h3 := Lib.hid (show prtE c L = 141 by unfold prtE; rw [hok]; rfl)
    rw [h2.out, h3.out]
    rw [hok] at hR
    clear hok
    go_enter Tryz.func23, Tryz.ntmps23
    go_wp2_with (go_at_call 40; refine hR.out.mono ?_; rintro e w1 ⟨hb1, rfl⟩)
    go_ret2
    exact ⟨hb0.trans (hb1.mono hb0.size), _, rfl, OwnB.nil _ _ _⟩
  · have h2 := Lib.hid (show prtB c L = prt (dig3 c) L by unfold prtB; rw [hok]; rfl)
    have h3 := Lib.hid (show prtE c L = 0 by unfold prtE; rw [hok]; rfl)
    rw [h2.out, h3.out]
    rw [hok] at hR
    obtain ⟨hall, hco, hl1, hl50⟩ := rightOk_parts hok
    have hpos : (0 : Int) < (L.length : Int) := by omega
    have hsz : ∀ s ∈ L, s.data.toList.length ≤ 506 := fun s hs => line_len hall hs
    have HS := Lib.hid hsz
    have hdl := Lib.hid (dig3_len c)
    have HDg := Lib.hid (fun w' => digits_walk c w' hco)
    clear hok hall hco hs hsz
    obtain ⟨d, hd⟩ : ∃ d, dig3 c = d := ⟨_, rfl⟩
    rw [hd] at hdl h2 HDg
    rw [hd]
    have hds : (⟨d.toArray⟩ : ByteArray).size = 3 := by rw [size_len]; exact hdl.out
    clear hd
    go_enter Tryz.func23, Tryz.ntmps23
    go_wp2_with fail
    refine hR.out.mono ?_
    rintro e w1 ⟨hb1, rfl⟩
    have hs1 := hb1.size
    simp only [World.size_alloc] at hs1
    have hlw : w.heap.size < w1.heap.size := hs1
    have hblk1 : Blk w1 w.heap.size 57 #[.int .i64 c, .slice A L.length cp] := (Blk.new w _ _).keep hb1
    have c0 : w1.cell? ⟨w.heap.size, 0, none⟩ = some (.int .i64 c) := hblk1.cell 0
    have hbw1 : Below w.heap.size w w1 := hb0.trans (hb1.mono hb0.size)
    go_wp2_with fail
    refine (HDg.out w1).mono ?_
    rintro e w2 ⟨hb2, rfl⟩
    have hbw2 : Below w.heap.size w w2 := hbw1.trans (hb2.mono hbw1.size)
    have hs2 := hb2.size
    have hblk : Blk w2 w.heap.size 57 #[.int .i64 c, .slice A L.length cp] := hblk1.keep hb2
    have k1 : ∀ w', Below (w.heap.size + 1) w2 w' → w'.cell? ⟨w.heap.size, 1, none⟩ = some (.slice A L.length cp) := fun w' hb => (hblk.below hb (Nat.lt_succ_self _)).cell 1
    have K1 := Lib.hid k1; clear k1 hblk hblk1 hR c0
    have hr2 : RS w2 w.heap.size A L := h.below hbw2
    have c1 := K1.out w2 (Below.refl _ _)
    go_wp2
    go_loopg [7, 5] L.length (fun k i o wr => Below (w.heap.size + 1) w2 wr ∧ ∃ (j : Nat) (l : List UInt8), j + k = L.length ∧ i = .int .i64 j ∧ OwnB wr (w.heap.size + 1) 5 o l ∧ l.length ≤ 512 * j ∧ Hid (l ++ prt d (L.drop j) = prt d L))
    case atStart => exact ⟨Below.refl _ _, 0, [], by omega, rfl, OwnB.nil _ _ _, by simp, Lib.hid (by simp)⟩
    case round =>
      obtain ⟨hb, j, l, hj, rfl, hown, hll, H⟩ := hrel
      have hbs := hb.size
      have hbw : w.heap.size + 1 ≤ wr.heap.size := by omega
      have c1 := K1.out wr hb
      by_cases hlt : j < L.length
      · obtain ⟨b, off, rfl, hB, hcell⟩ := (hr2.below (hb.mono (by omega))).at_ hlt
        have cj := hcell j hlt
        rw [drop_st hlt] at H
        have hsz := HS.out _ (st_mem hlt)
        rw [← size_len] at hsz
        have hj2 : (j : Int) < (L.length : Int) := by omega
        have hem : Hid ((L.drop (j + 1)).isEmpty = decide (j + 1 = L.length)) := Lib.hid (by
          rw [Bool.eq_iff_iff, List.isEmpty_iff, decide_eq_true_eq, List.drop_eq_nil_iff]; omega)
        clear hcell h
        generalize st L j = s at *
        obtain ⟨R, hR⟩ : ∃ R, L.drop (j + 1) = R := ⟨_, rfl⟩
        rw [hR] at H hem
        have HR := Lib.hid hR; clear hR
        by_cases hlast : j + 1 = L.length
        · have hj3 : ((j : Int) == (L.length : Int) - 1) = true := beq_iff_eq.2 (by omega)
          have HLast := Lib.hid hlast; clear hlast
          have hts : ((⟨d.toArray⟩ : ByteArray) ++ ⟨#[32]⟩ ++ s ++ ⟨#[13, 10]⟩).size = s.size + 6 := by
            simp only [ByteArray.size_append, hds, show (⟨#[32]⟩ : ByteArray).size = 1 from rfl, show (⟨#[13, 10]⟩ : ByteArray).size = 2 from rfl]
            omega
          have HSz := Lib.hid (show l.length + ((⟨d.toArray⟩ : ByteArray) ++ ⟨#[32]⟩ ++ s ++ ⟨#[13, 10]⟩).size ≤ 140737488355328 by omega)
          have Hts := Lib.hid hts; clear hts
          have HBW := Lib.hid hbw
          go_wp2_with (at_builtin; refine wpList_appS _ isU8 Tryz.underlying9 _ _ rfl rfl (w.heap.size + 1) rfl hown _ rfl HSz.out HBW.out ?_; intro v2 w3 ho3 hb3)
          go_roundg (gk - 1)
          case rel =>
            refine ⟨hb.trans hb3, j + 1, _, by omega, by go_num, ho3, ?_, Lib.hid ?_⟩
            · rw [List.length_append, ← size_len, Hts.out]
              omega
            · rw [HR.out, ← H.out]
              simp only [prt]
              rw [hem.out, decide_eq_true HLast.out]
              simp [app_list]
          case measure => omega
        · have hj3 : ((j : Int) == (L.length : Int) - 1) = false := beq_eq_false_iff_ne.2 (by omega)
          have HLast := Lib.hid hlast; clear hlast
          have hts : ((⟨d.toArray⟩ : ByteArray) ++ ⟨#[45]⟩ ++ s ++ ⟨#[13, 10]⟩).size = s.size + 6 := by
            simp only [ByteArray.size_append, hds, show (⟨#[45]⟩ : ByteArray).size = 1 from rfl, show (⟨#[13, 10]⟩ : ByteArray).size = 2 from rfl]
            omega
          have HSz := Lib.hid (show l.length + ((⟨d.toArray⟩ : ByteArray) ++ ⟨#[45]⟩ ++ s ++ ⟨#[13, 10]⟩).size ≤ 140737488355328 by omega)
          have Hts := Lib.hid hts; clear hts
          have HBW := Lib.hid hbw
          go_wp2_with (at_builtin; refine wpList_appS _ isU8 Tryz.underlying9 _ _ rfl rfl (w.heap.size + 1) rfl hown _ rfl HSz.out HBW.out ?_; intro v2 w3 ho3 hb3)
          go_roundg (gk - 1)
          case rel =>
            refine ⟨hb.trans hb3, j + 1, _, by omega, by go_num, ho3, ?_, Lib.hid ?_⟩
            · rw [List.length_append, ← size_len, Hts.out]
              omega
            · rw [HR.out, ← H.out]
              simp only [prt]
              rw [hem.out, decide_eq_false HLast.out]
              simp [app_list]
          case measure => omega
      · have hj2 : (L.length : Int) ≤ (j : Int) := by omega
        rw [List.drop_eq_nil_of_le (by omega)] at H
        go_wp2
        go_ret2
        refine ⟨hbw2.trans (hb.mono (by omega)), _, rfl, ?_⟩
        rw [show prt d L = l by rw [← H.out]; simp [prt]]
        exact hown.mono (by omega)
end Go.Proofs.YtjnjnccfojfghaaGreatDoor

/-! More words: the beginning of a slice; over any program. No condition. -/
namespace Go.Proofs.YtjnjnccfojfghaaGreatDoor
set_option linter.unusedVariables false
theorem RB.take {w : World} {B : Nat} {A : Option Addr} {l : List UInt8} (h : RB w B A l) (k : Nat) : RB w B A (l.take k) := by
  rcases h with rfl | ⟨b, off, rfl, hb, hc⟩
  · exact .inl (by simp)
  · refine .inr ⟨b, off, rfl, hb, fun i hi => ?_⟩
    rw [List.length_take] at hi
    rw [hc i (by omega)]
    unfold bt
    rw [List.getD_eq_getElem?_getD, List.getD_eq_getElem?_getD, List.getElem?_take_of_lt (by omega)]
theorem RB.some_ {w : World} {B : Nat} {A : Option Addr} {l : List UInt8} (h : RB w B A l) (hl : 0 < l.length) : ∃ b off, A = some ⟨b, off, none⟩ := by
  obtain ⟨b, off, e, _⟩ := h.at_ hl
  exact ⟨b, off, e⟩
theorem arr_ne {a b : List UInt8} (h : ¬ a = b) : ¬ (⟨a.toArray⟩ : ByteArray) = ⟨b.toArray⟩ := by
  intro e
  apply h
  have := congrArg (fun x : ByteArray => x.data.toList) e
  simpa using this
/-- a return of four results -/
theorem results_t4 {fn : Func} {t u v x : Tmp} (h : fn.results = #[.tmp t, .tmp u, .tmp v, .tmp x]) (tmps : Array Value) (P : Program) (w : World) :
    (results fn tmps).run P w = .ok (.tuple #[tmps.getD t undef, tmps.getD u undef, tmps.getD v undef, tmps.getD x undef]) w := by
  simp [results, h]
end Go.Proofs.YtjnjnccfojfghaaGreatDoor

/-! What a line of a reply is, and what reading a reply's bytes answers, in plain words. No condition. -/
namespace Go.Proofs.YtjnjnccfojfghaaGreatDoor
open Go.RowKit
set_option linter.unusedVariables false

def isDig (x : Int) : Bool := decide (48 ≤ x ∧ x ≤ 57)
def code3 (m : List UInt8) : Int := (bt m 0 - 48) * 100 + (bt m 1 - 48) * 10 + (bt m 2 - 48)
def digs3 (m : List UInt8) : Bool := isDig (bt m 0) && (isDig (bt m 1) && isDig (bt m 2))
/-- may a line's body be? -/
def bodyOk (m : List UInt8) : Bool := decide (3 ≤ m.length) && (digs3 m && (codeOk (code3 m) && (decide (m.length = 3) || (decide (bt m 3 = 45 ∨ bt m 3 = 32) && textOk (m.drop 4)))))
def bodyL (l : List UInt8) : List UInt8 := l.take (l.length - 2)
def crlfR (l : List UInt8) : Bool := Lib.hasSuffix l [13, 10]
/-- is it a line? its code, its text, does another one follow? -/
def lOk (l : List UInt8) : Bool := crlfR l && bodyOk (bodyL l)
def lN (l : List UInt8) : Int := code3 (bodyL l)
def lT (l : List UInt8) : List UInt8 := (bodyL l).drop 4
def lM (l : List UInt8) : Bool := decide (bt (bodyL l) 3 = 45)

theorem code3_rng {m : List UInt8} (h : digs3 m = true) : 0 ≤ code3 m ∧ code3 m ≤ 999 := by
  unfold digs3 isDig at h
  simp only [Bool.and_eq_true, decide_eq_true_eq] at h
  unfold code3
  omega
theorem bodyL_len {l : List UInt8} (h : crlfR l = true) : (bodyL l).length + 2 = l.length := by
  unfold crlfR Lib.hasSuffix at h
  have h2 := (List.isSuffixOf_iff_suffix.1 h).length_le
  unfold bodyL
  rw [List.length_take]
  simp at h2
  omega
theorem trim_crlf {l : List UInt8} : Lib.trimSuffix l [13, 10] = if crlfR l = true then bodyL l else l := rfl

/-- where the first line's last byte stands; below 0: nowhere -/
def eol (l : List UInt8) : Int := Lib.indexByte (l.take 512) 10
structure RR where
  c : Int
  L : List ByteArray
  n : Int
  e : Int
def bad (e : Int) : RR := ⟨0, [], 0, e⟩
def short (l : List UInt8) : Int := if 512 ≤ l.length then 142 else 140
/-- the rest l is read behind so many bytes and the lines L -/
def rd : Nat → List UInt8 → Int → Int → List ByteArray → RR
  | 0, _, _, _, _ => bad 0
  | k + 1, l, at_, c, L =>
    if eol l < 0 then bad (short l)
    else if lOk (l.take ((eol l).toNat + 1)) = false ∨ (0 < at_ ∧ lN (l.take ((eol l).toNat + 1)) ≠ c) then bad 141
    else if L.length = 50 then bad 142
    else if lM (l.take ((eol l).toNat + 1)) = true then rd k (l.drop ((eol l).toNat + 1)) (at_ + ((eol l).toNat + 1 : Nat)) (lN (l.take ((eol l).toNat + 1))) (L ++ [⟨(lT (l.take ((eol l).toNat + 1))).toArray⟩])
    else ⟨lN (l.take ((eol l).toNat + 1)), L ++ [⟨(lT (l.take ((eol l).toNat + 1))).toArray⟩], at_ + ((eol l).toNat + 1 : Nat), 0⟩
def readP (l : List UInt8) : RR := rd (l.length + 1) l 0 0 []
theorem eol_ge (l : List UInt8) : -1 ≤ eol l := Lib.indexByte_ge _ _
theorem eol_at {l : List UInt8} (h : ¬ eol l < 0) : (eol l).toNat < 512 ∧ (eol l).toNat < l.length ∧ l[(eol l).toNat]? = some 10 ∧ ∀ k, k < (eol l).toNat → l[k]? ≠ some 10 := by
  have e : Lib.indexByte (l.take 512) 10 = ((eol l).toNat : Int) := by unfold eol at *; omega
  obtain ⟨h1, h2⟩ := Lib.indexByte_some e
  have h3 := (List.getElem?_eq_some_iff.1 h1).1
  rw [List.length_take] at h3
  refine ⟨by omega, by omega, ?_, fun k hk => ?_⟩
  · rw [List.getElem?_take_of_lt (by omega)] at h1; exact h1
  · have := h2 k hk
    rw [List.getElem?_take_of_lt (by omega)] at this; exact this
/-- a line's bytes: the first ones -/
def fst (l : List UInt8) : List UInt8 := l.take ((eol l).toNat + 1)
theorem fst_len {l : List UInt8} (h : ¬ eol l < 0) : (fst l).length = (eol l).toNat + 1 := by
  unfold fst; rw [List.length_take]; have := (eol_at h).2.1; omega
section
variable {k : Nat} {l : List UInt8} {a c : Int} {L : List ByteArray}
theorem rd_short (hk : 0 < k) (he : eol l < 0) : rd k l a c L = bad (short l) := by
  obtain ⟨k, rfl⟩ : ∃ j, k = j + 1 := ⟨k - 1, by omega⟩
  rw [rd, if_pos he]
theorem rd_form (hk : 0 < k) (he : ¬ eol l < 0) (h : lOk (fst l) = false ∨ (0 < a ∧ lN (fst l) ≠ c)) : rd k l a c L = bad 141 := by
  obtain ⟨k, rfl⟩ : ∃ j, k = j + 1 := ⟨k - 1, by omega⟩
  rw [rd, if_neg he]; exact if_pos h
theorem rd_long (hk : 0 < k) (he : ¬ eol l < 0) (h : ¬ (lOk (fst l) = false ∨ (0 < a ∧ lN (fst l) ≠ c))) (h5 : L.length = 50) : rd k l a c L = bad 142 := by
  obtain ⟨k, rfl⟩ : ∃ j, k = j + 1 := ⟨k - 1, by omega⟩
  rw [rd, if_neg he]; exact (if_neg h).trans (if_pos h5)
theorem rd_more (hk : 0 < k) (he : ¬ eol l < 0) (h : ¬ (lOk (fst l) = false ∨ (0 < a ∧ lN (fst l) ≠ c))) (h5 : ¬ L.length = 50) (hm : lM (fst l) = true) :
    rd k l a c L = rd (k - 1) (l.drop ((eol l).toNat + 1)) (a + ((eol l).toNat + 1 : Nat)) (lN (fst l)) (L ++ [⟨(lT (fst l)).toArray⟩]) := by
  obtain ⟨k, rfl⟩ : ∃ j, k = j + 1 := ⟨k - 1, by omega⟩
  rw [rd, if_neg he]; exact (if_neg h).trans ((if_neg h5).trans (if_pos hm))
theorem rd_last (hk : 0 < k) (he : ¬ eol l < 0) (h : ¬ (lOk (fst l) = false ∨ (0 < a ∧ lN (fst l) ≠ c))) (h5 : ¬ L.length = 50) (hm : lM (fst l) = false) :
    rd k l a c L = ⟨lN (fst l), L ++ [⟨(lT (fst l)).toArray⟩], a + ((eol l).toNat + 1 : Nat), 0⟩ := by
  obtain ⟨k, rfl⟩ : ∃ j, k = j + 1 := ⟨k - 1, by omega⟩
  rw [rd, if_neg he]; exact (if_neg h).trans ((if_neg h5).trans (if_neg (by show ¬ lM (fst l) = true; rw [hm]; decide)))
end
end Go.Proofs.YtjnjnccfojfghaaGreatDoor

/-! What a line of a reply is, in plain words; the walk of reply.line. No condition but the sizes that the form gives, and what the library's variables hold. -/
namespace Go.Proofs.YtjnjnccfojfghaaGreatDoor
open Go.RowKit Go.Sort
set_option linter.unusedVariables false

/-- what the library's variables hold -/
structure Errs (w : World) : Prop where
  c3 : ∃ t p, w.cell? ⟨3, 0, none⟩ = some (.iface t p)
  c4 : ∃ t p, w.cell? ⟨4, 0, none⟩ = some (.iface t p)
  lt3 : 3 < w.heap.size
  lt4 : 4 < w.heap.size
theorem Errs.keep {w w' : World} (h : Errs w) (hb : Below w.heap.size w w') : Errs w' := by
  obtain ⟨⟨t, p, h3⟩, ⟨t', p', h4⟩, l3, l4⟩ := h
  exact ⟨⟨t, p, (hb.cell l3).trans h3⟩, ⟨t', p', (hb.cell l4).trans h4⟩, Nat.lt_of_lt_of_le l3 hb.size, Nat.lt_of_lt_of_le l4 hb.size⟩

/-- strconv.ParseUint(s, 10, 16), whatever s -/
theorem pu16_any (s : ByteArray) (w : World) (hs : s.size ≤ 281474976710656) (T : Errs w) :
    Calls Tryz.prog 93 #[.string s, .int .i64 10, .int .i64 16] w fun e w' => Below w.heap.size w w' ∧
      ((∃ u, Lib.parseUintB 16 s.data.toList = .ok u ∧ e = .returned (.tuple #[.int .u64 u, .nilIface])) ∨
       ((∀ u, Lib.parseUintB 16 s.data.toList ≠ .ok u) ∧ ∃ (z : Int) (t : TypeId) (p : Value), 0 ≤ z ∧ z ≤ 65535 ∧ e = .returned (.tuple #[.int .u64 z, .iface t p]))) := by
  obtain ⟨⟨t3, p3, h3⟩, ⟨t4, p4, h4⟩, -, -⟩ := T
  rcases hR : Lib.parseUintB 16 s.data.toList with u | _ | _
  · refine (Any.strconv_ParseUint_10_at16_ok Tryz.laysPu14 s (by omega) u hR w).mono ?_
    rintro e w' ⟨rfl, hw⟩
    refine ⟨?_, .inl ⟨u, rfl, rfl⟩⟩
    rcases hw with rfl | rfl
    · exact Below.refl _ _
    · exact below_bytesWorld _ _ _
  · refine (Any.strconv_ParseUint_10_at16_syntax Tryz.laysPu14 s hs hR _ w h3 (.inr ⟨_, _, rfl⟩)).mono ?_
    rintro e w' ⟨N, rfl, -, -, hb⟩
    exact ⟨hb, .inr ⟨by simp, _, _, _, Int.le_refl _, by omega, rfl⟩⟩
  · refine (Any.strconv_ParseUint_10_at16_range Tryz.laysPu14 s hs hR _ w h4 (.inr ⟨_, _, rfl⟩)).mono ?_
    rintro e w' ⟨N, rfl, -, -, hb⟩
    exact ⟨hb, .inr ⟨by simp, _, _, _, by omega, Int.le_refl _, rfl⟩⟩

theorem parse3 {m : List UInt8} (h : 3 ≤ m.length) : (digs3 m = true → Lib.parseUintB 16 (m.take 3) = .ok (code3 m).toNat) ∧ (digs3 m = false → ∀ u, Lib.parseUintB 16 (m.take 3) ≠ .ok u) := by
  match m, h with
  | a :: b :: c :: r, _ =>
    have e : (a :: b :: c :: r).take 3 = [a, b, c] := rfl
    have e0 : bt (a :: b :: c :: r) 0 = (a.toNat : Int) := rfl
    have e1 : bt (a :: b :: c :: r) 1 = (b.toNat : Int) := rfl
    have e2 : bt (a :: b :: c :: r) 2 = (c.toNat : Int) := rfl
    unfold digs3 isDig code3
    rw [e, e0, e1, e2]
    have ha := a.toNat_lt
    have hb := b.toNat_lt
    have hc := c.toNat_lt
    refine ⟨fun h => ?_, fun h u hu => ?_⟩
    · simp only [Bool.and_eq_true, decide_eq_true_eq] at h
      obtain ⟨h1, h2, h3⟩ := h
      simp only [Lib.parseUintB, Lib.parseUintM, reduceCtorEq, if_false]
      rw [if_pos (by omega), if_neg (by omega), if_neg (by omega), if_pos (by omega), if_neg (by omega), if_neg (by omega), if_pos (by omega), if_neg (by omega), if_neg (by omega)]
      congr 1
      omega
    · simp only [Lib.parseUintB, Lib.parseUintM, reduceCtorEq, if_false] at hu
      by_cases h1 : 48 ≤ a.toNat ∧ a.toNat ≤ 57
      · rw [if_pos h1, if_neg (by omega), if_neg (by omega)] at hu
        by_cases h2 : 48 ≤ b.toNat ∧ b.toNat ≤ 57
        · rw [if_pos h2, if_neg (by omega), if_neg (by omega)] at hu
          by_cases h3 : 48 ≤ c.toNat ∧ c.toNat ≤ 57
          · rw [decide_eq_true (by omega), decide_eq_true (by omega), decide_eq_true (by omega)] at h
            cases h
          · rw [if_neg h3] at hu
            cases hu
        · rw [if_neg h2] at hu
          cases hu
      · rw [if_neg h1] at hu
        cases hu
/-- what reply.line answers -/
def LineAns (l : List UInt8) (e : Ending) : Prop :=
  ∃ (n : Int) (t : ByteArray) (more : Bool), e = .returned (.tuple #[.int .i64 n, .string t, .bool more, .bool (lOk l)]) ∧ (lOk l = true → n = lN l ∧ t = ⟨(lT l).toArray⟩ ∧ more = lM l)

set_option maxHeartbeats 2000000 in
theorem line_walk (l : List UInt8) (w : World) (hl : l.length ≤ 1000000) (T : Errs w) :
    Calls Tryz.prog 54 #[.string ⟨l.toArray⟩] w fun e w' => Below w.heap.size w w' ∧ LineAns l e := by
  have hcs := Tryz.strings_CutSuffix ⟨l.toArray⟩ ⟨#[13, 10]⟩ w (by rw [size_len]; simp; omega)
  rw [show (⟨l.toArray⟩ : ByteArray).data.toList = l by simp, show (⟨#[13, 10]⟩ : ByteArray).data.toList = [13, 10] from rfl, trim_crlf, show Lib.hasSuffix l [13, 10] = crlfR l from rfl] at hcs
  have HC := Lib.hid hcs; clear hcs
  cases hcr : crlfR l
  · rw [hcr] at HC
    have hno : lOk l = false := by unfold lOk; rw [hcr]; rfl
    unfold LineAns
    rw [hno]
    clear hcr
    go_enter Tryz.func54, Tryz.ntmps54
    go_wp2_with fail
    refine HC.out.mono ?_
    rintro e w' ⟨rfl, rfl⟩
    go_wp2
    all_goals
      (try simp only [Exit.inBlock, Exit.then])
      refine bodyPost_ret (results_t4 rfl _ _ _) rfl ?_
      exact ⟨Below.refl _ _, _, _, _, rfl, fun h => by cases h⟩
  · rw [hcr] at HC
    have hlen := bodyL_len hcr
    simp only [if_true] at HC
    have hlo : Hid (lOk l = bodyOk (bodyL l)) := Lib.hid (by unfold lOk; rw [hcr, Bool.true_and])
    have h1 : Hid (lN l = code3 (bodyL l)) := Lib.hid rfl
    have h2 : Hid (lT l = (bodyL l).drop 4) := Lib.hid rfl
    have h3 : Hid (lM l = decide (bt (bodyL l) 3 = 45)) := Lib.hid rfl
    unfold LineAns
    rw [hlo.out, h1.out, h2.out, h3.out]
    clear h1 h2 h3 hlo hcr
    generalize bodyL l = m at *
    have hsz : (⟨m.toArray⟩ : ByteArray).size = m.length := by rw [size_len]
    by_cases hm3 : m.length < 3
    · have hno : bodyOk m = false := by unfold bodyOk; rw [decide_eq_false (show ¬ 3 ≤ m.length by omega), Bool.false_and]
      rw [hno]
      have hm4 : (m.length : Int) < 3 := by omega
      go_enter Tryz.func54, Tryz.ntmps54
      go_wp2_with fail
      refine HC.out.mono ?_
      rintro e w' ⟨rfl, rfl⟩
      go_wp2
      all_goals
        (try simp only [Exit.inBlock, Exit.then])
        refine bodyPost_ret (results_t4 rfl _ _ _) rfl ?_
        exact ⟨Below.refl _ _, _, _, _, rfl, fun h => by cases h⟩
    · have hm4 : (3 : Int) ≤ (m.length : Int) := by omega
      have hm5 : 3 ≤ m.length := by omega
      have hpu := pu16_any ((⟨m.toArray⟩ : ByteArray).extract 0 3) w (by rw [ByteArray.size_extract]; omega) T
      rw [← ByteArray.toList_eq, Lib.extract_toList, show (⟨m.toArray⟩ : ByteArray).data.toList = m by simp, List.drop_zero, Nat.sub_zero] at hpu
      obtain ⟨hp1, hp2⟩ := parse3 hm5
      cases hd : digs3 m
      · have hno : bodyOk m = false := by unfold bodyOk; rw [hd, Bool.false_and, Bool.and_false]
        rw [hno]
        replace hpu : Calls Tryz.prog 93 #[.string ((⟨m.toArray⟩ : ByteArray).extract 0 3), .int .i64 10, .int .i64 16] w fun e w' => Below w.heap.size w w' ∧ ∃ (z : Int) (t : TypeId) (p : Value), e = .returned (.tuple #[.int .u64 z, .iface t p]) := by
          refine hpu.mono ?_
          rintro e w2 ⟨hb2, ⟨u, hu, rfl⟩ | ⟨-, z, t, p, hz0, hz1, rfl⟩⟩
          · exact absurd hu (hp2 hd u)
          · exact ⟨hb2, _, _, _, rfl⟩
        have HPU := Lib.hid hpu; clear hp1 hp2 hd hno hpu
        go_enter Tryz.func54, Tryz.ntmps54
        go_wp2_with fail
        refine HC.out.mono ?_
        rintro e w' ⟨rfl, rfl⟩
        go_wp2_with fail
        refine HPU.out.mono ?_
        rintro e w2 ⟨hb2, z, t, p, rfl⟩
        go_wp2
        all_goals
          (try simp only [Exit.inBlock, Exit.then])
          refine bodyPost_ret (results_t4 rfl _ _ _) rfl ?_
          exact ⟨hb2, _, _, _, rfl, fun h => by cases h⟩
      · have hp3 := hp1 hd
        obtain ⟨hr0, hr1⟩ := code3_rng hd
        have hbo : bodyOk m = (codeOk (code3 m) && (decide (m.length = 3) || (decide (bt m 3 = 45 ∨ bt m 3 = 32) && textOk (m.drop 4)))) := by unfold bodyOk; rw [hd, decide_eq_true hm5, Bool.true_and, Bool.true_and]
        clear hp1 hp2 hd
        generalize code3 m = c at *
        replace hpu : Calls Tryz.prog 93 #[.string ((⟨m.toArray⟩ : ByteArray).extract 0 3), .int .i64 10, .int .i64 16] w fun e w' => Below w.heap.size w w' ∧ e = .returned (.tuple #[.int .u64 c, .nilIface]) := by
          refine hpu.mono ?_
          rintro e w2 ⟨hb2, ⟨u, hu, rfl⟩ | ⟨hnu, -⟩⟩
          · rw [hp3] at hu
            injection hu with hu
            subst hu
            exact ⟨hb2, by rw [Int.toNat_of_nonneg hr0]⟩
          · exact absurd hp3 (hnu _)
        have HPU := Lib.hid hpu; clear hpu hp3
        have HCW := Lib.hid (fun w2 => code_walk c w2)
        cases hco : codeOk c
        · rw [hco] at HCW hbo
          rw [Bool.false_and] at hbo
          rw [hbo]
          clear hbo hco
          go_enter Tryz.func54, Tryz.ntmps54
          go_wp2_with fail
          refine HC.out.mono ?_
          rintro e w' ⟨rfl, rfl⟩
          go_wp2_with fail
          refine HPU.out.mono ?_
          rintro e w2 ⟨hb2, rfl⟩
          go_wp2_with fail
          refine (HCW.out _).mono ?_
          rintro e w3 ⟨rfl, rfl⟩
          go_wp2
          all_goals
            (try simp only [Exit.inBlock, Exit.then])
            refine bodyPost_ret (results_t4 rfl _ _ _) rfl ?_
            exact ⟨hb2, _, _, _, rfl, fun h => by cases h⟩
        · rw [hco] at HCW hbo
          rw [Bool.true_and] at hbo
          clear hco
          by_cases h33 : m.length = 3
          · have h34 : (m.length : Int) = 3 := by omega
            rw [decide_eq_true h33, Bool.true_or] at hbo
            have H33 := Lib.hid h33; clear h33
            rw [hbo]
            clear hbo
            go_enter Tryz.func54, Tryz.ntmps54
            go_wp2_with fail
            refine HC.out.mono ?_
            rintro e w' ⟨rfl, rfl⟩
            go_wp2_with fail
            refine HPU.out.mono ?_
            rintro e w2 ⟨hb2, rfl⟩
            go_wp2_with fail
            refine (HCW.out _).mono ?_
            rintro e w3 ⟨rfl, rfl⟩
            go_wp2
            all_goals
              (try simp only [Exit.inBlock, Exit.then])
              refine bodyPost_ret (results_t4 rfl _ _ _) rfl ?_
              refine ⟨hb2, _, _, _, rfl, fun _ => ⟨rfl, ?_, ?_⟩⟩
            · rw [List.drop_eq_nil_of_le (by have := H33.out; omega)]
            · symm
              rw [decide_eq_false_iff_not]
              unfold bt
              rw [List.getD_eq_getElem?_getD, List.getElem?_eq_none (by have := H33.out; omega)]
              decide
          · have h34 : ((m.length : Int) == 3) = false := beq_eq_false_iff_ne.2 (by omega)
            rw [decide_eq_false h33, Bool.false_or] at hbo
            have hm6 : (4 : Int) ≤ (m.length : Int) := by omega
            have hm7 : 4 ≤ m.length := by omega
            clear h33
            have hx : ((⟨m.toArray⟩ : ByteArray)[3]'(by rw [hsz]; omega)).toNat = bt m 3 := get_list ⟨m.toArray⟩ 3 (by rw [hsz]; omega)
            have hx0 := bt_lo m 3
            have hx1 := bt_hi m 3
            have htx : (⟨m.toArray⟩ : ByteArray).extract 4 m.length = ⟨(m.drop 4).toArray⟩ := by
              apply WideShapes.bytes_inj
              rw [← ByteArray.toList_eq, Lib.extract_toList]
              simp
              rw [List.take_of_length_le (by simp)]
            have HTX := Lib.hid htx; clear htx
            have HTW := Lib.hid (fun w2 => text_walk ⟨(m.drop 4).toArray⟩ w2 (by rw [size_len]; simp [maxLen]; omega))
            generalize bt m 3 = x at *
            by_cases hx45 : x = 45
            · rw [decide_eq_true (show x = 45 ∨ x = 32 by omega), Bool.true_and] at hbo
              subst hx45
              rw [hbo]
              clear hbo
              go_enter Tryz.func54, Tryz.ntmps54
              go_wp2_with fail
              refine HC.out.mono ?_
              rintro e w' ⟨rfl, rfl⟩
              go_wp2_with fail
              refine HPU.out.mono ?_
              rintro e w2 ⟨hb2, rfl⟩
              go_wp2_with fail
              refine (HCW.out _).mono ?_
              rintro e w3 ⟨rfl, rfl⟩
              go_wp2
              refine wp_region_below w2.heap.size (by kernel_rfl) (by kernel_rfl) ?_
              repeat (go_big_quiet_step ((go_at_call 94; rw [HTX.out]; exact calls_over _ (HTW.out _) (Nat.le_refl _))))
              refine wpQuiet_nil ?_
              rintro _ ⟨⟨w4, hb4⟩, rfl⟩
              go_wp2
              refine bodyPost_ret (results_t4 rfl _ _ _) rfl ?_
              exact ⟨hb2.trans (hb4.mono hb2.size), _, _, _, rfl, fun _ => ⟨rfl, HTX.out, rfl⟩⟩
            · have h4f : (x == 45) = false := by simpa using hx45
              have h4n : (x != 45) = true := by simpa using hx45
              by_cases hx32 : x = 32
              · rw [decide_eq_true (show x = 45 ∨ x = 32 by omega), Bool.true_and] at hbo
                rw [hbo]
                have HX := Lib.hid hx45
                subst hx32
                clear hbo hx45
                go_enter Tryz.func54, Tryz.ntmps54
                go_wp2_with fail
                refine HC.out.mono ?_
                rintro e w' ⟨rfl, rfl⟩
                go_wp2_with fail
                refine HPU.out.mono ?_
                rintro e w2 ⟨hb2, rfl⟩
                go_wp2_with fail
                refine (HCW.out _).mono ?_
                rintro e w3 ⟨rfl, rfl⟩
                go_wp2
                refine wp_region_below w2.heap.size (by kernel_rfl) (by kernel_rfl) ?_
                repeat (go_big_quiet_step ((go_at_call 94; rw [HTX.out]; exact calls_over _ (HTW.out _) (Nat.le_refl _))))
                refine wpQuiet_nil ?_
                rintro _ ⟨⟨w4, hb4⟩, rfl⟩
                go_wp2
                refine bodyPost_ret (results_t4 rfl _ _ _) rfl ?_
                refine ⟨hb2.trans (hb4.mono hb2.size), _, _, _, rfl, fun _ => ⟨rfl, HTX.out, rfl⟩⟩

              · rw [decide_eq_false (show ¬ (x = 45 ∨ x = 32) by omega), Bool.false_and] at hbo
                rw [hbo]
                have h3f : (x == 32) = false := by simpa using hx32
                clear hbo hx45 hx32
                go_enter Tryz.func54, Tryz.ntmps54
                go_wp2_with fail
                refine HC.out.mono ?_
                rintro e w' ⟨rfl, rfl⟩
                go_wp2_with fail
                refine HPU.out.mono ?_
                rintro e w2 ⟨hb2, rfl⟩
                go_wp2_with fail
                refine (HCW.out _).mono ?_
                rintro e w3 ⟨rfl, rfl⟩
                go_wp2
                refine wp_region_below w2.heap.size (by kernel_rfl) (by kernel_rfl) ?_
                repeat (go_big_quiet_step (fail))
                refine wpQuiet_nil ?_
                rintro _ ⟨⟨w4, hb4⟩, rfl⟩
                go_wp2
                refine bodyPost_ret (results_t4 rfl _ _ _) rfl ?_
                refine ⟨hb2.trans (hb4.mono hb2.size), _, _, _, rfl, fun h => by cases h⟩
end Go.Proofs.YtjnjnccfojfghaaGreatDoor
