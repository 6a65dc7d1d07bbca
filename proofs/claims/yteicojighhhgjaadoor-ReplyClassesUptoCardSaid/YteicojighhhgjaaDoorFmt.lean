/-
  strconv.FormatUint at base 10 of a number up to 999; reply.small. No condition but the sizes that the form gives, and what the library's variables hold.
-/
import Derived.Test.YteicojighhhgjaaDoorStat
import Derived.Test.YteicojighhhgjaaDoorLine
import Derived.Test.YteicojighhhgjaaDoorStrs
import Derived.IntWalk
namespace Go.Proofs.YteicojighhhgjaaDoor
open Go.RowKit Go.Sort
set_option linter.unusedVariables false

set_option maxRecDepth 100000 in
theorem ifmt10 (u : Nat) (w : World) (h : u ≤ 999) (T : Pow10 w) :
    Calls Tryd.prog 59 #[.int .u64 u, .int .i64 10] w fun e w' => Below w.heap.size w w' ∧ e = .returned (.string ⟨(Lib.decDigits u).toArray⟩) := by
  by_cases hs : u < 100
  · have hs' : (u : Int) < 100 := by omega
    go_enter Tryd.func59, Tryd.ntmps59
    go_wp2_with (go_at_call 61; refine (Tryd.internal_strconv_small u hs _).mono ?_; rintro e w' ⟨rfl, rfl⟩)
    go_ret
    exact ⟨Below.refl _ _, rfl⟩
  · have hs' : (100 : Int) ≤ (u : Int) := by omega
    have h' : (u : Int) ≤ 999 := by omega
    have hnd : Lib.nDigits u = 3 := by
      rw [← Lib.decDigits_length, dec_three (by omega) h]; rfl
    have hH0 := Lib.holds_zero0 w 83 3 (by omega)
    have hfmt := Tryd.internal_strconv_formatBase10 w.heap.size 0 24 u (Array.replicate 3 0) (w.alloc (.cells Lib.zeros24 83)) hH0 (by rw [Array.size_replicate]; omega) (by omega) (by rw [Array.size_replicate]; omega)
    rw [Array.size_replicate] at hfmt
    have hnum := Tryd.internal_strconv_numDigits u (by omega) (by omega)
    rw [hnd] at hnum
    have HNUM := Lib.hid hnum
    have HF := Lib.hid hfmt
    have HH0 := Lib.hid hH0
    have tb : Lib.TabIs Tryd.prog (w.alloc (.cells Lib.zeros24 83)) "internal/strconv.uint64pow10" .u64 Lib.pow10Tab := T _ ((Below.refl _ _).alloc (Nat.le_refl _) _)
    have TB := Lib.hid tb
    clear hH0 hfmt hnum tb
    go_enter Tryd.func59, Tryd.ntmps59
    go_wp2_with fail
    refine (HNUM.out _ TB.out).mono ?_
    rintro e w' ⟨rfl, rfl⟩
    go_wp2_with fail
    refine HF.out.mono ?_
    rintro e w' ⟨rfl, k, v', dk, rfl, hF⟩
    have hcv : (convert 27 9 (.slice (some ⟨w.heap.size, 0, none⟩) 3 24)).run Tryd.prog ((putRow (fun (b : UInt8) => Value.int .u8 (b.toNat : Int)) (w.alloc (.cells Lib.zeros24 83)) w.heap.size 0 dk).drewN k) = .ok (.string ⟨(Lib.decDigits u).toArray⟩) ((putRow (fun (b : UInt8) => Value.int .u8 (b.toNat : Int)) (w.alloc (.cells Lib.zeros24 83)) w.heap.size 0 dk).drewN k) := by
      rw [← hnd] at hF
      have h := run_convert_bytes_back (P := Tryd.prog) ((putRow (fun (b : UInt8) => Value.int .u8 (b.toNat : Int)) (w.alloc (.cells Lib.zeros24 83)) w.heap.size 0 dk).drewN k) 27 9 5 ⟨w.heap.size, 0, none⟩ 24 (Lib.decDigits u) Tryd.underlying27 Tryd.underlying5 Tryd.underlying9 (fun j hj => by
        rw [Lib.row_is_numeral hF j hj, Lib.add_plain, World.cell?_drewN]
        exact cell?_putRow (fun (b : UInt8) => Value.int .u8 (b.toNat : Int)) _ w.heap.size 0 _ dk HH0.out (by rw [hF.size, Array.size_replicate, hnd]) j (by rw [hF.size]; rw [Lib.decDigits_length] at hj; exact hj))
      rw [Lib.decDigits_length, hnd] at h
      exact h
    have hbel : Below w.heap.size w ((putRow (fun (b : UInt8) => Value.int .u8 (b.toNat : Int)) (w.alloc (.cells Lib.zeros24 83)) w.heap.size 0 dk).drewN k) := by
      rw [alloc_eq_grow]
      obtain ⟨os', _, e⟩ := putRow_grow_new (fun (b : UInt8) => Value.int .u8 (b.toNat : Int)) w #[.cells Lib.zeros24 83] w.heap.size 0 dk (Nat.le_refl _)
      rw [e]
      exact Lib.below_grow _ _ (Nat.le_refl _) k os'
    have HB := Lib.hid hbel
    clear hbel hF
    go_wp2
    go_ret
    exact ⟨HB.out, rfl⟩
theorem fmt10 (u : Nat) (w : World) (h : u ≤ 999) (T : Pow10 w) :
    Calls Tryd.prog 47 #[.int .u64 u, .int .i64 10] w fun e w' => Below w.heap.size w w' ∧ e = .returned (.string ⟨(Lib.decDigits u).toArray⟩) := by
  have H := Lib.hid (ifmt10 u w h T)
  go_enter Tryd.func47, Tryd.ntmps47
  go_wp2_with fail
  refine H.out.mono ?_
  rintro e w' ⟨hb, rfl⟩
  go_wp2
  go_ret
  exact ⟨hb, rfl⟩

/-- what small answers -/
def SmAns (l : List UInt8) (e : Ending) : Prop := ∃ n : Int, e = .returned (.tuple #[.int .i64 n, .bool (smOk l)]) ∧ (smOk l = true → n = valD l)
theorem sm_ans {l : List UInt8} {b : Bool} (n : Int) (hb : smOk l = b) (h : b = true → n = valD l) : SmAns l (.returned (.tuple #[.int .i64 n, .bool b])) := by
  subst hb; exact ⟨n, rfl, h⟩
set_option maxHeartbeats 1000000 in
theorem small_walk (s : ByteArray) (w : World) (hs : s.size ≤ 281474976710656) (TE : Errs w) (T : Pow10 w) :
    Calls Tryd.prog 36 #[.string s] w fun e w' => Below w.heap.size w w' ∧ SmAns s.data.toList e := by
  have HP := Lib.hid (pu16_any s w hs TE)
  have HT := Lib.hid (fun w' hb => T.keep (w' := w') hb)
  clear T TE
  rcases hR : Lib.parseUintB 16 s.data.toList with u | _ | _
  · obtain ⟨h1, h2⟩ := sm_of hR
    have HP2 : Hid (Calls Tryd.prog 43 #[.string s, .int .i64 10, .int .i64 16] w fun e w' => Below w.heap.size w w' ∧ e = .returned (.tuple #[.int .u64 u, .nilIface])) := Lib.hid (HP.out.mono (by
      rintro e w2 ⟨hb2, ⟨u', hu, rfl⟩ | ⟨hnu, -⟩⟩
      · rw [hR] at hu
        injection hu with hu
        subst hu
        exact ⟨hb2, rfl⟩
      · exact absurd hR (hnu _)))
    have HV := Lib.hid h2
    clear h2 hR HP
    by_cases h9 : u ≤ 999
    · rw [decide_eq_true h9, Bool.true_and] at h1
      have h9' : (u : Int) ≤ 999 := by omega
      have h64 : IntKind.i64.wrap (u : Int) = (u : Int) := by rw [IntWalk.i64_in _ (by omega)]
      by_cases he : Lib.decDigits u = s.data.toList
      · rw [decide_eq_true he] at h1
        rw [h1] at HV
        have H1 := Lib.hid h1
        obtain rfl := str_eq he.symm
        clear he h1
        go_enter Tryd.func36, Tryd.ntmps36
        go_wp2_with fail
        refine HP2.out.mono ?_
        rintro e w2 ⟨hb2, rfl⟩
        go_wp2_with fail
        refine (fmt10 u w2 h9 (HT.out w2 hb2)).mono ?_
        rintro e w3 ⟨hb3, rfl⟩
        go_wp2
        go_ret2
        exact ⟨hb2.trans (hb3.mono hb2.size), sm_ans _ H1.out fun _ => (HV.out (by trivial)).symm⟩
      · rw [decide_eq_false he] at h1
        have H1 := Lib.hid h1
        have hne : (⟨(Lib.decDigits u).toArray⟩ : ByteArray) ≠ s := fun e => he (by rw [← e])
        have hne2 : (Lib.decDigits u == s.toList) = false := beq_eq_false_iff_ne.2 fun e => he (by rw [e, ByteArray.toList_eq])
        clear he h1 HV
        go_enter Tryd.func36, Tryd.ntmps36
        go_wp2_with fail
        refine HP2.out.mono ?_
        rintro e w2 ⟨hb2, rfl⟩
        go_wp2_with fail
        refine (fmt10 u w2 h9 (HT.out w2 hb2)).mono ?_
        rintro e w3 ⟨hb3, rfl⟩
        go_wp2
        go_ret2
        exact ⟨hb2.trans (hb3.mono hb2.size), sm_ans _ H1.out fun h => by cases h⟩
    · rw [decide_eq_false h9, Bool.false_and] at h1
      have H1 := Lib.hid h1
      have h9' : (999 : Int) < (u : Int) := by omega
      clear HV h1 h9
      go_enter Tryd.func36, Tryd.ntmps36
      go_wp2_with fail
      refine HP2.out.mono ?_
      rintro e w2 ⟨hb2, rfl⟩
      go_wp2
      go_ret2
      exact ⟨hb2, sm_ans _ H1.out fun h => by cases h⟩
  all_goals
    have h1 := sm_not (l := s.data.toList) (by rw [hR]; simp)
    have HP2 : Hid (Calls Tryd.prog 43 #[.string s, .int .i64 10, .int .i64 16] w fun e w' => Below w.heap.size w w' ∧ ∃ (z : Int) (t : TypeId) (p : Value), 0 ≤ z ∧ z ≤ 65535 ∧ e = .returned (.tuple #[.int .u64 z, .iface t p])) := Lib.hid (HP.out.mono (by
      rintro e w2 ⟨hb2, ⟨u', hu, rfl⟩ | ⟨-, h⟩⟩
      · rw [hR] at hu
        cases hu
      · exact ⟨hb2, h⟩))
    have H1 := Lib.hid h1
    clear h1 HP hR
    go_enter Tryd.func36, Tryd.ntmps36
    go_wp2_with fail
    refine HP2.out.mono ?_
    rintro e w2 ⟨hb2, z, t, p, hz0, hz1, rfl⟩
    go_wp2
    go_ret2
    exact ⟨hb2, sm_ans _ H1.out fun h => by cases h⟩
end Go.Proofs.YteicojighhhgjaaDoor
