/-
  The walks of date's padded, title, days and months, and of waybillref13's two. Conditions: the numbers' bounds, and what the library's tables hold.
-/
import Derived.Test.YtdkhoiahmjadnaaGreatDoorShelf
import Derived.Test.YtdkhoiahmjadnaaGreatDoorLib
import Derived.Test.YtdkhoiahmjadnaaGreatDoorStrs
import Derived.Test.YtdkhoiahmjadnaaGreatDoorBlk
import Derived.Lib.LaidTab
import Derived.Lib.AppendIntMem
import Derived.Below
import Derived.Deep.RegionHeld3
import Derived.RegionTactic
namespace Go.Proofs.YtdkhoiahmjadnaaGreatDoor
open Go.RowKit Go.Sort
set_option linter.unusedVariables false

/-- what the library's tables hold, now and later -/
def TabsD (w : World) : Prop := ∀ w', Below w.heap.size w w' → Lib.TabIs Tryz.prog w' "internal/strconv.uint64pow10" .u64 Lib.pow10Tab ∧ Lib.TabIs Tryz.prog w' "strings.asciiSpace" .u8 Lib.asciiSpaceTab ∧ Lib.Utf8Tabs 7 8 w' ∧ ∃ m, w'.cell? ⟨6, 0, none⟩ = some (.int .i64 m)
theorem TabsD.keep {w w' : World} (h : TabsD w) (hb : Below w.heap.size w w') : TabsD w' := fun x hx => h x (hb.trans (hx.mono hb.size))
theorem TabsD.pow {w : World} (h : TabsD w) : Lib.TabIs Tryz.prog w "internal/strconv.uint64pow10" .u64 Lib.pow10Tab := (h w (Below.refl _ _)).1
theorem TabsD.sp {w : World} (h : TabsD w) : Lib.TabIs Tryz.prog w "strings.asciiSpace" .u8 Lib.asciiSpaceTab := (h w (Below.refl _ _)).2.1
theorem TabsD.u8 {w : World} (h : TabsD w) : Lib.Utf8Tabs 7 8 w := (h w (Below.refl _ _)).2.2.1
theorem TabsD.ml {w : World} (h : TabsD w) : ∃ m, w.cell? ⟨6, 0, none⟩ = some (.int .i64 m) := (h w (Below.refl _ _)).2.2.2
/-! ### digits -/
def dg (n : Nat) : UInt8 := UInt8.ofNat (48 + n)
def dig2 (n : Nat) : List UInt8 := [dg (n / 10), dg (n % 10)]
def dig4 (n : Nat) : List UInt8 := [dg (n / 1000), dg (n / 100 % 10), dg (n / 10 % 10), dg (n % 10)]
theorem dec_step {u : Nat} (h : ¬ u < 10) : Lib.decDigits u = Lib.decDigits (u / 10) ++ [dg (u % 10)] := by
  rw [Lib.decDigits, dif_neg h]; rfl
theorem dec_four {n : Nat} (h0 : 1000 ≤ n) (h1 : n ≤ 9999) : Lib.decDigits n = dig4 n := by
  rw [dec_step (by omega), dec_step (by omega), dec_step (by omega), Lib.decDigits_one (by omega)]
  unfold dig4 dg
  rw [show n / 10 / 10 / 10 = n / 1000 by omega, show n / 10 / 10 % 10 = n / 100 % 10 by omega]
  rfl
theorem dec_two {n : Nat} (h1 : n < 100) : (if n < 10 then [48] else []) ++ Lib.decDigits n = dig2 n := by
  by_cases h : n < 10
  · rw [if_pos h, Lib.decDigits_one h]
    unfold dig2 dg
    rw [show n / 10 = 0 by omega, show n % 10 = n by omega]
    rfl
  · rw [if_neg h, Lib.decDigits_two h h1]; rfl
theorem app_str (a b : List UInt8) : (⟨a.toArray⟩ : ByteArray) ++ ⟨b.toArray⟩ = ⟨(a ++ b).toArray⟩ := str_eq (by simp)
theorem below_grow_drew (w : World) (k : Nat) (os : Array Obj) : Below w.heap.size w (grow (w.drewN k) os) := below_grown w k os
theorem itoa_walk (n : Nat) (hn : n ≤ 1000000) (w : World) (T : TabsD w) : Calls Tryz.prog 22 #[.int .i64 (n : Int)] w fun e w' => Below w.heap.size w w' ∧ e = .returned (.string ⟨(Lib.decDigits n).toArray⟩) := by
  refine (Tryz.strconv_Itoa (n : Int) (by omega) (by omega) w T.pow).mono ?_
  rintro e w' ⟨rfl, k, os, rfl⟩
  refine ⟨below_grow_drew _ _ _, ?_⟩
  have : Lib.itoa (n : Int) = Lib.decDigits n := by unfold Lib.itoa; rw [if_neg (by omega)]; simp
  rw [this]
theorem padded2_walk (n : Nat) (hn : n < 100) (w : World) (T : TabsD w) : Calls Tryz.prog 19 #[.int .i64 (n : Int), .int .i64 2] w fun e w' => Below w.heap.size w w' ∧ e = .returned (.string ⟨(dig2 n).toArray⟩) := by
  have HI := Lib.hid (itoa_walk n (by omega) w T)
  have HD := Lib.hid (dec_two hn)
  have hl : Hid ((⟨(Lib.decDigits n).toArray⟩ : ByteArray).size = if n < 10 then 1 else 2) := Lib.hid (by
    split
    · rename_i h; rw [Lib.decDigits_one h]; rfl
    · rename_i h; rw [Lib.decDigits_two h hn]; rfl)
  go_enter Tryz.func19, Tryz.ntmps19
  go_wp2_with fail
  refine HI.out.mono ?_
  rintro e w1 ⟨hb1, rfl⟩
  by_cases h10 : n < 10
  · have hl2 := hl.out
    rw [if_pos h10] at hl2
    have HDD := HD.out
    rw [if_pos h10] at HDD
    have HE := Lib.hid HDD
    clear HDD HD hl HI h10
    generalize Lib.decDigits n = dd at *
    have HR := Lib.hid (Tryz.strings_Repeat ⟨#[48]⟩ 1 w1 (by omega) (by decide))
    go_wp2_with fail
    refine HR.out.mono ?_
    rintro e w2 ⟨rfl, hb2⟩
    go_wp2
    go_ret
    refine ⟨hb1.trans (hb2.mono hb1.size), ?_⟩
    rw [← HE.out]
    show Ending.returned (.string (⟨(Lib.repeatL [48] 1).toArray⟩ ++ ⟨dd.toArray⟩)) = _
    rw [app_str]; rfl
  · have hl2 := hl.out
    rw [if_neg h10] at hl2
    have HDD := HD.out
    rw [if_neg h10] at HDD
    have HE := Lib.hid HDD
    clear HDD HD hl HI h10
    generalize Lib.decDigits n = dd at *
    have HR := Lib.hid (Tryz.strings_Repeat ⟨#[48]⟩ 0 w1 (by omega) (by decide))
    go_wp2_with fail
    refine HR.out.mono ?_
    rintro e w2 ⟨rfl, hb2⟩
    go_wp2
    go_ret
    refine ⟨hb1.trans (hb2.mono hb1.size), ?_⟩
    rw [← HE.out]
    show Ending.returned (.string (⟨(Lib.repeatL [48] 0).toArray⟩ ++ ⟨dd.toArray⟩)) = _
    rw [app_str]; rfl
theorem padded4_walk (n : Nat) (h0 : 1000 ≤ n) (h1 : n ≤ 9999) (w : World) (T : TabsD w) : Calls Tryz.prog 19 #[.int .i64 (n : Int), .int .i64 4] w fun e w' => Below w.heap.size w w' ∧ e = .returned (.string ⟨(dig4 n).toArray⟩) := by
  have HI := Lib.hid (itoa_walk n (by omega) w T)
  have HD := Lib.hid (dec_four h0 h1)
  have hl2 : (⟨(Lib.decDigits n).toArray⟩ : ByteArray).size = 4 := by rw [HD.out]; rfl
  go_enter Tryz.func19, Tryz.ntmps19
  go_wp2_with fail
  refine HI.out.mono ?_
  rintro e w1 ⟨hb1, rfl⟩
  clear HI
  generalize Lib.decDigits n = dd at *
  have HR := Lib.hid (Tryz.strings_Repeat ⟨#[48]⟩ 0 w1 (by omega) (by decide))
  go_wp2_with fail
  refine HR.out.mono ?_
  rintro e w2 ⟨rfl, hb2⟩
  go_wp2
  go_ret
  refine ⟨hb1.trans (hb2.mono hb1.size), ?_⟩
  rw [← HD.out]
  show Ending.returned (.string (⟨(Lib.repeatL [48] 0).toArray⟩ ++ ⟨dd.toArray⟩)) = _
  rw [app_str]; rfl
theorem title_walk (a b c : UInt8) (ha : a.toNat < 128) (w : World) : Calls Tryz.prog 20 #[.string ⟨#[a, b, c]⟩] w fun e w' => Below w.heap.size w w' ∧ e = .returned (.string ⟨#[Lib.upperB a, b, c]⟩) := by
  have HU := Lib.hid (fun w => Tryz.strings_ToUpper_ascii ⟨#[a]⟩ w (by show 1 ≤ 140737488355328; omega) (fun j x hx => by
    cases j with
    | zero => simp at hx; subst hx; exact ha
    | succ j => simp at hx))
  go_enter Tryz.func20, Tryz.ntmps20
  go_wp2_with fail
  go_region_with (go_at_call 42; go_loud (refine (HU.out _).mono ?_; rintro e w2 ⟨rfl, hb2⟩))
  all_goals
    go_wp2
    go_ret
    exact ⟨⟨hb2.os, hb2.tape, hb2.output, hb2.size, hb2.block⟩, rfl⟩
/-! ### names -/
theorem ascii_of {l : List UInt8} (h : l.all (fun b => decide (b.toNat < 128)) = true) : ∀ (j : Nat) (b : UInt8), l[j]? = some b → b.toNat < 128 := fun j b hb => of_decide_eq_true (List.all_eq_true.1 h b (List.mem_of_getElem? hb))
def dayL : List (List UInt8) := [[115, 117, 110], [109, 111, 110], [116, 117, 101], [119, 101, 100], [116, 104, 117], [102, 114, 105], [115, 97, 116]]
def monL : List (List UInt8) := [[106, 97, 110], [102, 101, 98], [109, 97, 114], [97, 112, 114], [109, 97, 121], [106, 117, 110], [106, 117, 108], [97, 117, 103], [115, 101, 112], [111, 99, 116], [110, 111, 118], [100, 101, 99]]
def dayC : Array Value := #[.string ⟨#[115, 117, 110]⟩, .string ⟨#[109, 111, 110]⟩, .string ⟨#[116, 117, 101]⟩, .string ⟨#[119, 101, 100]⟩, .string ⟨#[116, 104, 117]⟩, .string ⟨#[102, 114, 105]⟩, .string ⟨#[115, 97, 116]⟩]
def monC : Array Value := #[.string ⟨#[106, 97, 110]⟩, .string ⟨#[102, 101, 98]⟩, .string ⟨#[109, 97, 114]⟩, .string ⟨#[97, 112, 114]⟩, .string ⟨#[109, 97, 121]⟩, .string ⟨#[106, 117, 110]⟩, .string ⟨#[106, 117, 108]⟩, .string ⟨#[97, 117, 103]⟩, .string ⟨#[115, 101, 112]⟩, .string ⟨#[111, 99, 116]⟩, .string ⟨#[110, 111, 118]⟩, .string ⟨#[100, 101, 99]⟩]
theorem days_fields : Lib.fields [115, 117, 110, 32, 109, 111, 110, 32, 116, 117, 101, 32, 119, 101, 100, 32, 116, 104, 117, 32, 102, 114, 105, 32, 115, 97, 116] = dayL := by decide +kernel
theorem days_walk (w : World) (T : TabsD w) : Calls Tryz.prog 21 #[] w fun e w' => Below w.heap.size w w' ∧ e = .returned (.slice (some ⟨w.heap.size, 0, none⟩) 7 7) ∧ Blk w' w.heap.size 9 dayC := by
  have HF := Lib.hid (Tryz.strings_Fields ⟨#[115, 117, 110, 32, 109, 111, 110, 32, 116, 117, 101, 32, 119, 101, 100, 32, 116, 104, 117, 32, 102, 114, 105, 32, 115, 97, 116]⟩ w (by decide) (ascii_of (by decide +kernel)) T.sp)
  rw [show (⟨#[115, 117, 110, 32, 109, 111, 110, 32, 116, 117, 101, 32, 119, 101, 100, 32, 116, 104, 117, 32, 102, 114, 105, 32, 115, 97, 116]⟩ : ByteArray).data.toList = [115, 117, 110, 32, 109, 111, 110, 32, 116, 117, 101, 32, 119, 101, 100, 32, 116, 104, 117, 32, 102, 114, 105, 32, 115, 97, 116] from rfl, days_fields] at HF
  go_enter Tryz.func21, Tryz.ntmps21
  go_wp2_with fail
  refine HF.out.mono ?_
  rintro e w2 ⟨rfl, rfl⟩
  go_wp2
  go_ret
  exact ⟨(Below.refl _ _).alloc (Nat.le_refl _) _, rfl, Blk.new _ _ _⟩
theorem months_fields : Lib.fields [106, 97, 110, 32, 102, 101, 98, 32, 109, 97, 114, 32, 97, 112, 114, 32, 109, 97, 121, 32, 106, 117, 110, 32, 106, 117, 108, 32, 97, 117, 103, 32, 115, 101, 112, 32, 111, 99, 116, 32, 110, 111, 118, 32, 100, 101, 99] = monL := by decide +kernel
theorem months_walk (w : World) (T : TabsD w) : Calls Tryz.prog 23 #[] w fun e w' => Below w.heap.size w w' ∧ e = .returned (.slice (some ⟨w.heap.size, 0, none⟩) 12 12) ∧ Blk w' w.heap.size 9 monC := by
  have HF := Lib.hid (Tryz.strings_Fields ⟨#[106, 97, 110, 32, 102, 101, 98, 32, 109, 97, 114, 32, 97, 112, 114, 32, 109, 97, 121, 32, 106, 117, 110, 32, 106, 117, 108, 32, 97, 117, 103, 32, 115, 101, 112, 32, 111, 99, 116, 32, 110, 111, 118, 32, 100, 101, 99]⟩ w (by decide) (ascii_of (by decide +kernel)) T.sp)
  rw [show (⟨#[106, 97, 110, 32, 102, 101, 98, 32, 109, 97, 114, 32, 97, 112, 114, 32, 109, 97, 121, 32, 106, 117, 110, 32, 106, 117, 108, 32, 97, 117, 103, 32, 115, 101, 112, 32, 111, 99, 116, 32, 110, 111, 118, 32, 100, 101, 99]⟩ : ByteArray).data.toList = [106, 97, 110, 32, 102, 101, 98, 32, 109, 97, 114, 32, 97, 112, 114, 32, 109, 97, 121, 32, 106, 117, 110, 32, 106, 117, 108, 32, 97, 117, 103, 32, 115, 101, 112, 32, 111, 99, 116, 32, 110, 111, 118, 32, 100, 101, 99] from rfl, months_fields] at HF
  go_enter Tryz.func23, Tryz.ntmps23
  go_wp2_with fail
  refine HF.out.mono ?_
  rintro e w2 ⟨rfl, rfl⟩
  go_wp2
  go_ret
  exact ⟨(Below.refl _ _).alloc (Nat.le_refl _) _, rfl, Blk.new _ _ _⟩
end Go.Proofs.YtdkhoiahmjadnaaGreatDoor
