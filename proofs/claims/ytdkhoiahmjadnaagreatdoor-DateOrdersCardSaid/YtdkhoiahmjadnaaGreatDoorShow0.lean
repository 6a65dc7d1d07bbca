/-
  What Show writes, in plain words. No condition.
-/
import Derived.Test.YtdkhoiahmjadnaaGreatDoorTwo
import Derived.Test.YtdkhoiahmjadnaaGreatDoorRCiv
namespace Go.Proofs.YtdkhoiahmjadnaaGreatDoor
open Go.RowKit Go.Sort
set_option linter.unusedVariables false

def capD : List (List UInt8) := [[83, 117, 110], [77, 111, 110], [84, 117, 101], [87, 101, 100], [84, 104, 117], [70, 114, 105], [83, 97, 116]]
def capM : List (List UInt8) := [[74, 97, 110], [70, 101, 98], [77, 97, 114], [65, 112, 114], [77, 97, 121], [74, 117, 110], [74, 117, 108], [65, 117, 103], [83, 101, 112], [79, 99, 116], [78, 111, 118], [68, 101, 99]]
def timB (h mi s : Nat) : List UInt8 := dig2 h ++ [58] ++ dig2 mi ++ [58] ++ dig2 s
def shB (di d mo y h mi s : Nat) : List UInt8 := capD.getD di [] ++ [44, 32] ++ Lib.decDigits d ++ [32] ++ capM.getD (mo - 1) [] ++ [32] ++ dig4 y ++ [32] ++ timB h mi s ++ [32, 43, 48, 48, 48, 48]
/-- a moment's parts, as numbers -/
structure Parts (t : Int) (di d mo y h mi s : Nat) : Prop where
  edi : dayV t = (di : Int)
  civ : civA t = #[.int .i64 (y : Int), .int .i64 (mo : Int), .int .i64 (d : Int), .int .i64 (h : Int), .int .i64 (mi : Int), .int .i64 (s : Int)]
  cy : civY (t / 86400) = (y : Int)
  cm : civM (t / 86400) = (mo : Int)
  cd : civD (t / 86400) = (d : Int)
  hdi : di ≤ 6
  hd0 : 1 ≤ d
  hd1 : d ≤ 31
  hm0 : 1 ≤ mo
  hm1 : mo ≤ 12
  hy0 : 1970 ≤ y
  hy1 : y ≤ 9999
  hh : h < 24
  hmi : mi < 60
  hs : s < 60
  et : t % 86400 = (h : Int) * 3600 + mi * 60 + s
theorem civ_years {n : Int} (h0 : 0 ≤ n) (h1 : n ≤ 2932896) : 1970 ≤ civY n ∧ civY n ≤ 9999 := by
  obtain ⟨ok, e⟩ := civ_ok h0
  obtain ⟨a, b⟩ := ok.year
  constructor
  · rcases Int.lt_or_le (civY n) 1970 with h | h
    · have := dn_mono_y (1970 - (civY n + 1)).toNat (civY n + 1)
      rw [show civY n + 1 + ((1970 - (civY n + 1)).toNat : Int) = 1970 by omega, dn_1970] at this
      omega
    · exact h
  · rcases Int.lt_or_le 9999 (civY n) with h | h
    · have := dn_mono_y (civY n - 10000).toNat 10000
      rw [show 10000 + ((civY n - 10000).toNat : Int) = civY n by omega, dn_10000] at this
      omega
    · exact h
theorem parts_of {t : Int} (h0 : 0 ≤ t) (h1 : t ≤ 253402300799) : ∃ di d mo y h mi s, Parts t di d mo y h mi s := by
  have hn0 : 0 ≤ t / 86400 := by omega
  have hn1 : t / 86400 ≤ 2932896 := by omega
  obtain ⟨ok, e⟩ := civ_ok hn0
  obtain ⟨y0, y1⟩ := civ_years hn0 hn1
  have md1 := (md_pos (civY (t / 86400)) (civM (t / 86400))).2
  obtain ⟨m0, m1, d0, d1⟩ := ok
  have hb : ¬ (t < 0 ∨ 253402300799 < t) := by omega
  have hdv : dayV t = (t / 86400 + 4) % 7 := if_neg hb
  obtain ⟨di, hdi⟩ := Int.eq_ofNat_of_zero_le (show 0 ≤ dayV t by rw [hdv]; omega)
  obtain ⟨d, hd⟩ := Int.eq_ofNat_of_zero_le (show 0 ≤ civD (t / 86400) by omega)
  obtain ⟨mo, hmo⟩ := Int.eq_ofNat_of_zero_le (show 0 ≤ civM (t / 86400) by omega)
  obtain ⟨y, hy⟩ := Int.eq_ofNat_of_zero_le (show 0 ≤ civY (t / 86400) by omega)
  obtain ⟨h, hh⟩ := Int.eq_ofNat_of_zero_le (show 0 ≤ t % 86400 / 3600 by omega)
  obtain ⟨mi, hmi⟩ := Int.eq_ofNat_of_zero_le (show 0 ≤ t % 86400 / 60 % 60 by omega)
  obtain ⟨s, hs⟩ := Int.eq_ofNat_of_zero_le (show 0 ≤ t % 86400 % 60 by omega)
  refine ⟨di, d, mo, y, h, mi, s, hdi, ?_, hy, hmo, hd, by omega, by omega, by omega, by omega, by omega, by omega, by omega, by omega, by omega, by omega, by omega⟩
  unfold civA
  rw [if_neg hb, hy, hmo, hd, hh, hmi, hs]
theorem dayE_ok {t : Int} (h0 : 0 ≤ t) (h1 : t ≤ 253402300799) : dayE t = 0 := if_neg (by omega)
theorem dayE_bad {t : Int} (h : ¬ (0 ≤ t ∧ t ≤ 253402300799)) : dayE t = 130 := if_pos (by omega)
def showL (t : Int) : List UInt8 := if 0 ≤ t ∧ t ≤ 253402300799 then shB (dayV t).toNat (civD (t / 86400)).toNat (civM (t / 86400)).toNat (civY (t / 86400)).toNat (t % 86400 / 3600).toNat (t % 86400 / 60 % 60).toNat (t % 86400 % 60).toNat else []
theorem Parts.show_ {t : Int} {di d mo y h mi s : Nat} (P : Parts t di d mo y h mi s) (h0 : 0 ≤ t) (h1 : t ≤ 253402300799) : showL t = shB di d mo y h mi s := by
  unfold showL
  have hh := P.hh
  have hmi := P.hmi
  have hs := P.hs
  have ht := P.et
  rw [if_pos ⟨h0, h1⟩, P.edi, P.cd, P.cm, P.cy]
  rw [show (t % 86400 / 3600).toNat = h by omega, show (t % 86400 / 60 % 60).toNat = mi by omega, show (t % 86400 % 60).toNat = s by omega]
  rfl
end Go.Proofs.YtdkhoiahmjadnaaGreatDoor
