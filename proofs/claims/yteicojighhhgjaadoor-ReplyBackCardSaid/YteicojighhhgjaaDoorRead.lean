/-
  The walk of reply.cut. No condition but the sizes that the form gives.
-/
import Derived.Test.YteicojighhhgjaaDoorLine
import Derived.Test.YteicojighhhgjaaDoorIdx
namespace Go.Proofs.YteicojighhhgjaaDoor
open Go.RowKit Go.Sort
set_option linter.unusedVariables false

/-- what cut answers -/
def cutS (l : List UInt8) : List UInt8 := if eol l < 0 then [] else l.take ((eol l).toNat + 1)
def cutE (l : List UInt8) : Int := if eol l < 0 then short l else 0

set_option maxHeartbeats 1000000 in
theorem cut_walk {B : Nat} (A : Option Addr) (l : List UInt8) (cp : Nat) (w : World) (h : RB w B A l) (hl : l.length ≤ cp) (hc : cp ≤ maxLen) :
    Calls Tryd.prog 30 #[.slice A l.length cp] w fun e w' => w = w' ∧ e = .returned (.tuple #[.string ⟨(cutS l).toArray⟩, .int .i64 (cutE l)]) := by
  unfold maxLen at hc
  have hmn : (min (l.length : Int) 512).toNat = (l.take 512).length := by rw [List.length_take]; omega
  have hix := Any.bytes_IndexByteRB Tryd.lays187 (h.take 512) (min (l.length : Int) 512).toNat cp hmn 10
  rw [show Lib.indexByte (l.take 512) ((10 : Int).toNat.toUInt8) = eol l from rfl] at hix
  have HIX := Lib.hid hix
  have hge := eol_ge l
  have hS : Hid (eol l < 0 → cutS l = [] ∧ cutE l = short l) := Lib.hid fun he => ⟨by unfold cutS; rw [if_pos he], by unfold cutE; rw [if_pos he]⟩
  have hF : Hid (¬ eol l < 0 → cutS l = fst l ∧ cutE l = 0) := Lib.hid fun he => ⟨by unfold cutS; rw [if_neg he]; rfl, by unfold cutE; rw [if_neg he]⟩
  have hA : Hid (¬ eol l < 0 → (eol l).toNat < l.length) := Lib.hid fun he => (eol_at he).2.1
  have hB : Hid (∀ z : Int, eol l = z → fst l = l.take (z.toNat + 1)) := Lib.hid fun z hz => by subst hz; rfl
  clear hix hmn
  by_cases he : eol l < 0
  · obtain ⟨hs1, hs2⟩ := hS.out he
    have he1 : eol l = -1 := by omega
    rw [hs1, hs2]
    rw [he1] at HIX
    clear hS hF hA hB hs1 hs2 he he1 hge
    by_cases h5 : 512 ≤ l.length
    · have h6 : ((((min (l.length : Int) 512).toNat : Nat) : Int) == 512) = true := beq_iff_eq.2 (by omega)
      have h8 : short l = 142 := by unfold short; rw [if_pos h5]
      rw [h8]
      clear h8
      go_enter Tryd.func30, Tryd.ntmps30
      go_wp2_with fail
      refine HIX.out.mono ?_
      rintro e w' ⟨rfl, rfl⟩
      go_wp2
      all_goals
        go_ret2
        exact ⟨rfl, rfl⟩
    · have h6 : ((((min (l.length : Int) 512).toNat : Nat) : Int) == 512) = false := beq_eq_false_iff_ne.2 (by omega)
      have h8 : short l = 140 := by unfold short; rw [if_neg h5]
      rw [h8]
      clear h8
      go_enter Tryd.func30, Tryd.ntmps30
      go_wp2_with fail
      refine HIX.out.mono ?_
      rintro e w' ⟨rfl, rfl⟩
      go_wp2
      all_goals
        go_ret2
        exact ⟨rfl, rfl⟩
  · obtain ⟨hs1, hs2⟩ := hF.out he
    have hlt := hA.out he
    obtain ⟨z, hz⟩ : ∃ z, eol l = z := ⟨_, rfl⟩
    have hf := hB.out z hz
    rw [hs1, hs2, hf]
    rw [hz] at HIX he hlt
    have hz0 : 0 ≤ z := by omega
    have hz1 : z + 1 ≤ (l.length : Int) := by omega
    have hz2 : z + 1 ≤ (cp : Int) := by omega
    have hcv := run_convRB (P := Tryd.prog) 27 9 5 Tryd.underlying27 Tryd.underlying5 Tryd.underlying9 (h.take (z.toNat + 1)) (z + 1).toNat cp (by rw [List.length_take]; omega)
    clear hS hF hA hB hs1 hs2 he hge hz hf hlt
    go_enter Tryd.func30, Tryd.ntmps30
    go_wp2_with fail
    refine HIX.out.mono ?_
    rintro e w' ⟨rfl, rfl⟩
    go_wp2
    all_goals
      go_ret2
      exact ⟨rfl, rfl⟩
end Go.Proofs.YteicojighhhgjaaDoor
