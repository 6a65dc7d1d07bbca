/-
  The walk of waybillref13's two. No condition but the number's bounds.
-/
import Derived.Test.YtdkhoiahmjadnaaGreatDoorPad
import Derived.Test.YtdkhoiahmjadnaaGreatDoorApp
namespace Go.Proofs.YtdkhoiahmjadnaaGreatDoor
open Go.RowKit Go.Sort
set_option linter.unusedVariables false

theorem cvRB {w : World} {B : Nat} {A : Option Addr} {l : List UInt8} (h : RB w B A l) (n c : Nat) (hn : n = l.length) :
    (convert 35 9 (.slice A n c)).run Tryz.prog w = .ok (.string ⟨l.toArray⟩) w :=
  run_convRB (P := Tryz.prog) 35 9 5 Tryz.underlying35 Tryz.underlying5 Tryz.underlying9 h n c hn
theorem dg_nat {k : Nat} (h : k < 10) : ((dg k).toNat : Int) = 48 + (k : Int) := by
  unfold dg
  rw [UInt8.toNat_ofNat']
  omega
theorem two_walk (n : Nat) (hn : n < 100) (w : World) : Calls Tryz.prog 24 #[.int .i64 (n : Int)] w fun e w' => Below w.heap.size w w' ∧ e = .returned (.string ⟨(dig2 n).toArray⟩) := by
  have hr : RB (w.alloc (.cells #[.int .u8 (48 + (n : Int) / 10), .int .u8 (48 + (n : Int) % 10)] 5)) (w.heap.size + 1) (some ⟨w.heap.size, 0, none⟩) (dig2 n) := by
    have e1 := dg_nat (k := n / 10) (by omega)
    have e2 := dg_nat (k := n % 10) (by omega)
    refine (Blk.new w _ _).rb 0 ?_ (by omega)
    unfold dig2 Lib.byteCells
    simp only [List.drop_zero, List.map_cons, List.map_nil]
    rw [e1, e2]
    rfl
  have hcv := cvRB hr 2 2 rfl
  have h0 : (0 : Int) ≤ (n : Int) := by omega
  have h1 : (n : Int) < 100 := by omega
  clear hr
  go_enter Tryz.func24, Tryz.ntmps24
  go_wp2
  go_ret
  exact ⟨(Below.refl _ _).alloc (Nat.le_refl _) _, rfl⟩
end Go.Proofs.YtdkhoiahmjadnaaGreatDoor
