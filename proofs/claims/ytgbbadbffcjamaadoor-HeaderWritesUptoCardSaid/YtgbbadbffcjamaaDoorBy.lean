/-
  bytes.Index at one byte, bytes.Cut, CutPrefix, CutSuffix at slices that read as lists; over any program. No condition but the sizes.
-/
import Derived.Test.YtgbbadbffcjamaaDoorIdx
import Derived.Test.YtgbbadbffcjamaaDoorBelowQ
import Derived.Test.YtgbbadbffcjamaaDoorBlk
import Derived.Shelf.Bytes.SlCut
import Derived.Shelf.Bytes.SlSmallAll
namespace Go.Proofs.YtgbbadbffcjamaaDoor
open Go.RowKit Go.Shelf
set_option linter.unusedVariables false
/-- the numbers of bytes -/
def nums (l : List UInt8) : List Int := l.map fun c => (c.toNat : Int)
theorem nums_len (l : List UInt8) : (nums l).length = l.length := by simp [nums]
theorem bytesOf_nums (l : List UInt8) : Lib.bytesOf (nums l) = l := bytesOf_bt l
theorem nums_rng (l : List UInt8) : ∀ x ∈ nums l, 0 ≤ x ∧ x < 256 := by
  intro x hx
  obtain ⟨c, _, rfl⟩ := List.mem_map.1 hx
  have := c.toNat_lt
  omega
theorem nums_getD (l : List UInt8) {i : Nat} (h : i < l.length) : (nums l).getD i 0 = bt l i := by
  rw [bt_getElem h]; simp [nums, List.getD_eq_getElem?_getD, h]
theorem RB.bytesIn {w : World} {B : Nat} {A : Option Addr} {l : List UInt8} (h : RB w B A l) : Lib.BytesIn w A l.length (nums l) := fun hn => by
  obtain ⟨b, off, rfl, _, hc⟩ := h.at_ hn
  exact ⟨b, off, rfl, fun i hi => by rw [hc i hi, nums_getD l hi]⟩
variable {P : Program} {ρ : Ren}
set_option maxHeartbeats 2000000 in
set_option maxRecDepth 1000000 in
theorem Any.bytes_Index_oneRB (L : Lays.n185 P ρ) {w : World} {B : Nat} {A : Option Addr} {l : List UInt8} (h : RB w B A l) (c b2 o2 d : Nat) (cv : Int) (hc2 : w.cell? ⟨b2, o2, none⟩ = some (.int .u8 cv)) :
    Calls P (ρ.f 185) #[.slice A l.length c, .slice (some ⟨b2, o2, none⟩) 1 d] w fun e w' => e = .returned (.int .i64 (Lib.indexByte l cv.toNat.toUInt8)) ∧ w' = w := by
  have mixed := L.mixed; have t0 := L.t0; have a0 := L.a0; have z0 := L.z0; have v0 := L.v0; have t3 := L.t3; have a3 := L.a3; have z3 := L.z3; have v3 := L.v3; have t4 := L.t4; have a4 := L.a4; have z4 := L.z4; have v4 := L.v4; have t5 := L.t5; have a5 := L.a5; have z5 := L.z5; have v5 := L.v5; have t9 := L.t9; have a9 := L.a9; have z9 := L.z9; have v9 := L.v9; have t37 := L.t37; have a37 := L.a37; have z37 := L.z37; have v37 := L.v37; have t46 := L.t46; have a46 := L.a46; have z46 := L.z46; have v46 := L.v46; have t51 := L.t51; have a51 := L.a51; have z51 := L.z51; have v51 := L.v51; have t146 := L.t146; have a146 := L.a146; have z146 := L.z146; have v146 := L.v146; have g1 := L.g1
  have e187 : ∀ args w, (callFunc (ρ.f 187) args).run P w = .ok (.enter (ρ.f 187) args) w := enters_of L.f187 (by kernel_rfl) rfl
  have hcon := Any.bytes_IndexByteRB (P := P) (ρ := ρ) { L with } h l.length c rfl cv
  have HL := Lib.hid h
  clear h
  generalize hn : l.length = n at *
  generalize Lib.indexByte l cv.toNat.toUInt8 = r at *
  clear hn HL
  go_enter L.f185, Body.n185_ntmps ρ
  go_wp2_with (go_at_fn (ρ.f 187); refine hcon.mono ?_; rintro e w' ⟨rfl, rfl⟩)
  go_ret
  exact ⟨rfl, rfl⟩
theorem idxB_index (l : List UInt8) (c : UInt8) : Lib.indexByte l c = Lib.index l [c] := (Lib.index_one l c).symm
end Go.Proofs.YtgbbadbffcjamaaDoor
