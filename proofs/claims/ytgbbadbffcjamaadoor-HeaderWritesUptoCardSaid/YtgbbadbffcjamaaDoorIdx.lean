/-
  bytes.IndexByte at a slice that reads as a list of bytes, whatever its address; over any program. No condition.
-/
import Derived.Test.YtgbbadbffcjamaaDoorLib
import Derived.Shelf.Lays
import Derived.Lib.Strings
import Derived.Lib.Walk
import Derived.WalkKit
import Derived.Lib.BytesEntry
import Derived.Lib.IndexLaws
namespace Go.Proofs.YtgbbadbffcjamaaDoor
open Go.RowKit Go.Shelf
set_option linter.unusedVariables false
theorem bytesOf_bt (l : List UInt8) : Lib.bytesOf (l.map fun c => (c.toNat : Int)) = l := by
  unfold Lib.bytesOf
  rw [List.map_map]
  have : ((fun z : Int => z.toNat.toUInt8) ∘ fun c : UInt8 => (c.toNat : Int)) = id := by
    funext c
    simp
  first
  | (rw [this, List.map_id])
  | simp
theorem run_indexByteRB {P : Program} {w : World} {B : Nat} {A : Option Addr} {l : List UInt8} (h : RB w B A l) (n c : Nat) (hn : n = l.length) (cv : Int) :
    (Extern.BytealgIndexByte.indexByte #[.slice A n c, .int .u8 cv]).run P w = .ok (.int .i64 (Lib.indexByte l cv.toNat.toUInt8)) w := by
  subst hn
  rcases h with rfl | ⟨b, off, rfl, hb, hc⟩
  · rcases A with _ | a
    · exact Lib.run_indexByteNil w 0 c cv
    · have hl := Lib.run_loadBytesX (P := P) w [] a .empty (fun j x hj => by simp at hj)
      have hs := Lib.run_indexByteNil (P := P) w 0 c cv
      change Sem.run P (do
        let b ← Extern.Bytes.bytesOf (.slice (some a) 0 c)
        let c ← Extern.Bytes.asByte (.int .u8 cv)
        match (List.range b.size).find? fun i => b[i]! == c with
        | some i => pure (goInt i)
        | none => pure (goInt (-1))) w = _
      change Sem.run P (do
        let b ← Extern.Bytes.bytesOf (.slice none 0 c)
        let c ← Extern.Bytes.asByte (.int .u8 cv)
        match (List.range b.size).find? fun i => b[i]! == c with
        | some i => pure (goInt i)
        | none => pure (goInt (-1))) w = _ at hs
      simp only [List.length_nil, Lib.bytesOf, List.map_nil, Array.append_empty] at hl
      simp only [Extern.Bytes.bytesOf, Sem.run_bind, Sem.run_pure, hl, Result.andThen] at hs ⊢
      exact hs
  · have := Lib.run_indexByteSlice (P := P) w b off l.length c (l.map fun c => (c.toNat : Int)) (by simp) (fun i hi => by
      rw [hc i hi, bt_getElem hi]
      simp [List.getD_eq_getElem?_getD, hi]) cv
    rw [bytesOf_bt] at this
    exact this
variable {P : Program} {ρ : Ren}
set_option maxHeartbeats 1000000 in
set_option maxRecDepth 100000 in
theorem Any.bytes_IndexByteRB (L : Lays.n187 P ρ) {w : World} {B : Nat} {A : Option Addr} {l : List UInt8} (h : RB w B A l) (n c : Nat) (hn : n = l.length) (cv : Int) :
    Calls P (ρ.f 187) #[.slice A n c, .int .u8 cv] w fun e w' => e = .returned (.int .i64 (Lib.indexByte l cv.toNat.toUInt8)) ∧ w = w' := by
  subst hn
  have t3 := L.t3; have t5 := L.t5; have t37 := L.t37
  have a3 := L.a3; have a5 := L.a5; have a37 := L.a37
  have mixed := L.mixed; have z3 := L.z3; have v3 := L.v3; have z5 := L.z5; have v5 := L.v5; have z37 := L.z37; have v37 := L.v37
  have H := Lib.hid (run_indexByteRB (P := P) h _ c rfl cv)
  go_enter L.f187, Body.n187_ntmps ρ
  go_wp2
  rw [run_callFunc_extern L.f255 (by kernel_rfl) (by kernel_rfl) (by kernel_rfl) (e := Extern.BytealgIndexByte.indexByte) (by kernel_rfl), H.out]
  simp only [Result.andThen]
  rw [Oper.upon_value]
  go_wp2
  go_ret
  exact ⟨rfl, rfl⟩
end Go.Proofs.YtgbbadbffcjamaaDoor
