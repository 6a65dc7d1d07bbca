/-
  The walk of waybilllaw05's shown. No condition.
-/
import Derived.Test.YtihhadgkcdkemaaDoorPOpen
import Derived.Lib.SlBytesConst
namespace Go.Proofs.YtihhadgkcdkemaaDoor
open Go.RowKit Go.Maps
set_option linter.unusedVariables false
theorem SendPost.get {w w' : World} {own : Nat → Nat × Nat} {pb : Nat} {S S' : List Pq} {f t : ByteArray} {l : List UInt8} {e : Ending} {er : Int} (h : SendPost w own pb S f t l e w') (hs : sendQ S f t l = (S', er)) :
    ∃ own', PSt w' own' pb S' ∧ e = .returned (.int .i64 er) ∧ Turn isP w w' own own' := by
  unfold SendPost at h
  rw [hs] at h
  exact h
theorem OpenPost.get {w w' : World} {own : Nat → Nat × Nat} {pb : Nat} {S S' : List Pq} {f t : ByteArray} {most er : Int} {e : Ending} (h : OpenPost w own pb S f t most e w') (hs : openQ S f t most = (S', er)) :
    ∃ own', PSt w' own' pb S' ∧ Turn isP w w' own own' ∧ e = .returned (.int .i64 er) := by
  unfold OpenPost at h
  rw [hs] at h
  exact h
theorem TakePost.get {w w' : World} {own : Nat → Nat × Nat} {pb : Nat} {S S' : List Pq} {f t : ByteArray} {b : List UInt8} {er : Int} {e : Ending} (h : TakePost w own pb S f t e w') (hs : takeQ S f t = (S', b, er)) :
    ∃ own', PSt w' own' pb S' ∧ Turn isP w w' own own' ∧ ∃ A c, e = .returned (.tuple #[.slice A b.length c, .int .i64 er]) ∧ OwnV w' 0 (.slice A b.length c) b ∧
      ∀ k, msgBlk (.slice A b.length c) = some k → own' k = (0, 0) ∧ own k ≠ (0, 0) ∧ k < w'.heap.size := by
  unfold TakePost at h
  rw [hs] at h
  exact h
theorem isP0 : ¬ isP (0, 0) := fun h => by have := h.1; simp at this
/-- a slice that was taken stays as it is -/
theorem OwnV.turn {cl : Nat × Nat → Prop} {w w' : World} {own own' : Nat → Nat × Nat} {v : Value} {l : List UInt8} (h : OwnV w 0 v l) (ht : Turn cl w w' own own') (hc : ¬ cl (0, 0)) (hk : ∀ k, msgBlk v = some k → own k = (0, 0) ∧ k < w.heap.size) :
    OwnV w' 0 v l ∧ ∀ k, msgBlk v = some k → own' k = (0, 0) ∧ k < w'.heap.size :=
  ⟨h.sameB ht.size fun g hg => ht.block g (hk g hg).2 (by rw [(hk g hg).1]; exact hc), fun k h2 => ⟨by rw [ht.mark k (hk k h2).2 (by rw [(hk k h2).1]; exact hc)]; exact (hk k h2).1, Nat.lt_of_lt_of_le (hk k h2).2 ht.size⟩⟩
theorem PSt.alloc {w : World} {own : Nat → Nat × Nat} {pb : Nat} {S : List Pq} (h : PSt w own pb S) (o : Obj) : PSt (w.alloc o) own pb S := h.below ((Below.refl _ _).alloc (Nat.le_refl _) o)
theorem Turn.alloc {cl : Nat × Nat → Prop} {w w' : World} {own own' : Nat → Nat × Nat} (h : Turn cl w w' own own') (o : Obj) : Turn cl w (w'.alloc o) own own' := h.trans (Turn.of_below ((Below.refl _ _).alloc (Nat.le_refl _) o) fun _ _ => rfl)
def S1 (l : List (List UInt8)) : List Pq := [⟨⟨#[115, 109, 116, 112, 100]⟩, ⟨#[99, 108, 101, 97, 110, 117, 112]⟩, 1, l⟩]
theorem o1 : openQ [] ⟨#[115, 109, 116, 112, 100]⟩ ⟨#[99, 108, 101, 97, 110, 117, 112]⟩ 1 = (S1 [], 0) := by
  unfold openQ
  rw [if_neg (by decide +kernel), if_neg (by decide)]
  rfl
theorem o2 : openQ (S1 []) ⟨#[115, 109, 116, 112, 100]⟩ ⟨#[99, 108, 101, 97, 110, 117, 112]⟩ 2 = (S1 [], 50) := by
  unfold openQ
  rw [if_pos (by decide +kernel)]
theorem o3 : openQ (S1 []) ⟨#[120]⟩ ⟨#[120]⟩ 1 = (S1 [], 50) := by
  unfold openQ
  rw [if_pos (by decide +kernel)]
theorem i1 (l : List (List UInt8)) : idxQ ⟨#[115, 109, 116, 112, 100]⟩ ⟨#[99, 108, 101, 97, 110, 117, 112]⟩ (S1 l) = some 0 := by
  unfold S1 idxQ
  rw [if_pos ⟨rfl, rfl⟩]
theorem i2 (l : List (List UInt8)) : idxQ ⟨#[99, 108, 101, 97, 110, 117, 112]⟩ ⟨#[115, 109, 116, 112, 100]⟩ (S1 l) = none := by
  unfold S1 idxQ
  rw [if_neg (fun h => absurd (show (⟨#[115, 109, 116, 112, 100]⟩ : ByteArray) = ⟨#[99, 108, 101, 97, 110, 117, 112]⟩ from h.1) (by decide))]
  rfl
theorem s1 : sendQ (S1 []) ⟨#[115, 109, 116, 112, 100]⟩ ⟨#[99, 108, 101, 97, 110, 117, 112]⟩ [97] = (S1 [[97]], 0) := by
  unfold sendQ; rw [i1]; rfl
theorem s2 : sendQ (S1 [[97]]) ⟨#[115, 109, 116, 112, 100]⟩ ⟨#[99, 108, 101, 97, 110, 117, 112]⟩ [98] = (S1 [[97]], 51) := by
  unfold sendQ; rw [i1]; rfl
theorem s3 : sendQ (S1 []) ⟨#[99, 108, 101, 97, 110, 117, 112]⟩ ⟨#[115, 109, 116, 112, 100]⟩ [97] = (S1 [], 52) := by
  unfold sendQ; rw [i2]
theorem k1 : takeQ (S1 [[97]]) ⟨#[115, 109, 116, 112, 100]⟩ ⟨#[99, 108, 101, 97, 110, 117, 112]⟩ = (S1 [], [97], 0) := by
  unfold takeQ; rw [i1]; rfl
theorem k2 : takeQ (S1 []) ⟨#[115, 109, 116, 112, 100]⟩ ⟨#[99, 108, 101, 97, 110, 117, 112]⟩ = (S1 [], [], 54) := by
  unfold takeQ; rw [i1]; rfl
/-- a constant's row, behind its conversion -/
theorem RB.mark (w : World) (E : TypeId) (C : Array Value) (fr : Nat × Nat) (l : List UInt8) (hC : C.toList = Lib.byteCells l) : RB (w.alloc (.cells C E fr)) (w.alloc (.cells C E fr)).heap.size (some ⟨w.heap.size, 0, none⟩) l := by
  refine .inr ⟨w.heap.size, 0, rfl, by simp, fun i hi => ?_⟩
  rw [Nat.zero_add, World.cell?_alloc_mark w C E fr i, ← Array.getElem?_toList, hC, bt_getElem hi]
  simp [Lib.byteCells, hi]
set_option maxRecDepth 100000 in
set_option maxHeartbeats 2000000 in
theorem shown_walk (w : World) : Calls Tryd.prog 5 #[] w fun e w' => Below w.heap.size w w' ∧ e = .returned (.bool true) := by
  have K := Lib.hid (new_walk w fun _ => (0, 0))
  go_enter Tryd.func5, Tryd.ntmps5
  go_wp2_with fail
  with_reducible refine K.out.mono ?_
  rintro e1 w1 ⟨m1, pb, hP, hT, rfl⟩
  have hT1 := Lib.hid hT
  have hP1 := Lib.hid hP
  clear K hP hT
  have K1 := Lib.hid (open_walk w1 m1 pb _ hP1.out (by simp [S1]) ⟨#[115, 109, 116, 112, 100]⟩ ⟨#[99, 108, 101, 97, 110, 117, 112]⟩ (by decide) (by decide) 1 (by decide) (by decide))
  clear hP1
  go_wp2_with fail
  with_reducible refine K1.out.mono ?_
  rintro e2 w2 hp
  obtain ⟨m2, hP, hT, rfl⟩ := hp.get o1
  have hT2 := Lib.hid (hT1.out.trans hT)
  have hP2 := Lib.hid hP
  clear K1 hp hP hT hT1
  have hcv2 := Lib.run_convert_bytes_const (P := Tryd.prog) w2 30 5 #[.int .u8 97] 1 1 Tryd.underlying30 Tryd.underlying5
  have K2 := Lib.hid (send_walk (w2.alloc (.cells #[.int .u8 97] 5 (1, 2))) m2 pb _ (hP2.out.alloc _) ⟨#[115, 109, 116, 112, 100]⟩ ⟨#[99, 108, 101, 97, 110, 117, 112]⟩ (by decide) (by decide) (some ⟨w2.heap.size, 0, none⟩) [97] 1 1 rfl (RB.mark w2 5 #[.int .u8 97] (1, 2) [97] rfl) (fun h => by cases h) (by decide))
  clear hP2
  go_wp2_with fail
  with_reducible refine K2.out.mono ?_
  rintro e3 w3 hp
  obtain ⟨m3, hP, rfl, hT⟩ := hp.get s1
  have hT3 := Lib.hid ((hT2.out.alloc (.cells #[.int .u8 97] 5 (1, 2))).trans hT)
  have hP3 := Lib.hid hP
  clear K2 hp hP hT hT2 hcv2
  have hcv3 := Lib.run_convert_bytes_const (P := Tryd.prog) w3 30 5 #[.int .u8 98] 1 1 Tryd.underlying30 Tryd.underlying5
  have K3 := Lib.hid (send_walk (w3.alloc (.cells #[.int .u8 98] 5 (1, 2))) m3 pb _ (hP3.out.alloc _) ⟨#[115, 109, 116, 112, 100]⟩ ⟨#[99, 108, 101, 97, 110, 117, 112]⟩ (by decide) (by decide) (some ⟨w3.heap.size, 0, none⟩) [98] 1 1 rfl (RB.mark w3 5 #[.int .u8 98] (1, 2) [98] rfl) (fun h => by cases h) (by decide))
  clear hP3
  go_wp2_with fail
  with_reducible refine K3.out.mono ?_
  rintro e4 w4 hp
  obtain ⟨m4, hP, rfl, hT⟩ := hp.get s2
  have hT4 := Lib.hid ((hT3.out.alloc (.cells #[.int .u8 98] 5 (1, 2))).trans hT)
  have hP4 := Lib.hid hP
  clear K3 hp hP hT hT3 hcv3
  have K4 := Lib.hid (take_walk w4 m4 pb _ hP4.out ⟨#[115, 109, 116, 112, 100]⟩ ⟨#[99, 108, 101, 97, 110, 117, 112]⟩ (by decide) (by decide))
  clear hP4
  go_wp2_with fail
  with_reducible refine K4.out.mono ?_
  rintro e5 w5 hp
  obtain ⟨m5, hP, hT, A5, c5, rfl, hV, hk⟩ := hp.get k1
  have hT5 := Lib.hid (hT4.out.trans hT)
  have hP5 := Lib.hid hP
  have hV5 := Lib.hid (And.intro hV (fun k h => (⟨(hk k h).1, (hk k h).2.2⟩ : m5 k = (0, 0) ∧ k < w5.heap.size)))
  clear K4 hp hP hT hT4 hV hk
  have K5 := Lib.hid (take_walk w5 m5 pb _ hP5.out ⟨#[115, 109, 116, 112, 100]⟩ ⟨#[99, 108, 101, 97, 110, 117, 112]⟩ (by decide) (by decide))
  clear hP5
  go_wp2_with fail
  with_reducible refine K5.out.mono ?_
  rintro e6 w6 hp
  obtain ⟨m6, hP, hT, A6, c6, rfl, hV, hk⟩ := hp.get k2
  have hT6 := Lib.hid (hT5.out.trans hT)
  have hP6 := Lib.hid hP
  have hV6 := Lib.hid (OwnV.turn hV5.out.1 hT isP0 hV5.out.2)
  clear K5 hp hP hT hT5 hV hk
  have K6 := Lib.hid (open_walk w6 m6 pb _ hP6.out (by simp [S1]) ⟨#[115, 109, 116, 112, 100]⟩ ⟨#[99, 108, 101, 97, 110, 117, 112]⟩ (by decide) (by decide) 2 (by decide) (by decide))
  clear hP6
  go_wp2_with fail
  with_reducible refine K6.out.mono ?_
  rintro e7 w7 hp
  obtain ⟨m7, hP, hT, rfl⟩ := hp.get o2
  have hT7 := Lib.hid (hT6.out.trans hT)
  have hP7 := Lib.hid hP
  have hV7 := Lib.hid (OwnV.turn hV6.out.1 hT isP0 hV6.out.2)
  clear K6 hp hP hT hT6
  have K7 := Lib.hid (open_walk w7 m7 pb _ hP7.out (by simp [S1]) ⟨#[120]⟩ ⟨#[120]⟩ (by decide) (by decide) 1 (by decide) (by decide))
  clear hP7
  go_wp2_with fail
  with_reducible refine K7.out.mono ?_
  rintro e8 w8 hp
  obtain ⟨m8, hP, hT, rfl⟩ := hp.get o3
  have hT8 := Lib.hid (hT7.out.trans hT)
  have hP8 := Lib.hid hP
  have hV8 := Lib.hid (OwnV.turn hV7.out.1 hT isP0 hV7.out.2)
  clear K7 hp hP hT hT7
  have hcv8 := Lib.run_convert_bytes_const (P := Tryd.prog) w8 30 5 #[.int .u8 97] 1 1 Tryd.underlying30 Tryd.underlying5
  have K8 := Lib.hid (send_walk (w8.alloc (.cells #[.int .u8 97] 5 (1, 2))) m8 pb _ (hP8.out.alloc _) ⟨#[99, 108, 101, 97, 110, 117, 112]⟩ ⟨#[115, 109, 116, 112, 100]⟩ (by decide) (by decide) (some ⟨w8.heap.size, 0, none⟩) [97] 1 1 rfl (RB.mark w8 5 #[.int .u8 97] (1, 2) [97] rfl) (fun h => by cases h) (by decide))
  clear hP8
  go_wp2_with fail
  with_reducible refine K8.out.mono ?_
  rintro e9 w9 hp
  obtain ⟨m9, hP, rfl, hT⟩ := hp.get s3
  have hT9 := Lib.hid ((hT8.out.alloc (.cells #[.int .u8 97] 5 (1, 2))).trans hT)
  have hP9 := Lib.hid hP
  have hVa := OwnV.turn hV8.out.1 (Turn.of_below (cl := isP) ((Below.refl _ _).alloc (Nat.le_refl _) (.cells #[.int .u8 97] 5 (1, 2))) fun k _ => rfl) isP0 hV8.out.2
  have hV9 := Lib.hid (OwnV.turn hVa.1 hT isP0 hVa.2)
  clear hVa
  clear K8 hp hP hT hT8 hcv8
  have hq := run_convRB (P := Tryd.prog) 30 9 5 Tryd.underlying30 Tryd.underlying5 Tryd.underlying9 hV9.out.1.sl.2.2.2 1 c5 rfl
  clear hV5 hV6 hV7 hV8 hV9
  go_wp2
  go_ret
  exact ⟨hT9.out.below (Nat.le_refl _) (fun _ _ => rfl) isP0, rfl⟩
end Go.Proofs.YtihhadgkcdkemaaDoor
