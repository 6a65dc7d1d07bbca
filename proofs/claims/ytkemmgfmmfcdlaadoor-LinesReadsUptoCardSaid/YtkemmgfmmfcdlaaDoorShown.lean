/-
  The walk of the document's examples. It asks what the library's tables hold.
-/
import Derived.Test.YtkemmgfmmfcdlaaDoorPStuff
import Derived.Test.YtkemmgfmmfcdlaaDoorPNext
import Derived.Test.YtkemmgfmmfcdlaaDoorDot
namespace Go.Proofs.YtkemmgfmmfcdlaaDoor
open Go.RowKit
set_option linter.unusedVariables false
theorem NextPost.some_ {T : TypeId} {w w' : World} {base p : Nat} {own : Option Nat} {most : Nat} {l y : List UInt8} {r : List UInt8 × Int} {e : Ending} (h : NextPost T w base p own most l e w') (hs : nextP most l = some (r, y)) :
    ∃ A c own', e = .returned (.tuple #[.slice A r.1.length c, .int .i64 r.2, .bool true]) ∧ OwnV w' w.heap.size (.slice A r.1.length c) r.1 ∧ Chg p none w w' ∧ Rd w' T base p own' most y := by
  rcases h with ⟨h, _⟩ | ⟨r', y', v, own', h, he, hv, hc, hr, _⟩
  · rw [hs] at h; cases h
  · rw [hs] at h
    injection h with h
    injection h with h1 h2
    subst h1 h2
    obtain ⟨A, c, rfl, _⟩ := hv.out
    exact ⟨A, c, own', he, hv, hc, hr⟩
theorem NextPost.none_ {T : TypeId} {w w' : World} {base p : Nat} {own : Option Nat} {most : Nat} {l : List UInt8} {e : Ending} (h : NextPost T w base p own most l e w') (hs : nextP most l = none) :
    e = .returned (.tuple #[.slice none 0 0, .int .i64 0, .bool false]) ∧ Below w.heap.size w w' ∧ Rd w' T base p own most l := by
  rcases h with ⟨_, h1, h2, h3⟩ | ⟨r', y', v, own', h, _⟩
  · exact ⟨h1, h2, h3⟩
  · rw [hs] at h; cases h
theorem ex_n1 : nextP 4 [97, 98, 13, 10, 99, 10, 97, 98, 99, 100, 101, 13, 10, 120] = some (([97, 98], 0), [99, 10, 97, 98, 99, 100, 101, 13, 10, 120]) := by decide +kernel
theorem ex_n2 : nextP 4 [99, 10, 97, 98, 99, 100, 101, 13, 10, 120] = some (([99], 121), [97, 98, 99, 100, 101, 13, 10, 120]) := by decide +kernel
theorem ex_n3 : nextP 4 [97, 98, 99, 100, 101, 13, 10, 120] = some (([97, 98, 99, 100], 120), [120]) := by decide +kernel
theorem ex_n4 : nextP 4 [120] = none := by decide +kernel
theorem ex_s1 : contP [46, 97, 13, 10] = 0 ∧ stuffP [46, 97, 13, 10] = [46, 46, 97, 13, 10, 46, 13, 10] := by decide +kernel
theorem ex_s2 : contP [97] = 121 := by decide +kernel
theorem ex_d : dotP [46] = ([], true) := by decide +kernel
theorem OwnV.conv {w : World} {base n c : Nat} {A : Option Addr} {l : List UInt8} (h : OwnV w base (.slice A n c) l) : (convert 32 9 (.slice A n c)).run Tryd.prog w = .ok (.string ⟨l.toArray⟩) w := by
  obtain ⟨h1, _, _, h2⟩ := h.sl
  exact run_convRB (P := Tryd.prog) 32 9 5 Tryd.underlying32 Tryd.underlying5 Tryd.underlying9 h2 n c h1
set_option maxRecDepth 1000000 in
set_option maxHeartbeats 8000000 in
theorem shown_walk (w : World) (hT : TabsL w.heap.size w) : Calls Tryd.prog 7 #[] w fun e w' => Below w.heap.size w w' ∧ e = .returned (.bool true) := by
  have HT := Lib.hid hT
  clear hT
  go_enter Tryd.func7, Tryd.ntmps7
  go_wp2_with fail
  refine (new_ok 4 w w.heap.size (Nat.le_refl _) (by decide) (by decide)).mono ?_
  rintro e1 w1 ⟨rfl, hb1, hR1, hs1⟩
  have HR1 := Lib.hid hR1
  have HB1 := Lib.hid hb1
  have HS1 : Hid (w.heap.size < w1.heap.size) := Lib.hid (by omega)
  clear hR1 hb1 hs1
  have hcv1 := Lib.run_convert_bytes_const (P := Tryd.prog) w1 32 5 #[.int .u8 97, .int .u8 98, .int .u8 13, .int .u8 10, .int .u8 99, .int .u8 10, .int .u8 97, .int .u8 98, .int .u8 99, .int .u8 100, .int .u8 101, .int .u8 13, .int .u8 10, .int .u8 120] 14 14 Tryd.underlying32 Tryd.underlying5
  have b1 := (Below.refl w1.heap.size w1).alloc (Nat.le_refl _) (.cells #[.int .u8 97, .int .u8 98, .int .u8 13, .int .u8 10, .int .u8 99, .int .u8 10, .int .u8 97, .int .u8 98, .int .u8 99, .int .u8 100, .int .u8 101, .int .u8 13, .int .u8 10, .int .u8 120] 5 (14, 15))
  have r1 := Lib.hid (RB.mark w1 5 #[.int .u8 97, .int .u8 98, .int .u8 13, .int .u8 10, .int .u8 99, .int .u8 10, .int .u8 97, .int .u8 98, .int .u8 99, .int .u8 100, .int .u8 101, .int .u8 13, .int .u8 10, .int .u8 120] (14, 15) [97, 98, 13, 10, 99, 10, 97, 98, 99, 100, 101, 13, 10, 120] rfl)
  have BB1 := Lib.hid b1
  go_wp2_with fail
  have HRa := Lib.hid (HR1.out.below BB1.out)
  have HBa := Lib.hid (HB1.out.trans (BB1.out.mono HB1.out.size))
  have hra := Lib.hid (r1.out.mono (B' := (w1.alloc (.cells #[.int .u8 97, .int .u8 98, .int .u8 13, .int .u8 10, .int .u8 99, .int .u8 10, .int .u8 97, .int .u8 98, .int .u8 99, .int .u8 100, .int .u8 101, .int .u8 13, .int .u8 10, .int .u8 120] 5 (14, 15))).heap.size) (by simp))
  clear hcv1 b1 r1
  generalize (w1.alloc (.cells #[.int .u8 97, .int .u8 98, .int .u8 13, .int .u8 10, .int .u8 99, .int .u8 10, .int .u8 97, .int .u8 98, .int .u8 99, .int .u8 100, .int .u8 101, .int .u8 13, .int .u8 10, .int .u8 120] 5 (14, 15))) = wa at *
  clear BB1 HR1 HB1
  refine (feed_walk wa w.heap.size w.heap.size none 4 [] (some ⟨w1.heap.size, 0, none⟩) [97, 98, 13, 10, 99, 10, 97, 98, 99, 100, 101, 13, 10, 120] 14 HRa.out hra.out HBa.out.size (by decide)).mono ?_
  rintro e2 w2 ⟨rfl, own2, hR2, hC2, -⟩
  have HB2 := Lib.hid (HBa.out.trans (hC2.below (Nat.le_refl _) (fun g hg => by cases hg) HBa.out.size))
  have HR2 : Hid (Rd w2 48 w.heap.size w.heap.size own2 4 [97, 98, 13, 10, 99, 10, 97, 98, 99, 100, 101, 13, 10, 120]) := Lib.hid hR2
  have HLT : Hid (w.heap.size < w2.heap.size) := Lib.hid (Nat.lt_of_lt_of_le (HRa.out.lt).2.1 hC2.size)
  clear hR2 hC2 hra HRa HBa HS1
  go_wp2_with fail
  refine (next_walk w2 w.heap.size w.heap.size own2 4 [97, 98, 13, 10, 99, 10, 97, 98, 99, 100, 101, 13, 10, 120] HR2.out HB2.out.size (by decide) (by decide)).mono ?_
  rintro e3 w3 hP3
  obtain ⟨A3, c3, own3, rfl, hV3, hC3, hR3⟩ := hP3.some_ ex_n1
  have HV3 := Lib.hid (hV3.mono (show w.heap.size + 1 ≤ w2.heap.size from HLT.out))
  have HB3 := Lib.hid (HB2.out.trans (hC3.below (Nat.le_refl _) (fun g hg => by cases hg) HB2.out.size))
  have HR3 := Lib.hid hR3
  have HLT : Hid (w.heap.size < w3.heap.size) := Lib.hid (Nat.lt_of_lt_of_le HLT.out hC3.size)
  clear hV3 hC3 hR3 hP3 HR2
  go_wp2_with fail
  refine (next_walk w3 w.heap.size w.heap.size own3 4 [99, 10, 97, 98, 99, 100, 101, 13, 10, 120] HR3.out HB3.out.size (by decide) (by decide)).mono ?_
  rintro e4 w4 hP4
  obtain ⟨A4, c4, own4, rfl, hV4, hC4, hR4⟩ := hP4.some_ ex_n2
  have HV4 := Lib.hid (hV4.mono (show w.heap.size + 1 ≤ w3.heap.size from HLT.out))
  have HB4 := Lib.hid (HB3.out.trans (hC4.below (Nat.le_refl _) (fun g hg => by cases hg) HB3.out.size))
  have HR4 := Lib.hid hR4
  have HV3 := Lib.hid (HV3.out.chg hC4 (Nat.lt_succ_self _) (fun g hg => by cases hg))
  have HLT : Hid (w.heap.size < w4.heap.size) := Lib.hid (Nat.lt_of_lt_of_le HLT.out hC4.size)
  clear hV4 hC4 hR4 hP4 HR3
  go_wp2_with fail
  refine (next_walk w4 w.heap.size w.heap.size own4 4 [97, 98, 99, 100, 101, 13, 10, 120] HR4.out HB4.out.size (by decide) (by decide)).mono ?_
  rintro e5 w5 hP5
  obtain ⟨A5, c5, own5, rfl, hV5, hC5, hR5⟩ := hP5.some_ ex_n3
  have HV5 := Lib.hid (hV5.mono (show w.heap.size + 1 ≤ w4.heap.size from HLT.out))
  have HB5 := Lib.hid (HB4.out.trans (hC5.below (Nat.le_refl _) (fun g hg => by cases hg) HB4.out.size))
  have HR5 := Lib.hid hR5
  have HV3 := Lib.hid (HV3.out.chg hC5 (Nat.lt_succ_self _) (fun g hg => by cases hg))
  have HV4 := Lib.hid (HV4.out.chg hC5 (Nat.lt_succ_self _) (fun g hg => by cases hg))
  have HLT : Hid (w.heap.size < w5.heap.size) := Lib.hid (Nat.lt_of_lt_of_le HLT.out hC5.size)
  clear hV5 hC5 hR5 hP5 HR4
  go_wp2_with fail
  refine (next_walk w5 w.heap.size w.heap.size own5 4 [120] HR5.out HB5.out.size (by decide) (by decide)).mono ?_
  rintro e6 w6 hP6
  obtain ⟨rfl, hb6, hR6⟩ := hP6.none_ ex_n4
  have HB6 := Lib.hid (HB5.out.trans (hb6.mono HB5.out.size))
  have HR6 := Lib.hid hR6
  have HV3 := Lib.hid (HV3.out.below hb6)
  have HV4 := Lib.hid (HV4.out.below hb6)
  have HV5 := Lib.hid (HV5.out.below hb6)
  clear hb6 hR6 hP6 HR5
  have hcv20 := Lib.run_convert_bytes_const (P := Tryd.prog) w6 32 5 #[.int .u8 46, .int .u8 97, .int .u8 13, .int .u8 10] 4 4 Tryd.underlying32 Tryd.underlying5
  have b20 := (Below.refl w6.heap.size w6).alloc (Nat.le_refl _) (.cells #[.int .u8 46, .int .u8 97, .int .u8 13, .int .u8 10] 5 (4, 5))
  have r20 := Lib.hid (RB.mark w6 5 #[.int .u8 46, .int .u8 97, .int .u8 13, .int .u8 10] (4, 5) [46, 97, 13, 10] rfl)
  have BB20 := Lib.hid b20
  go_wp2_with fail
  have HBz20 := Lib.hid (HB6.out.trans (BB20.out.mono HB6.out.size))
  have HRz20 := Lib.hid (HR6.out.below BB20.out)
  have hrz20 := Lib.hid (r20.out.mono (B' := (w6.alloc (.cells #[.int .u8 46, .int .u8 97, .int .u8 13, .int .u8 10] 5 (4, 5))).heap.size) (by simp))
  have HV3 := Lib.hid (HV3.out.below BB20.out)
  have HV4 := Lib.hid (HV4.out.below BB20.out)
  have HV5 := Lib.hid (HV5.out.below BB20.out)
  clear hcv20 b20 r20 BB20 HR6
  generalize (w6.alloc (.cells #[.int .u8 46, .int .u8 97, .int .u8 13, .int .u8 10] 5 (4, 5))) = wz20 at *
  refine (stuff_walk wz20 (fun w' hb => HT.out w' (HBz20.out.trans (hb.mono HBz20.out.size))) (some ⟨w6.heap.size, 0, none⟩) [46, 97, 13, 10] 4 4 rfl hrz20.out (Nat.le_refl _) (fun e => by cases e) (by decide) (by decide)).mono ?_
  rintro e7 w7 hP7
  unfold StuffPost at hP7
  rw [ex_s1.1, if_pos rfl, ex_s1.2] at hP7
  obtain ⟨hb7, v7, rfl, hV7⟩ := hP7
  obtain ⟨A7, c7, rfl, -⟩ := hV7.out
  have HV7 := Lib.hid hV7
  have HB7 := Lib.hid (HBz20.out.trans (hb7.mono HBz20.out.size))
  have HR7 := Lib.hid (HRz20.out.below hb7)
  have HV3 := Lib.hid (HV3.out.below hb7)
  have HV4 := Lib.hid (HV4.out.below hb7)
  have HV5 := Lib.hid (HV5.out.below hb7)
  clear hb7 hV7 hrz20 HRz20 HBz20
  have hcv21 := Lib.run_convert_bytes_const (P := Tryd.prog) w7 32 5 #[.int .u8 97] 1 1 Tryd.underlying32 Tryd.underlying5
  have b21 := (Below.refl w7.heap.size w7).alloc (Nat.le_refl _) (.cells #[.int .u8 97] 5 (1, 2))
  have r21 := Lib.hid (RB.mark w7 5 #[.int .u8 97] (1, 2) [97] rfl)
  have BB21 := Lib.hid b21
  go_wp2_with fail
  have HBz21 := Lib.hid (HB7.out.trans (BB21.out.mono HB7.out.size))
  have HRz21 := Lib.hid (HR7.out.below BB21.out)
  have hrz21 := Lib.hid (r21.out.mono (B' := (w7.alloc (.cells #[.int .u8 97] 5 (1, 2))).heap.size) (by simp))
  have HV3 := Lib.hid (HV3.out.below BB21.out)
  have HV4 := Lib.hid (HV4.out.below BB21.out)
  have HV5 := Lib.hid (HV5.out.below BB21.out)
  have HV7 := Lib.hid (HV7.out.below BB21.out)
  clear hcv21 b21 r21 BB21 HR7
  generalize (w7.alloc (.cells #[.int .u8 97] 5 (1, 2))) = wz21 at *
  refine (stuff_walk wz21 (fun w' hb => HT.out w' (HBz21.out.trans (hb.mono HBz21.out.size))) (some ⟨w7.heap.size, 0, none⟩) [97] 1 1 rfl hrz21.out (Nat.le_refl _) (fun e => by cases e) (by decide) (by decide)).mono ?_
  rintro e8 w8 hP8
  unfold StuffPost at hP8
  rw [ex_s2] at hP8
  obtain ⟨hb8, v8, rfl, -⟩ := hP8
  have HB8 := Lib.hid (HBz21.out.trans (hb8.mono HBz21.out.size))
  have HR8 := Lib.hid (HRz21.out.below hb8)
  have HV3 := Lib.hid (HV3.out.below hb8)
  have HV4 := Lib.hid (HV4.out.below hb8)
  have HV5 := Lib.hid (HV5.out.below hb8)
  have HV7 := Lib.hid (HV7.out.below hb8)
  clear hb8 hrz21 HRz21 HBz21
  have hcv22 := Lib.run_convert_bytes_const (P := Tryd.prog) w8 32 5 #[.int .u8 46] 1 1 Tryd.underlying32 Tryd.underlying5
  have b22 := (Below.refl w8.heap.size w8).alloc (Nat.le_refl _) (.cells #[.int .u8 46] 5 (1, 2))
  have r22 := Lib.hid (RB.mark w8 5 #[.int .u8 46] (1, 2) [46] rfl)
  have BB22 := Lib.hid b22
  go_wp2_with fail
  have HBz22 := Lib.hid (HB8.out.trans (BB22.out.mono HB8.out.size))
  have HRz22 := Lib.hid (HR8.out.below BB22.out)
  have hrz22 := Lib.hid (r22.out.mono (B' := (w8.alloc (.cells #[.int .u8 46] 5 (1, 2))).heap.size) (by simp))
  have HV3 := Lib.hid (HV3.out.below BB22.out)
  have HV4 := Lib.hid (HV4.out.below BB22.out)
  have HV5 := Lib.hid (HV5.out.below BB22.out)
  have HV7 := Lib.hid (HV7.out.below BB22.out)
  clear hcv22 b22 r22 BB22 HR8
  generalize (w8.alloc (.cells #[.int .u8 46] 5 (1, 2))) = wz22 at *
  refine (dot_walk wz22 (some ⟨w8.heap.size, 0, none⟩) [46] 1 1 rfl hrz22.out (Nat.le_refl _) (by decide) (by decide)).mono ?_
  rintro e9 w9 hP9
  unfold DotPost at hP9
  rw [ex_d] at hP9
  obtain ⟨hb9, v9, rfl, -⟩ := hP9
  have HB9 := Lib.hid (HBz22.out.trans (hb9.mono HBz22.out.size))
  have HR9 := Lib.hid (HRz22.out.below hb9)
  have HV3 := Lib.hid (HV3.out.below hb9)
  have HV4 := Lib.hid (HV4.out.below hb9)
  have HV5 := Lib.hid (HV5.out.below hb9)
  have HV7 := Lib.hid (HV7.out.below hb9)
  clear hb9 hrz22 HRz22 HBz22
  have hq3 : (convert 32 9 (.slice A3 2 c3)).run Tryd.prog w9 = .ok (.string ⟨#[97, 98]⟩) w9 := HV3.out.conv
  have hq4 : (convert 32 9 (.slice A4 1 c4)).run Tryd.prog w9 = .ok (.string ⟨#[99]⟩) w9 := HV4.out.conv
  have hq5 : (convert 32 9 (.slice A5 4 c5)).run Tryd.prog w9 = .ok (.string ⟨#[97, 98, 99, 100]⟩) w9 := HV5.out.conv
  have hq7 : (convert 32 9 (.slice A7 8 c7)).run Tryd.prog w9 = .ok (.string ⟨#[46, 46, 97, 13, 10, 46, 13, 10]⟩) w9 := HV7.out.conv
  have KL := Lib.hid (left_walk w9 w.heap.size w.heap.size own5 4 [120] HR9.out)
  go_wp2_with (refine KL.out.mono ?_; rintro e30 w30 ⟨rfl, rfl⟩)
  go_ret
  exact ⟨HB9.out, rfl⟩
end Go.Proofs.YtkemmgfmmfcdlaaDoor
