/-
  The walk of the document's examples. It asks that MaxLen is a number.
-/
import Derived.Test.YtgbbadbffcjamaaDoorHdSp
import Derived.Test.YtgbbadbffcjamaaDoorHdU
import Derived.Test.YtgbbadbffcjamaaDoorHdWr
import Derived.Test.YtgbbadbffcjamaaDoorHdH
namespace Go.Proofs.YtgbbadbffcjamaaDoor
open Go.RowKit
set_option linter.unusedVariables false
theorem SplitPost.get {w w' : World} {l : List UInt8} {e : Ending} {L : List Fd} {b : Nat} {er : Int} (h : SplitPost w l e w') (hE : split11 l = (L, b, er)) :
    Below w.heap.size w w' ∧ ∃ A2 c2, e = .returned (.tuple #[.slice A2 L.length c2, .int .i64 (b : Int), .int .i64 er]) ∧ RF w' w'.heap.size A2 L ∧ L.length ≤ c2 ∧ c2 ≤ maxLen := by
  unfold SplitPost at h
  rw [hE] at h
  exact h
theorem WritePost.get {w w' : World} {nm bd : List UInt8} {e : Ending} {l : List UInt8} {er : Int} (h : WritePost w nm bd e w') (hE : wr11 nm bd = (l, er)) :
    Below w.heap.size w w' ∧ ∃ A c, e = .returned (.tuple #[.slice A l.length c, .int .i64 er]) ∧ OwnV w' w.heap.size (.slice A l.length c) l := by
  unfold WritePost at h
  rw [hE] at h
  exact h
def ex1 : List UInt8 := [65, 58, 32, 120, 13, 10, 32, 121, 13, 10, 82, 101, 99, 101, 105, 118, 101, 100, 58, 122, 13, 10, 13, 10, 66, 58, 32, 119, 13, 10]
def exL : List Fd := [⟨[65], [32, 120, 13, 10, 32, 121], 0, 10⟩, ⟨[82, 101, 99, 101, 105, 118, 101, 100], [122], 10, 22⟩]
theorem ex_s1 : split11 ex1 = (exL, 24, 0) := by kernel_rfl
theorem ex_s2 : split11 [110, 111, 32, 102, 105, 101, 108, 100, 13, 10] = ([], 0, 0) := by kernel_rfl
theorem ex_w1 : wr11 [84, 111] [97, 32, 32, 98] = ([84, 111, 58, 32, 97, 32, 98, 13, 10], 0) := by decide +kernel
theorem ex_w2 : wr11 [84, 32, 111] [] = ([], 110) := by decide +kernel
theorem ex_u : unfold11 [32, 120, 13, 10, 32, 121] = [120, 32, 121] := by decide +kernel
theorem ex_h : hops11 exL = 1 := by decide +kernel
theorem ex_sm : smallF exL := by
  intro g hg
  simp only [exL, List.mem_cons, List.not_mem_nil, or_false] at hg
  rcases hg with rfl | rfl <;> exact ⟨by decide, by decide, by decide, by decide⟩
set_option maxRecDepth 1000000 in
set_option maxHeartbeats 4000000 in
theorem shown_walk (w : World) (hM : Mx w) : Calls Tryd.prog 7 #[] w fun e w' => Below w.heap.size w w' ∧ e = .returned (.bool true) := by
  have HM := Lib.hid hM
  clear hM
  go_enter Tryd.func7, Tryd.ntmps7
  have hcv1 := Lib.run_convert_bytes_const (P := Tryd.prog) w 22 5 #[.int .u8 65, .int .u8 58, .int .u8 32, .int .u8 120, .int .u8 13, .int .u8 10, .int .u8 32, .int .u8 121, .int .u8 13, .int .u8 10, .int .u8 82, .int .u8 101, .int .u8 99, .int .u8 101, .int .u8 105, .int .u8 118, .int .u8 101, .int .u8 100, .int .u8 58, .int .u8 122, .int .u8 13, .int .u8 10, .int .u8 13, .int .u8 10, .int .u8 66, .int .u8 58, .int .u8 32, .int .u8 119, .int .u8 13, .int .u8 10] 30 30 Tryd.underlying22 Tryd.underlying5
  obtain ⟨C1, hC1⟩ : ∃ C1 : Array Value, C1 = #[.int .u8 65, .int .u8 58, .int .u8 32, .int .u8 120, .int .u8 13, .int .u8 10, .int .u8 32, .int .u8 121, .int .u8 13, .int .u8 10, .int .u8 82, .int .u8 101, .int .u8 99, .int .u8 101, .int .u8 105, .int .u8 118, .int .u8 101, .int .u8 100, .int .u8 58, .int .u8 122, .int .u8 13, .int .u8 10, .int .u8 13, .int .u8 10, .int .u8 66, .int .u8 58, .int .u8 32, .int .u8 119, .int .u8 13, .int .u8 10] := ⟨_, rfl⟩
  rw [← hC1] at hcv1
  have b1 := (Below.refl w.heap.size w).alloc (Nat.le_refl _) (.cells C1 5 (30, 31))
  have r1 := RB.mark w 5 C1 (30, 31) ex1 (by rw [hC1]; rfl)
  have KS1 := Lib.hid (split_walk (w.alloc (.cells C1 5 (30, 31))) (HM.out.below b1) (some ⟨w.heap.size, 0, none⟩) ex1 30 30 rfl (r1.mono (by simp)) (by omega) (by omega) (by omega))
  have HB1 := Lib.hid b1
  rw [hC1] at KS1 HB1 hcv1
  clear b1 r1 hC1
  go_wp2_with fail
  with_reducible refine KS1.out.mono ?_
  rintro e2 w2 hp
  obtain ⟨hb2, A2, c2, rfl, hR2, -, -⟩ := hp.get ex_s1
  have HB2 := Lib.hid (HB1.out.trans (hb2.mono HB1.out.size))
  have HR2 := Lib.hid hR2
  clear hp hb2 hR2 KS1 hcv1 HB1
  have h2 : exL.length = 2 := rfl
  have h24 : ((24 : Nat) : Int) = 24 := rfl
  have hcv2 := Lib.run_convert_bytes_const (P := Tryd.prog) w2 22 5 #[.int .u8 110, .int .u8 111, .int .u8 32, .int .u8 102, .int .u8 105, .int .u8 101, .int .u8 108, .int .u8 100, .int .u8 13, .int .u8 10] 10 10 Tryd.underlying22 Tryd.underlying5
  have b2 := (Below.refl w2.heap.size w2).alloc (Nat.le_refl _) (.cells #[.int .u8 110, .int .u8 111, .int .u8 32, .int .u8 102, .int .u8 105, .int .u8 101, .int .u8 108, .int .u8 100, .int .u8 13, .int .u8 10] 5 (10, 11))
  have r2 := RB.mark w2 5 #[.int .u8 110, .int .u8 111, .int .u8 32, .int .u8 102, .int .u8 105, .int .u8 101, .int .u8 108, .int .u8 100, .int .u8 13, .int .u8 10] (10, 11) [110, 111, 32, 102, 105, 101, 108, 100, 13, 10] rfl
  have HBb := Lib.hid (HB2.out.trans (b2.mono HB2.out.size))
  have KS2 := Lib.hid (split_walk (w2.alloc (.cells #[.int .u8 110, .int .u8 111, .int .u8 32, .int .u8 102, .int .u8 105, .int .u8 101, .int .u8 108, .int .u8 100, .int .u8 13, .int .u8 10] 5 (10, 11))) (HM.out.below HBb.out) (some ⟨w2.heap.size, 0, none⟩) [110, 111, 32, 102, 105, 101, 108, 100, 13, 10] 10 10 rfl (r2.mono (by simp)) (by omega) (by omega) (by omega))
  have HRb := Lib.hid ((HR2.out.below b2).mono b2.size)
  clear b2 r2 HR2
  go_wp2_with fail
  with_reducible refine KS2.out.mono ?_
  rintro e3 w3 hp
  obtain ⟨hb3, A3, c3, rfl, -, -, -⟩ := hp.get ex_s2
  have HB3 := Lib.hid (HBb.out.trans (hb3.mono HBb.out.size))
  have HR3 := Lib.hid ((HRb.out.below hb3).mono hb3.size)
  clear hp hb3 KS2 hcv2 HBb HRb HB2
  have KW1 := Lib.hid (write_walk ⟨#[84, 111]⟩ ⟨#[97, 32, 32, 98]⟩ w3 (HM.out.below HB3.out) (by decide) (by decide))
  go_wp2_with fail
  with_reducible refine KW1.out.mono ?_
  rintro e4 w4 hp
  obtain ⟨hb4, A4, c4, rfl, hV4⟩ := hp.get ex_w1
  have HB4 := Lib.hid (HB3.out.trans (hb4.mono HB3.out.size))
  have HR4 := Lib.hid ((HR3.out.below hb4).mono hb4.size)
  have HV4 := Lib.hid hV4
  clear hp hb4 hV4 KW1 HB3 HR3
  have KW2 := Lib.hid (write_walk ⟨#[84, 32, 111]⟩ ⟨#[]⟩ w4 (HM.out.below HB4.out) (by decide) (by decide))
  go_wp2_with fail
  with_reducible refine KW2.out.mono ?_
  rintro e5 w5 hp
  obtain ⟨hb5, A5, c5, rfl, -⟩ := hp.get ex_w2
  have HB5 := Lib.hid (HB4.out.trans (hb5.mono HB4.out.size))
  have HR5 := Lib.hid ((HR4.out.below hb5).mono hb5.size)
  have HV5 := Lib.hid (HV4.out.below hb5)
  clear hp hb5 KW2 HB4 HR4 HV4
  obtain ⟨bo, off, rfl, hbo, hrg⟩ := HR5.out.at_ (i := 0) (g := ⟨[65], [32, 120, 13, 10, 32, 121], 0, 10⟩) rfl
  obtain ⟨k0, k1, k2, k3⟩ := rangeAt_cells hrg
  simp only [sv, Nat.zero_mul, Nat.add_zero] at k0 k1 k2 k3
  have KU := Lib.hid (unfold_walk ⟨#[32, 120, 13, 10, 32, 121]⟩ w5 (HM.out.below HB5.out) (by decide))
  rw [show unfold11 (⟨#[32, 120, 13, 10, 32, 121]⟩ : ByteArray).data.toList = [120, 32, 121] from ex_u] at KU
  clear hrg
  go_wp2_with fail
  with_reducible refine KU.out.mono ?_
  rintro e6 w6 ⟨hb6, rfl⟩
  have HB6 := Lib.hid (HB5.out.trans (hb6.mono HB5.out.size))
  have HR6 := Lib.hid ((HR5.out.below hb6).mono hb6.size)
  have HV6 := Lib.hid (HV5.out.below hb6)
  clear hb6 KU HB5 HR5 HV5 k0 k1 k2 k3
  obtain ⟨b', off', e', hbo', hrg⟩ := HR6.out.at_ (i := 0) (g := ⟨[65], [32, 120, 13, 10, 32, 121], 0, 10⟩) rfl
  injection e' with e'
  injection e' with e1' e2'
  subst e1' e2'
  obtain ⟨k0, k1, k2, k3⟩ := rangeAt_cells hrg
  simp only [sv, Nat.zero_mul, Nat.add_zero] at k0 k1 k2 k3
  have q4 : (convert 22 9 (.slice A4 9 c4)).run Tryd.prog w6 = .ok (.string ⟨#[84, 111, 58, 32, 97, 32, 98, 13, 10]⟩) w6 := conv_rb HV6.out.sl.2.2.2 9 c4 rfl
  have KH := Lib.hid (hops_walk w6 (some ⟨bo, off, none⟩) exL 2 c2 rfl HR6.out ex_sm (by omega))
  rw [ex_h] at KH
  clear hrg
  go_wp2_with fail
  with_reducible refine KH.out.mono ?_
  rintro e7 w7 ⟨hb7, rfl⟩
  have HB7 := Lib.hid (HB6.out.trans (hb7.mono HB6.out.size))
  clear hb7 KH
  go_wp2
  go_ret
  exact ⟨HB7.out, rfl⟩
end Go.Proofs.YtgbbadbffcjamaaDoor
