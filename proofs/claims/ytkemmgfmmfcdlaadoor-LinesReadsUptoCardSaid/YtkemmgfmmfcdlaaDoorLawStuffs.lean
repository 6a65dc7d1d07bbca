/-
  The walk of LinesStuffs. It asks what the library's tables hold, and the sizes.
-/
import Derived.Test.YtkemmgfmmfcdlaaDoorShown
import Derived.Test.YtkemmgfmmfcdlaaDoorRDot
import Derived.BigQuiet
import Derived.Deep.QuietTactic
namespace Go.Proofs.YtkemmgfmmfcdlaaDoor
open Go.RowKit
set_option linter.unusedVariables false
/-- a byte turned in a slice of the call's own -/
theorem below_own {w w' : World} {B g : Nat} (hb : Below B w w') (hg : B ≤ g) (o : Nat) (u : Value) : Below B w (w'.setCell ⟨g, o, none⟩ u) := hb.setCell (p := ⟨g, o, none⟩) hg u
theorem ownq_some {w : World} {base n c : Nat} {own : Option Nat} {A : Option Addr} {l : List UInt8} (h : OwnQ w base own (.slice A n c) l) (hc : 0 < c) : ∃ g off, A = some ⟨g, off, none⟩ ∧ g < w.heap.size := by
  obtain ⟨A', c', e, _, _, h3⟩ := h
  injection e with e1 e2 e3
  subst e1; subst e2; subst e3
  rcases h3 with ⟨h3, _⟩ | ⟨g, off, _, rfl, _, hlt, _⟩
  · omega
  · exact ⟨g, off, rfl, hlt⟩
theorem rcont_at (w : World) (A : Option Addr) (l : List UInt8) (n c : Nat) (hn : n = l.length) {B : Nat} (hr : RB w B A l) (hB : B ≤ w.heap.size) (hl : n ≤ 4611686018427387904) (F : Int) (hF : contP l = F) :
    Calls Tryd.prog 21 #[.slice A n c] w fun e w' => e = .returned (.int .i64 F) ∧ w' = w := by
  subst hn hF
  exact (rcont_walk w A l c (hr.mono hB) hl).mono fun e w' ⟨h1, h2⟩ => ⟨h2, h1.symm⟩
theorem rstuff_at (w : World) (A : Option Addr) (l : List UInt8) (n c : Nat) (hn : n = l.length) (hr : RB w w.heap.size A l) (hl : n ≤ 4294967296) :
    Calls Tryd.prog 17 #[.slice A n c] w (StuffPost w l) := by
  subst hn
  exact rstuff_walk w A l c hr hl
theorem RB.convQ {w : World} {B : Nat} {A : Option Addr} {l : List UInt8} (h : RB w B A l) (n c : Nat) (hn : n = l.length) (q : Nat) : (convert 32 9 (.slice A n c)).run Tryd.prog (w.drewN q) = .ok (.string ⟨l.toArray⟩) (w.drewN q) :=
  run_convRB (P := Tryd.prog) 32 9 5 Tryd.underlying32 Tryd.underlying5 Tryd.underlying9 (h.drewN q) n c hn
theorem RB.conv {w : World} {B : Nat} {A : Option Addr} {l : List UInt8} (h : RB w B A l) (n c : Nat) (hn : n = l.length) : (convert 32 9 (.slice A n c)).run Tryd.prog w = .ok (.string ⟨l.toArray⟩) w :=
  run_convRB (P := Tryd.prog) 32 9 5 Tryd.underlying32 Tryd.underlying5 Tryd.underlying9 h n c hn
/-- the cells of a slice that may be written -/
def Wr (w : World) (A : Option Addr) (n : Nat) : Prop := ∀ g o, A = some ⟨g, o, none⟩ → ∀ i, i < n → (∃ u, w.cell? ⟨g, o + i, none⟩ = some u) ∧ w.frozen? ⟨g, o + i, none⟩ = false
theorem Wr.set_ {w : World} {A : Option Addr} {n : Nat} (h : Wr w A n) (p : Addr) (u : Value) : Wr (w.setCell p u) A n := fun g o e i hi => by
  obtain ⟨⟨v, h1⟩, h2⟩ := h g o e i hi
  exact ⟨cell?_setCell_some h1, by rw [← h2]; simp⟩
theorem OwnV.wr {w : World} {base n c : Nat} {A : Option Addr} {l : List UInt8} (h : OwnV w base (.slice A n c) l) : Wr w A n ∧ (0 < n → ∃ g o, A = some ⟨g, o, none⟩ ∧ base ≤ g) := by
  obtain ⟨A', c', e, _, _, h3⟩ := h
  injection e with e1 e2 e3
  subst e1; subst e2; subst e3
  rcases h3 with rfl | ⟨g, off, rfl, hb, _, hc⟩
  · exact ⟨fun g o e i hi => by simp at hi, fun h => by simp at h⟩
  · refine ⟨fun g' o' e i hi => ?_, fun _ => ⟨g, off, rfl, hb⟩⟩
    injection e with e
    injection e with e1 e2
    subst e1 e2
    exact ⟨⟨_, (hc i hi).1⟩, (hc i hi).2⟩
set_option maxRecDepth 1000000 in
set_option maxHeartbeats 8000000 in
theorem stuffs_walk (w : World) (hT : TabsL w.heap.size w) (A0 A1 : Option Addr) (l0 l1 : List UInt8) (n0 n1 c0 c1 : Nat) (hn0 : n0 = l0.length) (hn1 : n1 = l1.length)
    (h0 : RB w w.heap.size A0 l0) (h1 : RB w w.heap.size A1 l1) (hc0 : n0 ≤ c0) (hc1 : n1 ≤ c1) (hm0 : c0 ≤ maxLen) (hm1 : c1 ≤ maxLen) (hl0 : n0 < 4294967281) (hl1 : n1 ≤ 140737488355328) :
    Calls Tryd.prog 5 #[.slice A0 n0 c0, .slice A1 n1 c1] w fun e w' => Below w.heap.size w w' ∧ e = .returned (.bool true) := by
  have HT := Lib.hid hT
  have HR0 := Lib.hid h0
  have HR1 := Lib.hid h1
  have HN0 := Lib.hid hn0
  have HN1 := Lib.hid hn1
  have KS := Lib.hid (shown_walk w hT)
  have HM0 := Lib.hid hm0
  have HM1 := Lib.hid hm1
  unfold maxLen at hm0 hm1
  clear h0 h1 hn0 hn1 hT
  go_enter Tryd.func5, Tryd.ntmps5
  go_wp2_with fail
  refine KS.out.mono ?_
  rintro e1 w1 ⟨hb1, rfl⟩
  have HB1 := Lib.hid hb1
  clear hb1 KS
  have hba := (Below.refl w1.heap.size w1).alloc (Nat.le_refl _) (.cells #[] 5)
  have HBa := Lib.hid (HB1.out.trans (hba.mono HB1.out.size))
  clear hba
  go_wp2_with (first
    | (at_builtin; refine wpList_appQ _ u8S (.tmp 19) (.tmp 20) rfl rfl w.heap.size rfl (OwnQ.nil _ _ (some ⟨w1.heap.size, 0, none⟩)) _ _ rfl HN0.out (HR0.out.below HBa.out) (by have := HN0.out; simp; omega) HBa.out.size ?_; intro v2 own2 w2 hO2 hg2 ho2; rw [List.nil_append] at hO2; obtain ⟨A2, cc2, rfl, -⟩ := hO2.out; have HO2 := Lib.hid hO2; have HB2 := Lib.hid (HBa.out.trans ((OwnQ.nil _ _ (some ⟨w1.heap.size, 0, none⟩)).belowG hg2 HBa.out.size)); clear hO2 hg2 ho2)
    | (at_builtin; go_loud (refine wpList_appQ _ u8S (.tmp 21) (.tmp 22) rfl rfl w.heap.size rfl (HO2.out.alloc _) _ _ rfl rfl (RB.one w2 5 177 177 rfl) (by have := HN0.out; simp; omega) (by simp; exact Nat.le_succ_of_le HB2.out.size) ?_); intro v3 own3 w3 hO3 hg3 ho3; obtain ⟨A3, cc3, rfl, hcap3, hmax3, -⟩ := hO3.out; have HO3 := Lib.hid hO3; have HB3 := Lib.hid ((HB2.out.trans ((Below.refl w2.heap.size w2).alloc (Nat.le_refl _) (.cells #[.int .u8 177] 5) |>.mono HB2.out.size)).trans ((HO2.out.alloc (.cells #[.int .u8 177] 5)).belowG hg3 (by simp; exact Nat.le_succ_of_le HB2.out.size))); rw [List.length_append] at hcap3; have HCA3 := Lib.hid hcap3; have HMA3 := Lib.hid hmax3; have hcx : n0 + 1 ≤ cc3 := (by have := HN0.out; have := HCA3.out; simp at this; omega); have hmx : cc3 ≤ 9223372036854775807 := (by have := HMA3.out; unfold maxLen at this; omega); clear hO3 hg3 ho3 hcap3 hmax3))
  obtain ⟨g3, o3, rfl, hg3⟩ := ownq_some HO3.out (by omega)
  have hr3 := HO3.out.rb.1
  have HR3 : Hid (RB w3 w3.heap.size (some ⟨g3, o3, none⟩) (l0 ++ [177])) := Lib.hid hr3
  have ht0 : (l0 ++ [177]).take n0 = l0 := by rw [HN0.out]; simp
  have HR3t : Hid (RB w3 w3.heap.size (some ⟨g3, o3, none⟩) l0) := Lib.hid (by have := hr3.take n0; rwa [ht0] at this)
  refine (stuff_walk w3 (fun w' hb => HT.out w' (HB3.out.trans (hb.mono HB3.out.size))) (some ⟨g3, o3, none⟩) l0 n0 cc3 HN0.out HR3t.out (by omega) (fun e => by cases e) hmx hl0).mono ?_
  clear hr3 ht0 HO3 HO2 HB2 HBa
  obtain ⟨F, hF⟩ : ∃ F, contP l0 = F := ⟨_, rfl⟩
  obtain ⟨S, hS⟩ : ∃ S, (if contP l0 = 0 then stuffP l0 else []) = S := ⟨_, rfl⟩
  unfold StuffPost
  rw [hS]
  rintro e4 w4 ⟨hb4, v4, rfl, hV4⟩
  rw [hF]
  have HX4 := Lib.hid hb4
  obtain ⟨A4, c4, rfl, -⟩ := hV4.out
  have HV4 := Lib.hid hV4
  clear hb4 hV4
  go_wp2_with fail
  have hB4 : Below w.heap.size w w4 := HB3.out.trans (HX4.out.mono HB3.out.size)
  refine (rstuff_at w4 A0 l0 n0 c0 HN0.out ((HR0.out.below hB4).mono hB4.size) (by omega)).mono ?_
  unfold StuffPost
  rw [hS]
  rintro e5 w5 ⟨hb5, v5, rfl, hV5⟩
  rw [hF]
  obtain ⟨A5, c5, rfl, -⟩ := hV5.out
  have HX5 := Lib.hid (HX4.out.trans (hb5.mono HX4.out.size))
  have HV45 := Lib.hid (HV4.out.below hb5)
  have q4 := HV45.out.conv
  have q5 := hV5.conv
  clear hB4 hb5 hV5 HV4 HX4
  have HF := Lib.hid hF
  have HWr : Hid (Wr w5 A4 S.length) := Lib.hid HV45.out.wr.1
  have HWs : Hid (0 < S.length → ∃ g o, A4 = some ⟨g, o, none⟩ ∧ w3.heap.size ≤ g) := Lib.hid HV45.out.wr.2
  have hsm : S.length ≤ 9223372036854775807 := by
    have h := HV45.out.sl
    have h1 := h.2.1
    have h2 := h.2.2.1
    unfold maxLen at h2
    omega
  clear hF hS
  go_wp2_with fail
  clear q4 q5 HV45
  go_loopg [12] S.length (fun k s wr => ∃ j : Nat, j + k = S.length ∧ s = .int .i64 j ∧ Hid (Wr wr A4 S.length) ∧ Hid (Below w3.heap.size w3 wr))
  case atStart => exact ⟨0, by omega, rfl, HWr, HX5⟩
  case round =>
    obtain ⟨j, hj, rfl, HW, HX⟩ := hrel
    clear HWr HX5
    by_cases hlt : j < S.length
    · have hj1 : (j : Int) < (S.length : Int) := by omega
      have e1 : IntKind.i64.wrap ((j : Int) + 1) = (j : Int) + 1 := IntWalk.i64_in _ (by omega)
      obtain ⟨g, o, rfl, hg⟩ := HWs.out (by omega)
      obtain ⟨⟨u, ku⟩, fu⟩ := HW.out g o rfl j hlt
      go_wp2
      go_roundg (gk - 1)
      case rel => exact ⟨j + 1, by omega, by go_num, Lib.hid (HW.out.set_ _ _), Lib.hid (below_own HX.out hg _ _)⟩
      case measure => omega
    · have hj1 : ¬ (j : Int) < (S.length : Int) := by omega
      clear HW HWs
      have hB6 : Below w.heap.size w wr := HB3.out.trans (HX.out.mono HB3.out.size)
      have KC := Lib.hid (cont_walk wr (fun w' hb => HT.out w' (hB6.trans (hb.mono hB6.size))) (some ⟨g3, o3, none⟩) l0 n0 cc3 HN0.out ((HR3t.out.below HX.out).mono HX.out.size) (by omega) hmx hl0)
      rw [HF.out] at KC
      have HB6 := Lib.hid hB6
      clear hB6
      go_wp2_with fail
      refine KC.out.mono ?_
      rintro e7 w7 ⟨hb7, rfl⟩
      have HB7 := Lib.hid (HB6.out.trans (hb7.mono HB6.out.size))
      have HX7 := Lib.hid (HX.out.trans (hb7.mono HX.out.size))
      clear hb7 KC HX HB6
      have KD := Lib.hid (dot_walk w7 A1 l1 n1 c1 HN1.out ((HR1.out.below HB7.out).mono HB7.out.size) hc1 HM1.out hl1)
      go_wp2_with fail
      refine KD.out.mono ?_
      obtain ⟨D, hD⟩ : ∃ D, dotP l1 = D := ⟨_, rfl⟩
      unfold DotPost
      rw [hD]
      rintro e8 w8 ⟨hb8, v8, rfl, hV8⟩
      obtain ⟨A8, c8, rfl, -⟩ := hV8.out
      have HV8 := Lib.hid hV8
      have HB8 := Lib.hid (HB7.out.trans (hb8.mono HB7.out.size))
      have HX8 := Lib.hid (HX7.out.trans (hb8.mono HX7.out.size))
      clear hb8 hV8 KD HB7 HX7
      have KE := Lib.hid (rdot_walk w8 A1 l1 n1 c1 HN1.out ((HR1.out.below HB8.out).mono HB8.out.size) hc1 HM1.out hl1)
      go_wp2_with fail
      refine KE.out.mono ?_
      unfold DotPost
      rw [hD]
      rintro e9 w9 ⟨hb9, v9, rfl, hV9⟩
      obtain ⟨A9, c9, rfl, -⟩ := hV9.out
      have HB9 := Lib.hid (HB8.out.trans (hb9.mono HB8.out.size))
      have hX9 := HX8.out.trans (hb9.mono HX8.out.size)
      have hsl8 := (HV8.out.below hb9).sl
      have hsl9 := hV9.sl
      have q8 := fun q => RB.convQ hsl8.2.2.2 D.1.length c8 rfl q
      have q9 := fun q => RB.convQ hsl9.2.2.2 D.1.length c9 rfl q
      have q0 := fun q => RB.convQ (HR0.out.below HB9.out) n0 c0 HN0.out q
      have q3 := fun q => RB.convQ (HR3t.out.below hX9) n0 cc3 HN0.out q
      have KRC := Lib.hid (fun q => rcont_at (w9.drewN q) A0 l0 n0 c0 HN0.out ((HR0.out.below HB9.out).drewN q) HB9.out.size (by omega) F HF.out)
      have k3 : w9.cell? ⟨g3, o3 + n0, none⟩ = some (.int .u8 177) := by
        obtain ⟨b', off', e, _, hcl⟩ := (HR3.out.below hX9).at_ (j := n0) (by have := HN0.out; simp; omega)
        injection e with e
        injection e with e1 e2
        subst e1 e2
        rw [hcl n0 (by have := HN0.out; simp; omega)]
        have : bt (l0 ++ [177]) n0 = 177 := by unfold bt; rw [HN0.out]; simp
        rw [this]
      have i3 : (n0 : Int) < (l0.length : Int) + 1 := by have := HN0.out; omega
      have i4 : (n0 : Int) ≤ (cc3 : Int) := by omega
      clear hb9 hV9 hX9 hsl8 hsl9 HV8 KE HX8 HB8 hD
      generalize D.1 = DD at *
      generalize D.2 = db at *
      go_wp2
      go_quiet ((go_at_call 21; exact Calls.quiet_of_same (KRC.out _)))
      go_wp2
      go_ret
      exact ⟨bdrewN HB9.out _, rfl⟩
end Go.Proofs.YtkemmgfmmfcdlaaDoor
