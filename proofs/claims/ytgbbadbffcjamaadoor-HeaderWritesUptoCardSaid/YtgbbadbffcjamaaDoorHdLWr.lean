/-
  The walk of HeaderWrites. It asks that MaxLen is a number, and the sizes.
-/
import Derived.Test.YtgbbadbffcjamaaDoorHdRAd
import Derived.Test.YtgbbadbffcjamaaDoorHdSm
import Derived.Test.YtgbbadbffcjamaaDoorHdLA
import Derived.BigQuiet
import Derived.Deep.QuietTactic
namespace Go.Proofs.YtgbbadbffcjamaaDoor
open Go.RowKit Go.Sort
set_option linter.unusedVariables false
theorem ownq_some {w : World} {base n c : Nat} {own : Option Nat} {A : Option Addr} {l : List UInt8} (h : OwnQ w base own (.slice A n c) l) (hc : 0 < c) : ∃ g off, A = some ⟨g, off, none⟩ ∧ g < w.heap.size := by
  obtain ⟨A', c', e, _, _, h3⟩ := h
  injection e with e1 e2 e3
  subst e1; subst e2; subst e3
  rcases h3 with ⟨h3, _⟩ | ⟨g, off, _, rfl, _, hlt, _⟩
  · omega
  · exact ⟨g, off, rfl, hlt⟩
set_option maxRecDepth 1000000 in
set_option maxHeartbeats 4000000 in
theorem writes_walk (w : World) (hM : Mx w) (A : Option Addr) (l : List UInt8) (n c : Nat) (hn : n = l.length) (hr : RB w w.heap.size A l) (hc : n ≤ c) (hm : c ≤ 9223372036854775807) (hl : n ≤ 1048576) (s b : ByteArray) (hs : s.size ≤ 1048576) (hb : b.size ≤ 1048576) :
    Calls Tryd.prog 5 #[.slice A n c, .string s, .string b] w fun e w' => Below w.heap.size w w' ∧ e = .returned (.bool true) := by
  have HM := Lib.hid hM
  have HR0 := Lib.hid hr
  have HN0 := Lib.hid hn
  have KS := Lib.hid (shown_walk w hM)
  have K1 := Lib.hid (fun w' => rwrite_walk s b w' (by omega) (by omega))
  have K2 := Lib.hid (fun w' hM' => write_walk s b w' hM' (by omega) (by omega))
  have K3 := Lib.hid (fun w' A' c' (hr' : RB w' w'.heap.size A' l) => radd_walk w' A' l n c' s b hn hr' (by omega) (by omega) (by omega))
  have K4 := Lib.hid (fun w' hM' A' c' (hr' : RB w' w'.heap.size A' l) => add_walk w' hM' A' l n c' s b hn hr' (by omega) (by omega) (by omega))
  obtain ⟨nm, hnm⟩ : ∃ nm, nm = s.data.toList := ⟨_, rfl⟩
  obtain ⟨bd, hbd⟩ : ∃ bd, bd = b.data.toList := ⟨_, rfl⟩
  rw [← hnm, ← hbd] at K1 K2 K3 K4
  clear hnm hbd
  unfold RWritePost at K1
  unfold WritePost at K2
  unfold AddPost at K3 K4
  obtain ⟨T, er, hW⟩ : ∃ T er, wr11 nm bd = (T, er) := ⟨_, _, rfl⟩
  obtain ⟨C, er2, hF⟩ : ∃ C er2, add11 l nm bd = (C, er2) := ⟨_, _, rfl⟩
  rw [hW] at K1 K2
  rw [hF] at K3 K4
  simp only [] at K1 K2 K3 K4
  clear hr hn hM hW hF
  go_enter Tryd.func5, Tryd.ntmps5
  go_wp2_with fail
  with_reducible refine KS.out.mono ?_
  rintro e1 w1 ⟨hb1, rfl⟩
  have HB1 := Lib.hid hb1
  clear hb1 KS
  have hba := (Below.refl w1.heap.size w1).alloc (Nat.le_refl _) (.cells #[] 5)
  have HBa := Lib.hid (HB1.out.trans (hba.mono HB1.out.size))
  clear hba
  go_wp2_with (first
    | (at_builtin; refine wpList_appQ _ u8S (.tmp 20) (.tmp 21) rfl rfl w.heap.size rfl (OwnQ.nil _ _ (some ⟨w1.heap.size, 0, none⟩)) _ _ rfl HN0.out (HR0.out.below HBa.out) (by have := HN0.out; simp; omega) HBa.out.size ?_; intro v2 own2 w2 hO2 hg2 ho2; rw [List.nil_append] at hO2; obtain ⟨A2, cc2, rfl, -⟩ := hO2.out; have HO2 := Lib.hid hO2; have HB2 := Lib.hid (HBa.out.trans ((OwnQ.nil _ _ (some ⟨w1.heap.size, 0, none⟩)).belowG hg2 HBa.out.size)); clear hO2 hg2 ho2)
    | (at_builtin; refine wpList_appQ _ u8S (.tmp 22) (.tmp 23) rfl rfl w.heap.size rfl (HO2.out.alloc _) _ _ rfl rfl (RB.one w2 5 177 177 rfl) (by have := HN0.out; simp; omega) (by simp; exact Nat.le_succ_of_le HB2.out.size) ?_; intro v3 own3 w3 hO3 hg3 ho3; obtain ⟨A3, cc3, rfl, hcap3, hmax3, -⟩ := hO3.out; have HO3 := Lib.hid hO3; have HB3 := Lib.hid ((HB2.out.trans ((Below.refl w2.heap.size w2).alloc (Nat.le_refl _) (.cells #[.int .u8 177] 5) |>.mono HB2.out.size)).trans ((HO2.out.alloc (.cells #[.int .u8 177] 5)).belowG hg3 (by simp; exact Nat.le_succ_of_le HB2.out.size))); rw [List.length_append] at hcap3; have HCA3 := Lib.hid hcap3; have HMA3 := Lib.hid hmax3; have hcx : n + 1 ≤ cc3 := (by have := HN0.out; have := HCA3.out; simp at this; omega); have hmx : cc3 ≤ 9223372036854775807 := (by have := HMA3.out; unfold maxLen at this; omega); clear hO3 hg3 ho3 hcap3 hmax3))
  obtain ⟨g3, o3, rfl, hg3⟩ := ownq_some HO3.out (by omega)
  have hr3 := HO3.out.rb.1
  have HR3 : Hid (RB w3 w3.heap.size (some ⟨g3, o3, none⟩) (l ++ [177])) := Lib.hid hr3
  have ht0 : (l ++ [177]).take n = l := by rw [HN0.out]; simp
  have HR3t : Hid (RB w3 w3.heap.size (some ⟨g3, o3, none⟩) l) := Lib.hid (by have := hr3.take n; rwa [ht0] at this)
  clear hr3 ht0 HO3 HO2 HB2 HBa
  with_reducible refine (K1.out _).mono ?_
  rintro e4 w4 ⟨hb4, A4, c4, own4, rfl, hQ4⟩
  have HX4 := Lib.hid hb4
  have HB4 := Lib.hid (HB3.out.trans (hb4.mono HB3.out.size))
  have HV4 := Lib.hid (OwnV.of_q hQ4)
  clear hb4 hQ4
  go_wp2_with fail
  with_reducible refine (K2.out _ (HM.out.below HB4.out)).mono ?_
  rintro e5 w5 ⟨hb5, A5, c5, rfl, hV5⟩
  have HX5 := Lib.hid (HX4.out.trans (hb5.mono HX4.out.size))
  have HB5 := Lib.hid (HB4.out.trans (hb5.mono HB4.out.size))
  have HV45 := Lib.hid (HV4.out.below hb5)
  have HV5 := Lib.hid hV5
  clear hb5 hV5 HV4 HB4 HX4
  go_wp2_with fail
  with_reducible refine (K3.out _ A c ((HR0.out.below HB5.out).mono HB5.out.size)).mono ?_
  rintro e6 w6 ⟨hb6, A6, c6, rfl, hV6⟩
  have HX6 := Lib.hid (HX5.out.trans (hb6.mono HX5.out.size))
  have HB6 := Lib.hid (HB5.out.trans (hb6.mono HB5.out.size))
  have HV46 := Lib.hid (HV45.out.below hb6)
  have HV56 := Lib.hid (HV5.out.below hb6)
  have HV6 := Lib.hid hV6
  clear hb6 hV6 HV45 HV5 HB5 HX5
  go_wp2_with fail
  with_reducible refine (K4.out _ (HM.out.below HB6.out) (some ⟨g3, o3, none⟩) cc3 ((HR3t.out.below HX6.out).mono HX6.out.size)).mono ?_
  rintro e7 w7 ⟨hb7, A7, c7, rfl, hV7⟩
  have HX7 := Lib.hid (HX6.out.trans (hb7.mono HX6.out.size))
  have HB7 := Lib.hid (HB6.out.trans (hb7.mono HB6.out.size))
  have q4 := conv_rb (HV46.out.below hb7).sl.2.2.2 T.length c4 rfl
  have q5 := conv_rb (HV56.out.below hb7).sl.2.2.2 T.length c5 rfl
  have q6 := conv_rb (HV6.out.below hb7).sl.2.2.2 C.length c6 rfl
  have q7 := conv_rb hV7.sl.2.2.2 C.length c7 rfl
  have hsm : C.length ≤ 9223372036854775807 := by
    have h2 := hV7.sl.2.1
    have h3 := hV7.sl.2.2.1
    unfold maxLen at h3
    omega
  have HVW := Lib.hid (hV7.mono HX6.out.size).wu
  clear hb7 hV7 HV46 HV56 HV6 HB6 HX6 K1 K2 K3 K4
  go_wp2_with fail
  clear q4 q5 q6 q7
  obtain ⟨N, hN⟩ : ∃ N, N = C.length := ⟨_, rfl⟩
  rw [← hN] at hsm HVW ⊢
  clear hN
  go_loopg [18] N (fun k i wr => ∃ j : Nat, j + k = N ∧ i = .int .i64 (j : Int) ∧ Hid (Wu wr A7 N) ∧ Hid (Below w.heap.size w wr) ∧ Hid (Below w3.heap.size w3 wr))
  case atStart => exact ⟨0, by omega, rfl, Lib.hid HVW.out.1, HB7, HX7⟩
  case round =>
    obtain ⟨j, hj, rfl, HW, HB, HX⟩ := hrel
    clear HB7 HX7
    by_cases hlt : j < N
    · have hj1 : (j : Int) < (N : Int) := by omega
      obtain ⟨g, o, rfl, hg⟩ := HVW.out.2 (by omega)
      obtain ⟨⟨u, ku⟩, fu⟩ := HW.out g o rfl j hlt
      go_wp2
      go_roundg (gk - 1)
      case rel => exact ⟨j + 1, by omega, by go_num, Lib.hid (HW.out.set_ _ _), Lib.hid (HB.out.setCell (p := ⟨g, o + j, none⟩) (Nat.le_trans HB3.out.size hg) _), Lib.hid (HX.out.setCell (p := ⟨g, o + j, none⟩) hg _)⟩
      case measure => omega
    · have hj1 : ¬ (j : Int) < (N : Int) := by omega
      have q0 := fun q => conv_rb ((HR0.out.below HB.out).drewN q) n c HN0.out
      have q3 := fun q => conv_rb ((HR3t.out.below HX.out).drewN q) n cc3 HN0.out
      have k3 : wr.cell? ⟨g3, o3 + n, none⟩ = some (.int .u8 177) := by
        obtain ⟨b', off', e, _, hcl⟩ := (HR3.out.below HX.out).at_ (j := n) (by have := HN0.out; simp; omega)
        injection e with e
        injection e with e1 e2
        subst e1 e2
        rw [hcl n (by have := HN0.out; simp; omega)]
        have : bt (l ++ [177]) n = 177 := by unfold bt; rw [HN0.out]; simp
        rw [this]
      have i3 : (n : Int) < (l.length : Int) + 1 := by have := HN0.out; omega
      have i4 : (n : Int) ≤ (cc3 : Int) := by omega
      have z1 : ((er : Int) == er) = true := by simp
      have z2 : ((er2 : Int) == er2) = true := by simp
      clear HW HVW HR3 HR3t HX hj
      go_wp2
      go_quiet (fail)
      go_wp2
      go_ret
      exact ⟨bdrewN HB.out _, rfl⟩
end Go.Proofs.YtgbbadbffcjamaaDoor
