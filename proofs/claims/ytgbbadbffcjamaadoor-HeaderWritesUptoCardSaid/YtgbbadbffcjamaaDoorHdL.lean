/-
  The walks of both blank and Same, and of the program's lower. Conditions: a text's length.
-/
import Derived.Test.YtgbbadbffcjamaaDoorHdN
namespace Go.Proofs.YtgbbadbffcjamaaDoor
open Go.RowKit Go.Sort
set_option linter.unusedVariables false
theorem blank_walk (c : UInt8) (x : Int) (hx : x = (c.toNat : Int)) (w : World) : Calls Tryd.prog 22 #[.int .u8 x] w fun e w' => w = w' ∧ e = .returned (.bool (blC c)) := by
  subst hx
  have hF : blC c = decide (c.toNat = 32 ∨ c.toNat = 9) := rfl
  by_cases h1 : c.toNat = 32
  · have q : ((c.toNat : Int) == 32) = true := by rw [beq_iff_eq]; omega
    rw [hF, decide_eq_true (.inl h1)]
    clear hF h1
    go_enter Tryd.func22, Tryd.ntmps22
    go_wp2
    go_ret
    exact ⟨rfl, rfl⟩
  · have q : ((c.toNat : Int) == 32) = false := by rw [beq_eq_false_iff_ne]; omega
    by_cases h2 : c.toNat = 9
    · have q2 : ((c.toNat : Int) == 9) = true := by rw [beq_iff_eq]; omega
      rw [hF, decide_eq_true (.inr h2)]
      clear hF h1 h2
      go_enter Tryd.func22, Tryd.ntmps22
      go_wp2
      go_ret
      exact ⟨rfl, rfl⟩
    · have q2 : ((c.toNat : Int) == 9) = false := by rw [beq_eq_false_iff_ne]; omega
      rw [hF, decide_eq_false (fun h => h.elim h1 h2)]
      clear hF h1 h2
      go_enter Tryd.func22, Tryd.ntmps22
      go_wp2
      go_ret
      exact ⟨rfl, rfl⟩
theorem rblank_walk (c : UInt8) (x : Int) (hx : x = (c.toNat : Int)) (w : World) : Calls Tryd.prog 27 #[.int .u8 x] w fun e w' => w = w' ∧ e = .returned (.bool (blC c)) := by
  subst hx
  have hF : blC c = decide (c.toNat = 32 ∨ c.toNat = 9) := rfl
  by_cases h1 : c.toNat = 32
  · have q : ((c.toNat : Int) == 32) = true := by rw [beq_iff_eq]; omega
    rw [hF, decide_eq_true (.inl h1)]
    clear hF h1
    go_enter Tryd.func27, Tryd.ntmps27
    go_wp2
    go_ret
    exact ⟨rfl, rfl⟩
  · have q : ((c.toNat : Int) == 32) = false := by rw [beq_eq_false_iff_ne]; omega
    by_cases h2 : c.toNat = 9
    · have q2 : ((c.toNat : Int) == 9) = true := by rw [beq_iff_eq]; omega
      rw [hF, decide_eq_true (.inr h2)]
      clear hF h1 h2
      go_enter Tryd.func27, Tryd.ntmps27
      go_wp2
      go_ret
      exact ⟨rfl, rfl⟩
    · have q2 : ((c.toNat : Int) == 9) = false := by rw [beq_eq_false_iff_ne]; omega
      rw [hF, decide_eq_false (fun h => h.elim h1 h2)]
      clear hF h1 h2
      go_enter Tryd.func27, Tryd.ntmps27
      go_wp2
      go_ret
      exact ⟨rfl, rfl⟩
set_option maxHeartbeats 1000000 in
theorem lower_walk (s : ByteArray) (w : World) (hs : s.size ≤ maxLen) :
    Calls Tryd.prog 42 #[.string s] w fun e w' => Below w.heap.size w w' ∧ e = .returned (.string ⟨(s.data.toList.map lowC).toArray⟩) := by
  have hcv := conv_sb6 w s
  have ho := OwnW.conv w 5 s w.heap.size hs (Nat.le_refl _)
  have hb := below_bytesWorld w 5 s
  have hmx : s.size ≤ 9223372036854775807 := by unfold maxLen at hs; omega
  have hsz : s.size = s.data.toList.length := Lib.size_eq s
  generalize grownCap w s.size 0 5 = cp at *
  rw [← lowK_zero s.data.toList] at ho
  rw [hsz] at ho hcv hmx
  generalize s.data.toList = l at *
  have hR : l.map lowC = lowK l l.length := (lowK_end l).symm
  rw [hR]
  have OW := Lib.hid ho
  have HB := Lib.hid hb
  clear ho hb hs hsz hR
  have hcl := fun (W : World) (h : RB W W.heap.size (some ⟨w.heap.size, 0, none⟩) (lowK l l.length)) => run_convRB (P := Tryd.prog) 22 9 5 Tryd.underlying22 Tryd.underlying5 Tryd.underlying9 h l.length cp (lowK_len l _).symm
  have HCL := Lib.hid hcl
  clear hcl
  go_enter Tryd.func42, Tryd.ntmps42
  go_upto_region 2 with fail
  generalize hW : Lib.bytesWorld w 5 s = W at *
  clear hW hcv
  go_wp2_with fail
  go_loopg [10] l.length (fun k i wr => ∃ (j : Nat), j + k = l.length ∧ i = .int .i64 j ∧ Hid (Below w.heap.size w wr) ∧ Hid (OwnW wr w.heap.size (.slice (some ⟨w.heap.size, 0, none⟩) l.length cp) (lowK l j)))
  case atStart => exact ⟨0, by omega, rfl, HB, OW⟩
  case round =>
    obtain ⟨j, hj, rfl, HB2, OW2⟩ := hrel
    clear HB OW
    by_cases hlt : j < l.length
    · have hj1 : (j : Int) < (l.length : Int) := by omega
      obtain ⟨g, hg, -, hc, hf⟩ := OW2.out.byte (k := j) (by rw [lowK_len]; exact hlt)
      obtain rfl : w.heap.size = g := by injection hg with hg; injection hg
      rw [lowK_at l hlt] at hc
      have OS := fun (z : UInt8) => OW2.out.put (k := j) (by rw [lowK_len]; exact hlt) z
      have hlc := lowC_nat l[j]
      have HST := Lib.hid (lowK_set l hlt)
      have HSM := Lib.hid (fun h => lowK_same l hlt h)
      have h256 := l[j].toNat_lt
      have HLC : Hid (¬ (65 ≤ l[j].toNat ∧ l[j].toNat ≤ 90) → lowC l[j] = l[j]) := Lib.hid fun h => if_neg h
      generalize l[j] = x at *
      clear hg
      by_cases h65 : 65 ≤ x.toNat
      · have h65i : (65 : Int) ≤ (x.toNat : Int) := by omega
        by_cases h90 : x.toNat ≤ 90
        · have h90i : (x.toNat : Int) ≤ 90 := by omega
          rw [if_pos ⟨h65, h90⟩] at hlc
          have OP := OS (lowC x)
          rw [hlc, HST.out] at OP
          have OP2 := Lib.hid OP
          clear OS OP OW2 hlc HLC HSM
          go_wp2
          go_roundg (gk - 1)
          case rel => exact ⟨j + 1, by omega, by go_num, Lib.hid (HB2.out.setCell (Nat.le_refl _) _), OP2⟩
          case measure => omega
        · have h90i : ¬ (x.toNat : Int) ≤ 90 := by omega
          have HE := Lib.hid (HSM.out (HLC.out (by omega)))
          clear OS hlc HLC HSM HST
          go_wp2
          go_roundg (gk - 1)
          case rel => exact ⟨j + 1, by omega, by go_num, HB2, Lib.hid (HE.out ▸ OW2.out)⟩
          case measure => omega
      · have h65i : ¬ (65 : Int) ≤ (x.toNat : Int) := by omega
        have HE := Lib.hid (HSM.out (HLC.out (by omega)))
        clear OS hlc HLC HSM HST
        go_wp2
        go_roundg (gk - 1)
        case rel => exact ⟨j + 1, by omega, by go_num, HB2, Lib.hid (HE.out ▸ OW2.out)⟩
        case measure => omega
    · have hj1 : ¬ (j : Int) < (l.length : Int) := by omega
      obtain rfl : j = l.length := by omega
      obtain ⟨A, c, e, -, -, hr⟩ := OW2.out.out
      injection e with e1 e2 e3
      subst e1
      have hcl := HCL.out wr hr
      clear hr HCL hj hlt e2 e3
      go_wp2
      go_ret
      exact ⟨HB2.out, rfl⟩
/-- are two names the same? -/
def sameB (a b : ByteArray) : Bool := a.data.toList.map lowC == b.data.toList.map lowC
theorem same_walk (a b : ByteArray) (w : World) (ha : a.size ≤ maxLen) (hb : b.size ≤ maxLen) : Calls Tryd.prog 31 #[.string a, .string b] w fun e w' => Below w.heap.size w w' ∧ e = .returned (.bool (sameB a b)) := by
  have K1 := Lib.hid (lower_walk a w ha)
  have K2 := Lib.hid (fun w' => lower_walk b w' hb)
  obtain ⟨F, hF⟩ : ∃ F, sameB a b = F := ⟨_, rfl⟩
  rw [hF]
  have HF : Hid ((a.data.toList.map lowC == b.data.toList.map lowC) = F) := Lib.hid hF
  clear hF ha hb
  go_enter Tryd.func31, Tryd.ntmps31
  go_wp2_with fail
  refine K1.out.mono ?_
  rintro e1 w1 ⟨hb1, rfl⟩
  have HB1 := Lib.hid hb1
  clear hb1 K1
  go_wp2_with fail
  refine (K2.out w1).mono ?_
  rintro e2 w2 ⟨hb2, rfl⟩
  have HB2 := Lib.hid (HB1.out.trans (hb2.mono HB1.out.size))
  clear hb2 K2
  go_wp2
  go_ret
  exact ⟨HB2.out, by rw [← HF.out]; rfl⟩
theorem rsame_walk (a b : ByteArray) (w : World) (ha : a.size ≤ maxLen) (hb : b.size ≤ maxLen) : Calls Tryd.prog 32 #[.string a, .string b] w fun e w' => Below w.heap.size w w' ∧ e = .returned (.bool (sameB a b)) := by
  have K1 := Lib.hid (rlower_walk a w ha)
  have K2 := Lib.hid (fun w' => rlower_walk b w' hb)
  obtain ⟨F, hF⟩ : ∃ F, sameB a b = F := ⟨_, rfl⟩
  rw [hF]
  have HF : Hid ((a.data.toList.map lowC == b.data.toList.map lowC) = F) := Lib.hid hF
  clear hF ha hb
  go_enter Tryd.func32, Tryd.ntmps32
  go_wp2_with fail
  refine K1.out.mono ?_
  rintro e1 w1 ⟨hb1, rfl⟩
  have HB1 := Lib.hid hb1
  clear hb1 K1
  go_wp2_with fail
  refine (K2.out w1).mono ?_
  rintro e2 w2 ⟨hb2, rfl⟩
  have HB2 := Lib.hid (HB1.out.trans (hb2.mono HB1.out.size))
  clear hb2 K2
  go_wp2
  go_ret
  exact ⟨HB2.out, by rw [← HF.out]; rfl⟩
end Go.Proofs.YtgbbadbffcjamaaDoor
