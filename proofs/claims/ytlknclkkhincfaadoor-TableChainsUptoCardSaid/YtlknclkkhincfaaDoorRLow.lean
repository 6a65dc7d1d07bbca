/-
  The walk of waybillref06's Lower: a text with a to z in the place of A to Z, byte by byte. Condition: the text's length.
-/
import Derived.Test.YtlknclkkhincfaaDoorLibAll
import Derived.Test.YtlknclkkhincfaaDoorProg
import Derived.Lib.ConvBytes
namespace Go.Proofs.YtlknclkkhincfaaDoor
open Go.RowKit
set_option linter.unusedVariables false

theorem OwnW.put {w : World} {base g n c : Nat} {l : List UInt8} (h : OwnW w base (.slice (some ⟨g, 0, none⟩) n c) l) {k : Nat} (hk : k < l.length) (z : UInt8) :
    OwnW (w.setCell ⟨g, k, none⟩ (.int .u8 (z.toNat : Int))) base (.slice (some ⟨g, 0, none⟩) n c) (l.set k z) := by
  obtain ⟨A, c', e, h1, h2, h3⟩ := h
  injection e with e1 e2 e3
  subst e1 e2 e3
  refine ⟨_, _, by rw [List.length_set], by rw [List.length_set]; exact h1, h2, ?_⟩
  rcases h3 with h3 | ⟨g', hA, hb, hg, hc⟩
  · subst h3; simp at hk
  · injection hA with hA
    injection hA with hA
    subst hA
    refine .inr ⟨g, rfl, hb, by simpa using hg, fun i hi => ?_⟩
    rw [List.length_set] at hi
    obtain ⟨c1, c2⟩ := hc i hi
    refine ⟨?_, by rw [World.frozen?_setCell]; exact c2⟩
    by_cases hik : i = k
    · subst hik
      rw [World.cell?_setCell_same w _ _ c1, bt_getElem (by rw [List.length_set]; exact hi), List.getElem_set_self]
    · rw [World.cell?_setCell_other w _ _ _ (fun e => hik (by injection e with _ e2; exact e2.symm)), c1]
      unfold bt
      rw [List.getD_eq_getElem?_getD, List.getD_eq_getElem?_getD, List.getElem?_set_ne (Ne.symm hik)]
theorem OwnW.byte {w : World} {base n c : Nat} {A : Option Addr} {l : List UInt8} (h : OwnW w base (.slice A n c) l) {k : Nat} (hk : k < l.length) :
    ∃ g, A = some ⟨g, 0, none⟩ ∧ base ≤ g ∧ w.cell? ⟨g, k, none⟩ = some (.int .u8 (bt l k)) ∧ w.frozen? ⟨g, k, none⟩ = false := by
  obtain ⟨A', c', e, h1, h2, h3⟩ := h
  injection e with e1 e2 e3
  subst e1
  rcases h3 with h3 | ⟨g, hA, hb, hg, hc⟩
  · subst h3; simp at hk
  · exact ⟨g, hA, hb, (hc k hk).1, (hc k hk).2⟩
/-- the first k bytes lowered -/
def lowK (l : List UInt8) (k : Nat) : List UInt8 := (l.take k).map lowC ++ l.drop k
theorem lowK_len (l : List UInt8) (k : Nat) : (lowK l k).length = l.length := by unfold lowK; simp; omega
theorem lowK_at (l : List UInt8) {k : Nat} (h : k < l.length) : bt (lowK l k) k = (l[k].toNat : Int) := by
  rw [bt_getElem (by rw [lowK_len]; exact h)]
  unfold lowK
  rw [List.getElem_append_right (by simp; omega)]
  simp
  congr 3
  omega
theorem lowK_set (l : List UInt8) {k : Nat} (h : k < l.length) : (lowK l k).set k (lowC l[k]) = lowK l (k + 1) := by
  unfold lowK
  have hl : ((l.take k).map lowC).length = k := by simp; omega
  have e1 : (l.drop k).set 0 (lowC l[k]) = lowC l[k] :: l.drop (k + 1) := by rw [List.drop_eq_getElem_cons h]; rfl
  rw [List.set_append, if_neg (by rw [hl]; omega), hl, Nat.sub_self, e1, List.take_succ_eq_append_getElem h, List.map_append, List.append_assoc]
  rfl
theorem lowK_same (l : List UInt8) {k : Nat} (h : k < l.length) (hc : lowC l[k] = l[k]) : lowK l k = lowK l (k + 1) := by
  rw [← lowK_set l h, hc]
  have := lowK_at l h
  have e : (lowK l k)[k]'(by rw [lowK_len]; exact h) = l[k] := by
    rw [bt_getElem (by rw [lowK_len]; exact h)] at this
    exact UInt8.toNat_inj.1 (by omega)
  rw [← e, List.set_getElem_self]
theorem lowK_end (l : List UInt8) : lowK l l.length = l.map lowC := by unfold lowK; simp
theorem lowK_zero (l : List UInt8) : lowK l 0 = l := by unfold lowK; simp
theorem conv_sb6 : ∀ (W : World) (s : ByteArray), (convert 9 80 (.string s)).run Tryd.prog W = .ok (.slice (some ⟨W.heap.size, 0, none⟩) s.size (grownCap W s.size 0 5)) (Lib.bytesWorld W 5 s) :=
  fun W s => Lib.run_convert_string_bytes W _ _ _ s Tryd.underlying9 Tryd.underlying80 Tryd.underlying5
set_option maxHeartbeats 1000000 in
theorem rlower_walk (s : ByteArray) (w : World) (hs : s.size ≤ maxLen) :
    Calls Tryd.prog 13 #[.string s] w fun e w' => Below w.heap.size w w' ∧ e = .returned (.string ⟨(s.data.toList.map lowC).toArray⟩) := by
  have hcv := conv_sb6 w s
  have ho := OwnW.conv w 5 s w.heap.size hs (Nat.le_refl _)
  have hb := below_bytesWorld w 5 s
  have hmx : s.size ≤ 9223372036854775807 := by unfold maxLen at hs; omega
  have hsz : s.size = s.data.toList.length := Lib.size_eq s
  generalize grownCap w s.size 0 5 = cp at *
  rw [← lowK_zero s.data.toList] at ho
  rw [hsz] at ho hcv hmx
  generalize s.data.toList = l at *
  have hR : l.map lowC = lowK l l.length := (lowK_end l).symm
  rw [hR]
  have OW := Lib.hid ho
  have HB := Lib.hid hb
  clear ho hb hs hsz hR
  have hcl := fun (W : World) (h : RB W W.heap.size (some ⟨w.heap.size, 0, none⟩) (lowK l l.length)) => run_convRB (P := Tryd.prog) 80 9 5 Tryd.underlying80 Tryd.underlying5 Tryd.underlying9 h l.length cp (lowK_len l _).symm
  have HCL := Lib.hid hcl
  clear hcl
  go_enter Tryd.func13, Tryd.ntmps13
  go_upto_region 2 with fail
  generalize hW : Lib.bytesWorld w 5 s = W at *
  clear hW hcv
  go_wp2_with fail
  go_loopg [4] l.length (fun k i wr => ∃ (j : Nat), j + k = l.length ∧ i = .int .i64 j ∧ Hid (Below w.heap.size w wr) ∧ Hid (OwnW wr w.heap.size (.slice (some ⟨w.heap.size, 0, none⟩) l.length cp) (lowK l j)))
  case atStart => exact ⟨0, by omega, rfl, HB, OW⟩
  case round =>
    obtain ⟨j, hj, rfl, HB2, OW2⟩ := hrel
    clear HB OW
    by_cases hlt : j < l.length
    · have hj1 : (j : Int) < (l.length : Int) := by omega
      obtain ⟨g, hg, -, hc, hf⟩ := OW2.out.byte (k := j) (by rw [lowK_len]; exact hlt)
      obtain rfl : w.heap.size = g := by injection hg with hg; injection hg
      rw [lowK_at l hlt] at hc
      have OS := fun (z : UInt8) => OW2.out.put (k := j) (by rw [lowK_len]; exact hlt) z
      have hlc := lowC_nat l[j]
      have HST := Lib.hid (lowK_set l hlt)
      have HSM := Lib.hid (fun h => lowK_same l hlt h)
      have h256 := l[j].toNat_lt
      have HLC : Hid (¬ (65 ≤ l[j].toNat ∧ l[j].toNat ≤ 90) → lowC l[j] = l[j]) := Lib.hid fun h => if_neg h
      generalize l[j] = x at *
      clear hg
      by_cases h65 : 65 ≤ x.toNat
      · have h65i : (65 : Int) ≤ (x.toNat : Int) := by omega
        by_cases h90 : x.toNat ≤ 90
        · have h90i : (x.toNat : Int) ≤ 90 := by omega
          rw [if_pos ⟨h65, h90⟩] at hlc
          have OP := OS (lowC x)
          rw [hlc, HST.out] at OP
          have OP2 := Lib.hid OP
          clear OS OP OW2 hlc HLC HSM
          go_wp2
          go_roundg (gk - 1)
          case rel => exact ⟨j + 1, by omega, by go_num, Lib.hid (HB2.out.setCell (Nat.le_refl _) _), OP2⟩
          case measure => omega
        · have h90i : ¬ (x.toNat : Int) ≤ 90 := by omega
          have HE := Lib.hid (HSM.out (HLC.out (by omega)))
          clear OS hlc HLC HSM HST
          go_wp2
          go_roundg (gk - 1)
          case rel => exact ⟨j + 1, by omega, by go_num, HB2, Lib.hid (HE.out ▸ OW2.out)⟩
          case measure => omega
      · have h65i : ¬ (65 : Int) ≤ (x.toNat : Int) := by omega
        have HE := Lib.hid (HSM.out (HLC.out (by omega)))
        clear OS hlc HLC HSM HST
        go_wp2
        go_roundg (gk - 1)
        case rel => exact ⟨j + 1, by omega, by go_num, HB2, Lib.hid (HE.out ▸ OW2.out)⟩
        case measure => omega
    · have hj1 : ¬ (j : Int) < (l.length : Int) := by omega
      obtain rfl : j = l.length := by omega
      obtain ⟨A, c, e, -, -, hr⟩ := OW2.out.out
      injection e with e1 e2 e3
      subst e1
      have hcl := HCL.out wr hr
      clear hr HCL hj hlt e2 e3
      go_wp2
      go_ret
      exact ⟨HB2.out, rfl⟩
end Go.Proofs.YtlknclkkhincfaaDoor
