/-
  The walks of the document's Value (no more pieces) and of plain. Conditions: the sizes.
-/
import Derived.Test.YtlknclkkhincfaaDoorTbRf
namespace Go.Proofs.YtlknclkkhincfaaDoor
open Go.RowKit
set_option linter.unusedVariables false
theorem rvalue_nil (l : List UInt8) (w : World) (hl : l.length ≤ 9223372036854775807) : Calls Tryd.prog 32 #[.string (bs l), .slice none 0 0] w fun e w' => w = w' ∧ e = .returned (.string (bs (trimB l))) := by
  have HT := Lib.hid (rtrim_walk l w hl)
  generalize trimB l = R at *
  go_enter Tryd.func32, Tryd.ntmps32
  go_wp2_with fail
  refine HT.out.mono ?_
  rintro e w2 ⟨rfl, rfl⟩
  clear HT
  go_wp2_with fail
  go_loopg [5, 6] 0 (fun k s5 s6 wr => s5 = .string (bs R) ∧ s6 = .int .i64 0 ∧ w = wr)
  case atStart => exact ⟨rfl, rfl, rfl⟩
  case round =>
    obtain ⟨rfl, rfl, rfl⟩ := hrel
    go_wp2_with fail
    go_ret
    exact ⟨rfl, rfl⟩
def keyC (c : UInt8) : Bool := decide (33 ≤ c.toNat) && decide (c.toNat ≤ 126)
def valC (c : UInt8) : Bool := decide (32 ≤ c.toNat) && decide (c.toNat ≤ 126)
/-- may an entry be written as one line? -/
def plainB (key value : List UInt8) : Bool :=
  key.all keyC && (value.all valC && (decide (0 < key.length) && (decide (key.length ≤ 320) && (!(key.head? == some 35) && (!(trimB value).isEmpty && decide (value.length ≤ 1000))))))
theorem all_step (p : UInt8 → Bool) {l : List UInt8} {j : Nat} (h : j < l.length) : (l.drop j).all p = (p l[j] && (l.drop (j + 1)).all p) := by
  rw [List.drop_eq_getElem_cons h, List.all_cons]
set_option maxRecDepth 100000 in
set_option maxHeartbeats 2000000 in
theorem plain_walk (key value : List UInt8) (w : World) (hk : key.length ≤ maxLen) (hv : value.length ≤ 9223372036854775807) :
    Calls Tryd.prog 12 #[.string (bs key), .string (bs value)] w fun e w' => Below w.heap.size w w' ∧ e = .returned (.bool (plainB key value)) := by
  have HL := Lib.hid (rlower_walk (bs key) w (by rw [bs_size]; exact hk))
  rw [bs_list] at HL
  have HV := Lib.hid (fun w2 => rvalue_nil value w2 hv)
  have hkl : (key.map lowC).length = key.length := by simp
  have hls : (bs (key.map lowC)).size = key.length := by rw [bs_size, hkl]
  have hks := bs_size key
  have hvs := bs_size value
  have hts := bs_size (trimB value)
  have htl := trimB_len value
  obtain ⟨R, hR⟩ : ∃ R, plainB key value = R := ⟨_, rfl⟩
  rw [hR]
  have HR := Lib.hid hR
  unfold maxLen at hk
  obtain ⟨T, hT⟩ : ∃ T, trimB value = T := ⟨_, rfl⟩
  rw [hT] at HV hts htl
  have HTT := Lib.hid hT
  have HG := Lib.hid (fun i (h : i < (bs key).size) (h2 : i < key.length) => bs_get key i h h2)
  have HG2 := Lib.hid (fun i (h : i < (bs value).size) (h2 : i < value.length) => bs_get value i h h2)
  obtain ⟨Lk, hLk⟩ : ∃ Lk, bs (key.map lowC) = Lk := ⟨_, rfl⟩
  rw [hLk] at hls
  have HL2 : Hid (Calls Tryd.prog 13 #[.string (bs key)] w fun e w' => Below w.heap.size w w' ∧ e = .returned (.string Lk)) := Lib.hid (by rw [← hLk]; exact HL.out)
  clear hkl hR HL hLk hT
  go_enter Tryd.func12, Tryd.ntmps12
  go_wp2_with fail
  refine HL2.out.mono ?_
  rintro e w2 ⟨hb2, rfl⟩
  have HB2 := Lib.hid hb2
  clear hb2 HL2
  go_wp2_with fail
  refine (HV.out w2).mono ?_
  rintro e w3 ⟨rfl, rfl⟩
  clear HV
  go_wp2_with fail
  go_loopg [7] key.length (fun k s7 wr => ∃ j : Nat, s7 = .int .i64 (j : Int) ∧ j + k = key.length ∧ w2 = wr ∧ Hid (R = ((key.drop j).all keyC && (value.all valC && (decide (0 < key.length) && (decide (key.length ≤ 320) && (!(key.head? == some 35) && (!T.isEmpty && decide (value.length ≤ 1000)))))))))
  case atStart => exact ⟨0, rfl, by omega, rfl, Lib.hid (by rw [← HR.out, List.drop_zero, ← HTT.out]; rfl)⟩
  case round =>
    clear HR
    obtain ⟨j, rfl, hj, rfl, HR⟩ := hrel
    by_cases hlt : j < key.length
    · have hlt1 : (j : Int) < (key.length : Int) := by omega
      have p0 : j < (bs key).size := by rw [hks]; exact hlt
      obtain ⟨c, hg, hs0⟩ : ∃ c, (bs key)[j]'p0 = c ∧ (key.drop j).all keyC = (keyC c && (key.drop (j + 1)).all keyC) := ⟨key[j]'hlt, HG.out j p0 hlt, all_step keyC hlt⟩
      have HS := Lib.hid hs0
      have hcl := c.toNat_lt
      clear hs0
      by_cases c1 : c.toNat < 33
      · have d1 : (c.toNat : Int) < 33 := by omega
        have HE : Hid (R = false) := Lib.hid (by rw [HR.out, HS.out]; unfold keyC; rw [decide_eq_false (show ¬ 33 ≤ c.toNat by omega)]; simp)
        clear HR HS
        go_wp2_with fail
        go_ret
        exact ⟨HB2.out, by rw [HE.out]; rfl⟩
      · have d1 : ¬ (c.toNat : Int) < 33 := by omega
        by_cases c2 : 126 < c.toNat
        · have d2 : (126 : Int) < (c.toNat : Int) := by omega
          have HE : Hid (R = false) := Lib.hid (by rw [HR.out, HS.out]; unfold keyC; rw [decide_eq_false (show ¬ c.toNat ≤ 126 by omega)]; simp)
          clear HR HS
          go_wp2_with fail
          go_ret
          exact ⟨HB2.out, by rw [HE.out]; rfl⟩
        · have d2 : ¬ (126 : Int) < (c.toNat : Int) := by omega
          have HR2 := Lib.hid HR.out
          rw [HS.out, show keyC c = true by unfold keyC; rw [decide_eq_true (show 33 ≤ c.toNat by omega), decide_eq_true (show c.toNat ≤ 126 by omega)]; rfl, Bool.true_and] at HR2
          clear HR HS c1 c2
          go_wp2_with fail
          go_roundg (gk - 1)
          case rel => exact ⟨j + 1, by go_num, by omega, rfl, HR2⟩
          case measure => omega
    · have hlt1 : ¬ (j : Int) < (key.length : Int) := by omega
      have HR2 := Lib.hid HR.out
      rw [List.drop_of_length_le (by omega), List.all_nil, Bool.true_and] at HR2
      clear HR
      go_wp2_with fail
      go_loopg [8] value.length (fun k s8 wr => ∃ j : Nat, s8 = .int .i64 (j : Int) ∧ j + k = value.length ∧ w2 = wr ∧ Hid (R = ((value.drop j).all valC && (decide (0 < key.length) && (decide (key.length ≤ 320) && (!(key.head? == some 35) && (!T.isEmpty && decide (value.length ≤ 1000))))))))
      case atStart => exact ⟨0, rfl, by omega, rfl, HR2⟩
      case round =>
        clear HR2
        obtain ⟨j2, rfl, hj2, rfl, HR⟩ := hrel
        by_cases hlt2 : j2 < value.length
        · have hlt3 : (j2 : Int) < (value.length : Int) := by omega
          have p0 : j2 < (bs value).size := by rw [hvs]; exact hlt2
          obtain ⟨c, hg, hs0⟩ : ∃ c, (bs value)[j2]'p0 = c ∧ (value.drop j2).all valC = (valC c && (value.drop (j2 + 1)).all valC) := ⟨value[j2]'hlt2, HG2.out j2 p0 hlt2, all_step valC hlt2⟩
          have HS := Lib.hid hs0
          have hcl := c.toNat_lt
          clear hs0
          by_cases c1 : c.toNat < 32
          · have d1 : (c.toNat : Int) < 32 := by omega
            have HE : Hid (R = false) := Lib.hid (by rw [HR.out, HS.out]; unfold valC; rw [decide_eq_false (show ¬ 32 ≤ c.toNat by omega)]; simp)
            clear HR HS
            go_wp2_with fail
            go_ret
            exact ⟨HB2.out, by rw [HE.out]; rfl⟩
          · have d1 : ¬ (c.toNat : Int) < 32 := by omega
            by_cases c2 : 126 < c.toNat
            · have d2 : (126 : Int) < (c.toNat : Int) := by omega
              have HE : Hid (R = false) := Lib.hid (by rw [HR.out, HS.out]; unfold valC; rw [decide_eq_false (show ¬ c.toNat ≤ 126 by omega)]; simp)
              clear HR HS
              go_wp2_with fail
              go_ret
              exact ⟨HB2.out, by rw [HE.out]; rfl⟩
            · have d2 : ¬ (126 : Int) < (c.toNat : Int) := by omega
              have HR2 := Lib.hid HR.out
              rw [HS.out, show valC c = true by unfold valC; rw [decide_eq_true (show 32 ≤ c.toNat by omega), decide_eq_true (show c.toNat ≤ 126 by omega)]; rfl, Bool.true_and] at HR2
              clear HR HS c1 c2
              go_wp2_with fail
              go_roundg (gk - 1)
              case rel => exact ⟨j2 + 1, by go_num, by omega, rfl, HR2⟩
              case measure => omega
        · have hlt3 : ¬ (j2 : Int) < (value.length : Int) := by omega
          have HR2 := Lib.hid HR.out
          rw [List.drop_of_length_le (by omega), List.all_nil, Bool.true_and] at HR2
          clear HR
          cases key with
          | nil =>
            have HE : Hid (R = false) := Lib.hid (by rw [HR2.out]; rfl)
            clear HR2
            go_wp2_with fail
            go_ret
            exact ⟨HB2.out, by rw [HE.out]; rfl⟩
          | cons c r =>
            have p0 : 0 < (bs (c :: r)).size := by rw [hks]; simp
            have hc0 : (bs (c :: r))[0]'p0 = c := rfl
            obtain ⟨m, hm⟩ : ∃ m, (c :: r).length = m := ⟨_, rfl⟩
            have hm0 : 0 < m := by rw [← hm]; simp
            have hmi : (0 : Int) < (m : Int) := by omega
            rw [hm] at hls hks hk HR2 hj hlt hlt1
            have HR3 : Hid (R = (decide (m ≤ 320) && (!(c == 35) && (!T.isEmpty && decide (value.length ≤ 1000))))) := Lib.hid (by rw [HR2.out, decide_eq_true hm0]; simp)
            clear hm HR2
            by_cases e1 : m ≤ 320
            · have f1 : (m : Int) ≤ 320 := by omega
              by_cases e2 : c = 35
              · have f2 : ((c.toNat : Int) != 35) = false := by rw [e2]; rfl
                have HE : Hid (R = false) := Lib.hid (by rw [HR3.out, e2]; simp)
                clear HR3 e2
                go_wp2_with fail
                go_ret
                exact ⟨HB2.out, by rw [HE.out]; rfl⟩
              · have f2 : ((c.toNat : Int) != 35) = true := by rw [bne_iff_ne]; intro e; exact e2 (UInt8.toNat_inj.1 (by have : (35 : UInt8).toNat = 35 := rfl; omega))
                cases T with
                | nil =>
                  have HE : Hid (R = false) := Lib.hid (by rw [HR3.out]; simp)
                  clear HR3 e2
                  go_wp2_with fail
                  go_ret
                  exact ⟨HB2.out, by rw [HE.out]; rfl⟩
                | cons a t =>
                  obtain ⟨q, hq⟩ : ∃ q, (a :: t).length = q := ⟨_, rfl⟩
                  have hq0 : 0 < q := by rw [← hq]; simp
                  have hqi : (0 : Int) < (q : Int) := by omega
                  rw [hq] at hts htl
                  have HR4 : Hid (R = decide (value.length ≤ 1000)) := Lib.hid (by rw [HR3.out, decide_eq_true e1, beq_eq_false_iff_ne.2 e2]; simp)
                  clear HR3 e2 hq
                  by_cases e3 : value.length ≤ 1000
                  · have f3 : (value.length : Int) ≤ 1000 := by omega
                    go_wp2_with fail
                    go_ret
                    exact ⟨HB2.out, by rw [HR4.out, decide_eq_true e3]; rfl⟩
                  · have f3 : ¬ (value.length : Int) ≤ 1000 := by omega
                    go_wp2_with fail
                    go_ret
                    exact ⟨HB2.out, by rw [HR4.out, decide_eq_false e3]; rfl⟩
            · have f1 : ¬ (m : Int) ≤ 320 := by omega
              have HE : Hid (R = false) := Lib.hid (by rw [HR3.out, decide_eq_false e1]; rfl)
              clear HR3
              go_wp2_with fail
              go_ret
              exact ⟨HB2.out, by rw [HE.out]; rfl⟩
end Go.Proofs.YtlknclkkhincfaaDoor
