/-
  The walks of the document's blank, Trim, Value. Conditions: the sizes.
-/
import Derived.Test.YtlknclkkhincfaaDoorTbCut
import Derived.Test.YtlknclkkhincfaaDoorRLow
import Derived.Test.YtlknclkkhincfaaDoorTbAsk
namespace Go.Proofs.YtlknclkkhincfaaDoor
open Go.RowKit
set_option linter.unusedVariables false
theorem snoc_or {α : Type} (m : List α) : m = [] ∨ ∃ m' d, m = m' ++ [d] := by
  rcases List.eq_nil_or_concat m with h | ⟨m', d, h⟩
  · exact .inl h
  · exact .inr ⟨m', d, by rw [h, List.concat_eq_append]⟩
theorem trimR_bl {m : List UInt8} {c : UInt8} (h : isBl c = true) : trimR (m ++ [c]) = trimR m := by unfold trimR; simp [List.dropWhile_cons_of_pos, h]
theorem trimR_no {m : List UInt8} {c : UInt8} (h : isBl c = false) : trimR (m ++ [c]) = m ++ [c] := by unfold trimR; simp [h]
theorem trimB_blN {c : UInt8} (h : isBl c = true) : ∀ (n : Nat) (m : List UInt8), m.length ≤ n → trimB (c :: m) = trimB m
  | n, m, hn => by
    rcases snoc_or m with rfl | ⟨m', d, rfl⟩
    · unfold trimB trimR trimL; simp [h]
    · by_cases hd : isBl d = true
      · have ih : trimB (c :: m') = trimB m' := by
          cases n with
          | zero => simp at hn
          | succ n => exact trimB_blN h n m' (by simp at hn; omega)
        unfold trimB at ih ⊢
        rw [← List.cons_append, trimR_bl hd, trimR_bl hd, ih]
      · have hd' : isBl d = false := by simpa using hd
        unfold trimB
        rw [← List.cons_append, trimR_no hd', trimR_no hd']
        unfold trimL
        rw [List.cons_append, List.dropWhile_cons_of_pos h]
theorem trimB_bl {c : UInt8} (h : isBl c = true) (m : List UInt8) : trimB (c :: m) = trimB m := trimB_blN h m.length m (Nat.le_refl _)
theorem trimB_snoc {c : UInt8} (h : isBl c = true) (m : List UInt8) : trimB (m ++ [c]) = trimB m := by unfold trimB; rw [trimR_bl h]
theorem trimB_self {m : List UInt8} {c d : UInt8} (hc : isBl c = false) (hd : isBl d = false) (h1 : m.head? = some c) (h2 : m.getLast? = some d) : trimB m = m := by
  rcases snoc_or m with rfl | ⟨m', e, rfl⟩
  · cases h1
  · obtain rfl : e = d := by simpa using h2
    unfold trimB
    rw [trimR_no hd]
    unfold trimL
    cases m' with
    | nil =>
      obtain rfl : e = c := by simpa using h1
      simp [hc]
    | cons a r =>
      obtain rfl : a = c := by simpa using h1
      rw [List.cons_append, List.dropWhile_cons_of_neg (by simp [hc])]
theorem blank_walk (c : UInt8) (w : World) : Calls Tryd.prog 42 #[.int .u8 (c.toNat : Int)] w fun e w' => w = w' ∧ e = .returned (.bool (isBl c)) := by
  unfold isBl
  by_cases h1 : c = 32
  · subst h1
    go_enter Tryd.func42, Tryd.ntmps42
    go_wp2
    go_ret
    exact ⟨rfl, rfl⟩
  · by_cases h2 : c = 9
    · subst h2
      go_enter Tryd.func42, Tryd.ntmps42
      go_wp2
      go_ret
      exact ⟨rfl, rfl⟩
    · have b1 : (c == 32) = false := beq_eq_false_iff_ne.2 h1
      have b2 : (c == 9) = false := beq_eq_false_iff_ne.2 h2
      have c1 : ((c.toNat : Int) == 32) = false := beq_eq_false_iff_ne.2 (fun e => h1 (UInt8.toNat_inj.1 (by have : (32 : UInt8).toNat = 32 := rfl; omega)))
      have c2 : ((c.toNat : Int) == 9) = false := beq_eq_false_iff_ne.2 (fun e => h2 (UInt8.toNat_inj.1 (by have : (9 : UInt8).toNat = 9 := rfl; omega)))
      rw [b1, b2]
      clear h1 h2 b1 b2
      generalize (c.toNat : Int) = x at *
      go_enter Tryd.func42, Tryd.ntmps42
      go_wp2
      go_ret
      exact ⟨rfl, rfl⟩
set_option maxRecDepth 100000 in
set_option maxHeartbeats 1000000 in
theorem rtrim_walk (l : List UInt8) (w : World) (hl : l.length ≤ 9223372036854775807) : Calls Tryd.prog 41 #[.string (bs l)] w fun e w' => w = w' ∧ e = .returned (.string (bs (trimB l))) := by
  obtain ⟨R, hR⟩ : ∃ R, trimB l = R := ⟨_, rfl⟩
  rw [hR]
  have HR := Lib.hid hR
  clear hR
  go_enter Tryd.func41, Tryd.ntmps41
  go_wp2_with fail
  go_loopg [0] l.length (fun k s0 wr => ∃ m : List UInt8, s0 = .string (bs m) ∧ m.length ≤ k ∧ m.length ≤ l.length ∧ w = wr ∧ Hid (trimB m = R))
  case atStart => exact ⟨l, rfl, by omega, by omega, rfl, HR⟩
  case round =>
    clear HR
    obtain ⟨m, rfl, hk, hml, rfl, HR⟩ := hrel
    cases m with
    | nil =>
      have hz : (bs []).size = 0 := rfl
      have HE : Hid (R = []) := Lib.hid (by rw [← HR.out]; rfl)
      go_wp2_with fail
      go_loopg [0] 0 (fun k s0 wr => s0 = .string (bs []) ∧ w = wr)
      case atStart => exact ⟨rfl, rfl⟩
      case round =>
        obtain ⟨rfl, rfl⟩ := hrel
        go_wp2_with fail
        go_ret
        exact ⟨rfl, by rw [HE.out]; rfl⟩
    | cons c r =>
      have hsz := bs_size (c :: r)
      have p0 : 0 < (bs (c :: r)).size := by rw [hsz]; simp
      have hc0 : (bs (c :: r))[0]'p0 = c := rfl
      have hlen : (c :: r).length = r.length + 1 := rfl
      rw [hlen] at hsz
      have HX := Lib.hid (from_bs (c :: r) 1)
      rw [hlen] at HX
      have KB := Lib.hid (blank_walk c w)
      cases hb : isBl c with
      | true =>
        rw [hb] at KB
        have HR2 : Hid (trimB r = R) := Lib.hid (by rw [← HR.out, trimB_bl hb])
        clear hb HR
        go_wp2_with fail
        refine KB.out.mono ?_
        rintro e w2 ⟨rfl, rfl⟩
        go_wp2_with fail
        simp only [HX.out]
        go_roundg (gk - 1)
        case rel => exact ⟨r, rfl, by omega, by omega, rfl, HR2⟩
        case measure => omega
      | false =>
        rw [hb] at KB
        go_wp2_with fail
        refine KB.out.mono ?_
        rintro e w2 ⟨rfl, rfl⟩
        have HC := Lib.hid hb
        have HR3 := Lib.hid HR.out
        clear hb HR KB HX hsz p0 hc0 hlen
        go_wp2_with fail
        go_loopg [0] (c :: r).length (fun k s0 wr => ∃ m : List UInt8, s0 = .string (bs m) ∧ m.length ≤ k ∧ m.length ≤ l.length ∧ w = wr ∧ Hid (trimB m = R ∧ m.head? = some c))
        case atStart => exact ⟨c :: r, rfl, Nat.le_refl _, by simpa using hml, rfl, Lib.hid ⟨HR3.out, rfl⟩⟩
        case round =>
          obtain ⟨m, rfl, hk2, hml2, rfl, HM⟩ := hrel
          clear HR3
          rcases snoc_or m with rfl | ⟨m', d, rfl⟩
          · have := HM.out.2; cases this
          · have hsz : (bs (m' ++ [d])).size = m'.length + 1 := by rw [bs_size]; simp
            have p1 : m'.length < (bs (m' ++ [d])).size := by rw [hsz]; omega
            have hd0 : (bs (m' ++ [d]))[m'.length]'p1 = d := by rw [bs_get (m' ++ [d]) m'.length p1 (by simp)]; simp
            have hw : IntKind.i64.wrap (((m'.length : Int) + 1) - 1) = (m'.length : Int) := by rw [IntWalk.i64_in _ (by simp at hml2; omega)]; omega
            have hmm : m'.length + 1 ≤ 9223372036854775807 := by simp at hml2; omega
            have HX := Lib.hid (show (bs (m' ++ [d])).extract 0 m'.length = bs m' by rw [upto_bs]; simp)
            have KB := Lib.hid (blank_walk d w)
            cases hb : isBl d with
            | true =>
              rw [hb] at KB
              have HM2 : Hid (trimB m' = R ∧ m'.head? = some c) := Lib.hid (by
                obtain ⟨h1, h2⟩ := HM.out
                refine ⟨by rw [← h1, trimB_snoc hb], ?_⟩
                cases m' with
                | nil =>
                  obtain rfl : d = c := by simpa using h2
                  rw [HC.out] at hb; cases hb
                | cons a r => simpa using h2)
              clear hb
              go_wp2_with fail
              refine KB.out.mono ?_
              rintro e w2 ⟨rfl, rfl⟩
              go_wp2_with fail
              simp only [HX.out]
              go_roundg (gk - 1)
              case rel => exact ⟨m', rfl, by simp at hk2; omega, by simp at hml2; omega, rfl, HM2⟩
              case measure => simp at hk2; omega
            | false =>
              rw [hb] at KB
              have HE : Hid (R = m' ++ [d]) := Lib.hid (by
                obtain ⟨h1, h2⟩ := HM.out
                rw [← h1]
                exact trimB_self HC.out hb h2 (by simp))
              clear hb
              go_wp2_with fail
              refine KB.out.mono ?_
              rintro e w2 ⟨rfl, rfl⟩
              go_wp2_with fail
              go_ret
              exact ⟨rfl, by rw [HE.out]; rfl⟩
end Go.Proofs.YtlknclkkhincfaaDoor
