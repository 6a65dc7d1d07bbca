/-
  The calendar, in plain words: a day's number, and back. No condition.
-/
import Derived.KernelRfl
namespace Go.Proofs.YtdkhoiahmjadnaaGreatDoor
set_option linter.unusedVariables false
def leapB (y : Int) : Bool := decide (y % 4 = 0 ∧ (¬ y % 100 = 0 ∨ y % 400 = 0))
def yd (y : Int) : Int := if leapB y then 366 else 365
def mlen (m : Int) : Int := if m = 2 then 28 else if m = 4 ∨ m = 6 ∨ m = 9 ∨ m = 11 then 30 else 31
def md (y m : Int) : Int := if m = 2 ∧ leapB y = true then 29 else mlen m
def mS (m : Int) : Int := if m < 3 then m + 9 else m - 3
def yS (y m : Int) : Int := if m < 3 then y - 1 else y
def dn (y m d : Int) : Int := 365 * yS y m + (yS y m / 4 - yS y m / 100 + yS y m / 400) + (153 * mS m + 2) / 5 + d - 1
theorem leap_iff (y : Int) : leapB y = true ↔ (y % 4 = 0 ∧ (¬ y % 100 = 0 ∨ y % 400 = 0)) := by unfold leapB; rw [decide_eq_true_eq]
theorem yd_dn (y : Int) : dn (y + 1) 1 1 - dn y 1 1 = yd y := by
  unfold dn yS mS yd
  simp only [show (1:Int) < 3 from by omega, if_true]
  split
  · rename_i h
    rw [leap_iff] at h
    omega
  · rename_i h
    rw [leap_iff] at h
    omega
theorem months {m : Int} (h1 : 1 ≤ m) (h2 : m ≤ 12) : m = 1 ∨ m = 2 ∨ m = 3 ∨ m = 4 ∨ m = 5 ∨ m = 6 ∨ m = 7 ∨ m = 8 ∨ m = 9 ∨ m = 10 ∨ m = 11 ∨ m = 12 := by omega
theorem md_dn (y m : Int) (h1 : 1 ≤ m) (h2 : m ≤ 11) : dn y (m + 1) 1 - dn y m 1 = md y m := by
  unfold md mlen
  rcases months h1 (by omega) with rfl | rfl | rfl | rfl | rfl | rfl | rfl | rfl | rfl | rfl | rfl | rfl
  · simp [dn, yS, mS]; omega
  · by_cases hl : leapB y = true
    · simp only [hl, and_self, if_true]
      rw [leap_iff] at hl
      simp [dn, yS, mS]
      omega
    · simp only [hl]
      rw [leap_iff] at hl
      simp [dn, yS, mS]
      omega
  all_goals first | omega | (simp [dn, yS, mS]; done) | (simp [dn, yS, mS]; omega)
theorem md12_dn (y : Int) : dn (y + 1) 1 1 - dn y 12 1 = md y 12 := by
  simp [dn, yS, mS, md, mlen]; omega
theorem dn_d (y m d : Int) : dn y m d = dn y m 1 + (d - 1) := by unfold dn; omega
structure Ok (y m d : Int) : Prop where
  m1 : 1 ≤ m
  m2 : m ≤ 12
  d1 : 1 ≤ d
  d2 : d ≤ md y m
theorem md_pos (y m : Int) : 28 ≤ md y m ∧ md y m ≤ 31 := by
  unfold md mlen
  repeat' split
  all_goals omega
theorem yd_pos (y : Int) : 365 ≤ yd y ∧ yd y ≤ 366 := by unfold yd; split <;> omega
/-- month by month -/
theorem dn_mono_m (y : Int) : ∀ (k : Nat) (m : Int), 1 ≤ m → m + k ≤ 12 → dn y m 1 + 28 * k ≤ dn y (m + k) 1
  | 0, m, _, _ => by simp
  | k + 1, m, h1, h2 => by
    have ih := dn_mono_m y k m h1 (by omega)
    have := md_dn y (m + k) (by omega) (by omega)
    have := md_pos y (m + k)
    have e : m + ((k + 1 : Nat) : Int) = m + k + 1 := by omega
    rw [e]; omega
theorem dn_mono_y : ∀ (k : Nat) (y : Int), dn y 1 1 + 365 * k ≤ dn (y + k) 1 1
  | 0, y => by simp
  | k + 1, y => by
    have ih := dn_mono_y k y
    have := yd_dn (y + k)
    have := yd_pos (y + k)
    have e : y + ((k + 1 : Nat) : Int) = y + k + 1 := by omega
    rw [e]; omega
theorem Ok.year {y m d : Int} (h : Ok y m d) : dn y 1 1 ≤ dn y m d ∧ dn y m d < dn (y + 1) 1 1 := by
  obtain ⟨h1, h2, h3, h4⟩ := h
  have a := dn_mono_m y (m - 1).toNat 1 (by omega) (by omega)
  have b := dn_mono_m y (12 - m).toNat m h1 (by omega)
  have c := md12_dn y
  rw [dn_d y m d]
  rw [show (1 : Int) + ((m - 1).toNat : Int) = m by omega] at a
  rw [show m + ((12 - m).toNat : Int) = 12 by omega] at b
  have p := md_pos y 12
  refine ⟨by omega, ?_⟩
  by_cases hm : m = 12
  · subst hm; omega
  · have e := md_dn y m h1 (by omega)
    have b2 := dn_mono_m y (11 - m).toNat (m + 1) (by omega) (by omega)
    rw [show m + 1 + ((11 - m).toNat : Int) = 12 by omega] at b2
    omega
theorem Ok.uniq {y m d y' m' d' : Int} (h : Ok y m d) (h' : Ok y' m' d') (e : dn y m d = dn y' m' d') : y = y' ∧ m = m' ∧ d = d' := by
  have a := h.year
  have b := h'.year
  have hy : y = y' := by
    rcases Int.lt_trichotomy y y' with hl | hl | hl
    · have := dn_mono_y (y' - (y + 1)).toNat (y + 1)
      rw [show y + 1 + ((y' - (y + 1)).toNat : Int) = y' by omega] at this
      omega
    · exact hl
    · have := dn_mono_y (y - (y' + 1)).toNat (y' + 1)
      rw [show y' + 1 + ((y - (y' + 1)).toNat : Int) = y by omega] at this
      omega
  subst hy
  rw [dn_d y m d, dn_d y m' d'] at e
  obtain ⟨h1, h2, h3, h4⟩ := h
  obtain ⟨g1, g2, g3, g4⟩ := h'
  have hm : m = m' := by
    rcases Int.lt_trichotomy m m' with hl | hl | hl
    · have := dn_mono_m y (m' - (m + 1)).toNat (m + 1) (by omega) (by omega)
      rw [show m + 1 + ((m' - (m + 1)).toNat : Int) = m' by omega] at this
      have := md_dn y m h1 (by omega)
      omega
    · exact hl
    · have := dn_mono_m y (m - (m' + 1)).toNat (m' + 1) (by omega) (by omega)
      rw [show m' + 1 + ((m - (m' + 1)).toNat : Int) = m by omega] at this
      have := md_dn y m' g1 (by omega)
      omega
  subst hm
  exact ⟨rfl, rfl, by omega⟩
def allB (p : Nat → Bool) : Nat → Nat → Bool
  | 0, lo => p lo
  | k + 1, lo => allB p k lo && allB p k (lo + 2 ^ k)
theorem allB_at (p : Nat → Bool) : ∀ (k lo : Nat), allB p k lo = true → ∀ i, i < 2 ^ k → p (lo + i) = true
  | 0, lo, h, i, hi => by
    have : i = 0 := by simpa using hi
    subst this; exact h
  | k + 1, lo, h, i, hi => by
    unfold allB at h
    rw [Bool.and_eq_true] at h
    rcases Nat.lt_or_ge i (2 ^ k) with h1 | h1
    · exact allB_at p k lo h.1 i h1
    · have := allB_at p k (lo + 2 ^ k) h.2 (i - 2 ^ k) (by rw [Nat.pow_succ] at hi; omega)
      rwa [show lo + 2 ^ k + (i - 2 ^ k) = lo + i by omega] at this
def yoe (r : Nat) : Nat := (r - r / 1460 + r / 36524 - r / 146096) / 365
def start (y : Nat) : Nat := 365 * y + y / 4 - y / 100 + y / 400
def chk (r : Nat) : Bool := Nat.ble 146097 r || (Nat.ble (start (yoe r)) r && Nat.ble (r + 1) (start (yoe r + 1)))
theorem chk_all : allB chk 18 0 = true := by decide +kernel
theorem yoe_ok {r : Nat} (h : r < 146097) : yoe r ≤ 399 ∧ start (yoe r) ≤ r ∧ r < start (yoe r + 1) := by
  have := allB_at chk 18 0 chk_all r (by omega)
  rw [Nat.zero_add] at this
  unfold chk at this
  rw [Bool.or_eq_true, Bool.and_eq_true] at this
  rcases this with h1 | ⟨h1, h2⟩
  · have := Nat.le_of_ble_eq_true h1; omega
  · refine ⟨?_, Nat.le_of_ble_eq_true h1, Nat.le_of_ble_eq_true h2⟩
    unfold yoe; omega
/-- the program's own reckoning, of a day n from the epoch on -/
def cE (n : Int) : Int := (n + 719468) / 146097
def cR (n : Int) : Int := (n + 719468) % 146097
def cY (r : Int) : Int := (r - r / 1460 + r / 36524 - r / 146096) / 365
def cD (r : Int) : Int := r - (365 * cY r + cY r / 4 - cY r / 100)
def cM (r : Int) : Int := (5 * cD r + 2) / 153
def civD (n : Int) : Int := cD (cR n) - (153 * cM (cR n) + 2) / 5 + 1
def civM (n : Int) : Int := if 12 < cM (cR n) + 3 then cM (cR n) + 3 - 12 else cM (cR n) + 3
def civY (n : Int) : Int := if 12 < cM (cR n) + 3 then cY (cR n) + 400 * cE n + 1 else cY (cR n) + 400 * cE n
theorem cY_ok {r : Int} (h0 : 0 ≤ r) (h1 : r < 146097) : 0 ≤ cY r ∧ cY r ≤ 399 ∧ 365 * cY r + cY r / 4 - cY r / 100 ≤ r ∧ r < 365 * (cY r + 1) + (cY r + 1) / 4 - (cY r + 1) / 100 + (cY r + 1) / 400 := by
  obtain ⟨k, rfl⟩ := Int.eq_ofNat_of_zero_le h0
  obtain ⟨a, b, c⟩ := yoe_ok (r := k) (by omega)
  have e : cY (k : Int) = (yoe k : Int) := by
    unfold cY yoe
    omega
  rw [e]
  unfold start at b c
  clear e
  generalize yoe k = y at *
  have e1 : (y : Int) / 4 = ((y / 4 : Nat) : Int) := by omega
  have e2 : (y : Int) / 100 = ((y / 100 : Nat) : Int) := by omega
  have e3 : ((y : Int) + 1) / 4 = (((y + 1) / 4 : Nat) : Int) := by omega
  have e4 : ((y : Int) + 1) / 100 = (((y + 1) / 100 : Nat) : Int) := by omega
  have e5 : ((y : Int) + 1) / 400 = (((y + 1) / 400 : Nat) : Int) := by omega
  have e6 : y / 400 = 0 := by omega
  have e7 : y / 100 ≤ 365 * y := by omega
  have e8 : (y + 1) / 100 ≤ 365 * (y + 1) := by omega
  rw [e6] at b
  rw [e1, e2, e3, e4, e5]
  generalize (y + 1) / 4 = q1 at *
  generalize (y + 1) / 100 = q2 at *
  generalize (y + 1) / 400 = q3 at *
  generalize y / 4 = q4 at *
  generalize y / 100 = q5 at *
  clear e1 e2 e3 e4 e5 e6
  omega
theorem civ_ok {n : Int} (h0 : 0 ≤ n) : Ok (civY n) (civM n) (civD n) ∧ dn (civY n) (civM n) (civD n) = n + 719468 := by
  have hr0 : 0 ≤ cR n := by unfold cR; omega
  have hr1 : cR n < 146097 := by unfold cR; omega
  obtain ⟨a, b, c, d⟩ := cY_ok hr0 hr1
  have hN : n + 719468 = 146097 * cE n + cR n := by unfold cE cR; omega
  have hD : cD (cR n) = cR n - (365 * cY (cR n) + cY (cR n) / 4 - cY (cR n) / 100) := rfl
  have hM : cM (cR n) = (5 * cD (cR n) + 2) / 153 := rfl
  have hd0 : 0 ≤ cD (cR n) := by omega
  have q4 : (cY (cR n) + 1) / 4 ≤ cY (cR n) / 4 + 1 := by omega
  have q100 : cY (cR n) / 100 ≤ (cY (cR n) + 1) / 100 := by omega
  have q400 : (cY (cR n) + 1) / 400 = 0 ∨ cY (cR n) = 399 := by omega
  have q399 : cY (cR n) = 399 → (cY (cR n) + 1) / 400 = 1 ∧ (cY (cR n) + 1) / 100 = cY (cR n) / 100 + 1 := by omega
  have hd1 : cD (cR n) ≤ 365 := by
    rcases q400 with h | h
    · omega
    · have := q399 h; omega
  have hlp : cD (cR n) = 365 → leapB (cY (cR n) + 400 * cE n + 1) = true := by
    intro h
    rw [leap_iff]
    rcases q400 with h4 | h4
    · have h1 : (cY (cR n) + 1) / 4 = cY (cR n) / 4 + 1 := by omega
      have h2 : (cY (cR n) + 1) / 100 = cY (cR n) / 100 := by omega
      have h3 : (cY (cR n) + 1) % 4 = 0 := by omega
      have h5 : ¬ (cY (cR n) + 1) % 100 = 0 := by omega
      clear hD hM hN hd0 hd1 q4 q100 q399 c d h1 h2 h
      generalize cY (cR n) = y at *
      generalize cE n = e at *
      omega
    · rw [h4]
      clear hD hM hN hd0 hd1 q4 q100 q399 c d h
      generalize cE n = e at *
      omega
  unfold civY civM civD
  rw [hN]
  generalize cD (cR n) = doy at *
  generalize cM (cR n) = mp at *
  generalize cY (cR n) = y at *
  generalize cE n = e at *
  generalize cR n = r at *
  have hm : 0 ≤ mp ∧ mp ≤ 11 := by omega
  have z4 : (y + 400 * e) / 4 = y / 4 + 100 * e := by omega
  have z100 : (y + 400 * e) / 100 = y / 100 + 4 * e := by omega
  have z400 : (y + 400 * e) / 400 = e := by omega
  clear q4 q100 q400 q399 c d
  by_cases hf : 12 < mp + 3
  · rw [if_pos hf, if_pos hf]
    refine ⟨⟨by omega, by omega, by omega, ?_⟩, ?_⟩
    · have : mp = 10 ∨ mp = 11 := by omega
      rcases this with rfl | rfl
      · simp [md, mlen]; omega
      · unfold md mlen
        simp only [show (11 + 3 - 12 : Int) = 2 by omega, true_and, if_true]
        by_cases hl : leapB (y + 400 * e + 1) = true
        · rw [if_pos hl]; omega
        · rw [if_neg hl]
          have : ¬ doy = 365 := fun h => hl (hlp h)
          omega
    · have h3 : mp + 3 - 12 < 3 := by omega
      unfold dn yS mS
      rw [if_pos h3, if_pos h3, show y + 400 * e + 1 - 1 = y + 400 * e by omega, z4, z100, z400, show mp + 3 - 12 + 9 = mp by omega]
      omega
  · rw [if_neg hf, if_neg hf]
    refine ⟨⟨by omega, by omega, by omega, ?_⟩, ?_⟩
    · have : mp = 0 ∨ mp = 1 ∨ mp = 2 ∨ mp = 3 ∨ mp = 4 ∨ mp = 5 ∨ mp = 6 ∨ mp = 7 ∨ mp = 8 ∨ mp = 9 := by omega
      rcases this with rfl | rfl | rfl | rfl | rfl | rfl | rfl | rfl | rfl | rfl <;> (simp [md, mlen]; omega)
    · have h3 : ¬ mp + 3 < 3 := by omega
      unfold dn yS mS
      rw [if_neg h3, if_neg h3, z4, z100, z400, show mp + 3 - 3 = mp by omega]
      omega
end Go.Proofs.YtdkhoiahmjadnaaGreatDoor
