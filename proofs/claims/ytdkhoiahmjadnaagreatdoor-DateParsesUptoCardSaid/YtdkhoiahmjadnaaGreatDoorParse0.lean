/-
  What Parse reads, in plain words. No condition.
-/
import Derived.Test.YtdkhoiahmjadnaaGreatDoorZone
import Derived.Test.YtdkhoiahmjadnaaGreatDoorDay
namespace Go.Proofs.YtdkhoiahmjadnaaGreatDoor
open Go.RowKit Go.Sort
set_option linter.unusedVariables false

def dayB : List ByteArray := [⟨#[115, 117, 110]⟩, ⟨#[109, 111, 110]⟩, ⟨#[116, 117, 101]⟩, ⟨#[119, 101, 100]⟩, ⟨#[116, 104, 117]⟩, ⟨#[102, 114, 105]⟩, ⟨#[115, 97, 116]⟩]
def monB : List ByteArray := [⟨#[106, 97, 110]⟩, ⟨#[102, 101, 98]⟩, ⟨#[109, 97, 114]⟩, ⟨#[97, 112, 114]⟩, ⟨#[109, 97, 121]⟩, ⟨#[106, 117, 110]⟩, ⟨#[106, 117, 108]⟩, ⟨#[97, 117, 103]⟩, ⟨#[115, 101, 112]⟩, ⟨#[111, 99, 116]⟩, ⟨#[110, 111, 118]⟩, ⟨#[100, 101, 99]⟩]
theorem namF_rng (y : ByteArray) : ∀ (L : List ByteArray) (i : Int), 0 ≤ i → -1 ≤ namF y L i ∧ namF y L i < i + L.length ∨ namF y L i = -1
  | [], i, h => .inr rfl
  | x :: t, i, h => by
    unfold namF
    split
    · left
      simp only [List.length_cons]
      omega
    · rcases namF_rng y t (i + 1) (by omega) with h' | h'
      · left
        simp only [List.length_cons]
        omega
      · exact .inr h'
theorem namP_rng (L : List ByteArray) (s : ByteArray) : -1 ≤ namP L s ∧ namP L s ≤ (L.length : Int) - 1 ∨ namP L s = -1 := by
  rcases namF_rng (lowerP s) L 0 (by omega) with h | h
  · left
    unfold namP
    omega
  · exact .inr h
theorem clkF_rng : ∀ (l : List ByteArray) (bs : List Int) (v : Int) (j : Nat), (∀ b ∈ bs, -1 ≤ b ∧ b ≤ 59) → 0 ≤ v → v < 60 ^ j → l.length = bs.length → -1 ≤ clkF l bs v ∧ clkF l bs v < 60 ^ (j + bs.length)
  | [], bs, v, j, hb, h0, h1, hl => by
    have : bs = [] := List.eq_nil_of_length_eq_zero (by rw [← hl]; rfl)
    subst this
    unfold clkF
    exact ⟨by omega, by simpa using h1⟩
  | x :: t, b :: bs, v, j, hb, h0, h1, hl => by
    have hk := numP_rng x.data.toList 2 2 b (hb b (by simp)).1
    have hb2 := (hb b (by simp)).2
    rw [show clkF (x :: t) (b :: bs) v = if numP x.data.toList 2 2 b < 0 then -1 else clkF t bs (60 * v + numP x.data.toList 2 2 b) from rfl]
    by_cases hk0 : numP x.data.toList 2 2 b < 0
    · rw [if_pos hk0]
      have : (0 : Int) < 60 ^ (j + (b :: bs).length) := Int.pow_pos (by omega)
      exact ⟨by omega, by omega⟩
    · rw [if_neg hk0]
      have h2 : 60 * v + numP x.data.toList 2 2 b < 60 ^ (j + 1) := by rw [Int.pow_succ]; omega
      have := clkF_rng t bs (60 * v + numP x.data.toList 2 2 b) (j + 1) (fun c hc => hb c (by simp [hc])) (by omega) h2 (by simpa using hl)
      rw [show j + (b :: bs).length = j + 1 + bs.length by simp; omega]
      exact this
  | x :: t, [], v, j, hb, h0, h1, hl => by simp at hl
theorem clockP_rng (s : ByteArray) : -1 ≤ clockP s ∧ clockP s < 216000 := by
  unfold clockP clkM
  generalize (if (spl s).length = 2 then spl s ++ [⟨#[48, 48]⟩] else spl s) = M
  split
  · rename_i h
    exact clkF_rng M [23, 59, 59] 0 0 (by decide) (by omega) (by decide) h
  · omega
theorem zoneP_rng (s : ByteArray) : -90000 ≤ (zoneP s).1 ∧ (zoneP s).1 ≤ 90000 := by
  unfold zoneP
  split
  · exact ⟨by show (-90000 : Int) ≤ 0; omega, by show (0 : Int) ≤ 90000; omega⟩
  split
  · exact ⟨by show (-90000 : Int) ≤ 0; omega, by show (0 : Int) ≤ 90000; omega⟩
  generalize s.data.toList = l
  unfold zoneL
  split
  · rename_i a b c d e
    have h1 := numP_rng [b, c] 2 2 23 (by omega)
    have h2 := numP_rng [d, e] 2 2 59 (by omega)
    split
    · exact ⟨by show (-90000 : Int) ≤ 0; omega, by show (0 : Int) ≤ 90000; omega⟩
    · split <;> (constructor <;> (simp only []; omega))
  · exact ⟨by show (-90000 : Int) ≤ 0; omega, by show (0 : Int) ≤ 90000; omega⟩
/-- behind the day's name -/
def parseG (nm dd mm yy tt z : Int) (zb : Bool) : Int × Int :=
  if dd < 1 ∨ mm < 1 ∨ yy < 0 ∨ tt < 0 ∨ zb = false ∨ md yy mm < dd then (0, 130) else
  if (0 ≤ nm ∧ nm ≠ (dn yy mm dd - 719468 + 4) % 7) ∨ (dn yy mm dd - 719468) * 86400 + tt - z < 0 ∨ 253402300799 < (dn yy mm dd - 719468) * 86400 + tt - z then (0, 130) else
  ((dn yy mm dd - 719468) * 86400 + tt - z, 0)
def parseN (nm : Int) : List ByteArray → Int × Int
  | [a, b, c, d, e] => parseG nm (numP a.data.toList 1 2 31) (namP monB b + 1) (numP c.data.toList 4 4 9999) (clockP d) (zoneP e).1 (zoneP e).2
  | _ => (0, 130)
theorem parseN_not5 {nm : Int} {l : List ByteArray} (h : l.length ≠ 5) : parseN nm l = (0, 130) := by
  match l, h with
  | [], _ => rfl
  | [a], _ => rfl
  | [a, b], _ => rfl
  | [a, b, c], _ => rfl
  | [a, b, c, d], _ => rfl
  | [a, b, c, d, e], h => exact absurd rfl h
  | a :: b :: c :: d :: e :: f :: r, _ => rfl
def cutB (s : ByteArray) : ByteArray := ⟨(Lib.trimSuffix s.data.toList [44]).toArray⟩
def parseW : List ByteArray → Int × Int
  | [] => (0, 130)
  | x :: r => if Lib.hasSuffix x.data.toList [44] = true then (if namP dayB (cutB x) < 0 then (0, 130) else parseN (namP dayB (cutB x)) r) else parseN (-1) (x :: r)
def parseP (s : ByteArray) : Int × Int := parseW (Lib.goFieldsP isSp s)
theorem cutB_sz (s : ByteArray) : (cutB s).size ≤ s.size := by
  rw [Lib.size_eq, Lib.size_eq s]
  show (Lib.trimSuffix s.data.toList [44]).toArray.toList.length ≤ _
  unfold Lib.trimSuffix
  split
  · simp
  · exact Nat.le_refl _
theorem words_sz (p : Nat → Bool) (s : ByteArray) : ∀ x ∈ Lib.goFieldsP p s, x.size ≤ s.size := by
  intro x hx
  unfold Lib.goFieldsP at hx
  obtain ⟨y, _, rfl⟩ := List.mem_map.1 hx
  exact extract_le _ _ _
theorem tm7 (x : Int) : (x.tmod 7 + 7).tmod 7 = x % 7 := by
  rcases Int.lt_or_le x 0 with h | h
  · obtain ⟨y, rfl⟩ : ∃ y, x = -y := ⟨-x, by omega⟩
    rw [Int.neg_tmod, Int.tmod_eq_emod_of_nonneg (show 0 ≤ y by omega), Int.tmod_eq_emod_of_nonneg (by omega)]
    omega
  · rw [Int.tmod_eq_emod_of_nonneg h, Int.tmod_eq_emod_of_nonneg (by omega)]
    omega
end Go.Proofs.YtdkhoiahmjadnaaGreatDoor
