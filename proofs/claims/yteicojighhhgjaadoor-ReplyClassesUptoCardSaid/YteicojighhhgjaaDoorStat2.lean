/-
  The status of a line in pieces: the plain law. No condition.
-/
import Derived.Test.YteicojighhhgjaaDoorStat
namespace Go.Proofs.YteicojighhhgjaaDoor
set_option linter.unusedVariables false

/-- the status, of three pieces -/
def stPc (p q r : List UInt8) : Option (Int × Int × Int) :=
  match p with
  | [x] => if (is245 (x.toNat : Int) && (smOk q && smOk r)) = true then some ((x.toNat : Int) - 48, valD q, valD r) else none
  | _ => none
theorem is245_ne {d : UInt8} (h : is245 (d.toNat : Int) = true) : d ≠ 32 ∧ d ≠ 46 := by
  unfold is245 at h
  rw [decide_eq_true_eq] at h
  refine ⟨?_, ?_⟩ <;> rintro rfl <;> simp at h
theorem good_head {l : List UInt8} {x a b : Int} {d : UInt8} {B C R : List UInt8} (g : Good l x a b d B C R) : (Lib.cut l [32]).1 = [d] ++ 46 :: (B ++ 46 :: C) ∧ (∀ b ∈ [d], b ≠ 46) ∧ (∀ b ∈ B, b ≠ 46) ∧ (∀ b ∈ C, b ≠ 46) := by
  obtain ⟨d1, d2⟩ := is245_ne g.hd
  have hB := (sm_parts g.hB).2.2.2
  have hC := (sm_parts g.hC).2.2.2
  refine ⟨?_, by intro b hb; rw [List.mem_singleton.1 hb]; exact d2, fun b hb => dg_ne (hB b hb) (by decide), fun b hb => dg_ne (hC b hb) (by decide)⟩
  rw [g.e, show d :: 46 :: (B ++ 46 :: (C ++ R)) = ([d] ++ 46 :: (B ++ 46 :: C)) ++ R by simp]
  refine cut_back ?_ g.hR
  intro b hb
  simp only [List.cons_append, List.nil_append, List.mem_cons, List.mem_append] at hb
  rcases hb with rfl | rfl | hb | rfl | hb
  · exact d1
  · decide
  · exact dg_ne (hB b hb) (by decide)
  · decide
  · exact dg_ne (hC b hb) (by decide)
theorem statP_few {l : List UInt8} (h : Lib.count (Lib.cut l [32]).1 [46] ≠ 2) : statP l = none := by
  cases hs : statP l with
  | none => rfl
  | some t =>
    obtain ⟨x, a, b⟩ := t
    obtain ⟨d, B, C, R, g⟩ := good_of hs
    obtain ⟨e, h1, h2, h3⟩ := good_head g
    rw [e] at h
    exact absurd (split2_back h1 h2 h3).1 h
theorem statP_two {l p q r : List UInt8} (hcut : (Lib.cut l [32]).1 = p ++ 46 :: (q ++ 46 :: r)) (h1 : ∀ b ∈ p, b ≠ 46) (h2 : ∀ b ∈ q, b ≠ 46) (h3 : ∀ b ∈ r, b ≠ 46) : statP l = stPc p q r := by
  cases hs : statP l with
  | some t =>
    obtain ⟨x, a, b⟩ := t
    obtain ⟨d, B, C, R, g⟩ := good_of hs
    obtain ⟨e, g1, g2, g3⟩ := good_head g
    have k1 := (split2_back h1 h2 h3).2
    have k2 := (split2_back g1 g2 g3).2
    rw [← hcut, e, k2] at k1
    simp only [List.cons.injEq, and_true] at k1
    obtain ⟨rfl, rfl, rfl⟩ := k1
    have e2 : stPc [d] B C = if (is245 (d.toNat : Int) && (smOk B && smOk C)) = true then some ((d.toNat : Int) - 48, valD B, valD C) else none := rfl
    rw [e2, g.hd, g.hB, g.hC, ← g.hx, ← g.ha, ← g.hb]
    rfl
  | none =>
    unfold stPc
    split
    · rename_i x
      split
      · rename_i hc
        simp only [Bool.and_eq_true] at hc
        obtain ⟨R, e, hR, _⟩ := cut_blank l
        rw [hcut] at e
        have g : Good l ((x.toNat : Int) - 48) (valD q) (valD r) x q r R := ⟨e.trans (by simp), hc.1, hc.2.1, hc.2.2, hR, rfl, rfl, rfl⟩
        rw [statP_of g] at hs
        cases hs
      · rfl
    · rfl
theorem has245 {x : UInt8} (h : is245 (x.toNat : Int) = true) : Lib.contains [50, 32, 52, 32, 53] [x] = true := by
  unfold is245 at h
  rw [decide_eq_true_eq] at h
  have : x = 50 ∨ x = 52 ∨ x = 53 := by
    rcases h with h | h | h
    · exact .inl (UInt8.toNat_inj.1 (by show _ = 50; omega))
    · exact .inr (.inl (UInt8.toNat_inj.1 (by show _ = 52; omega)))
    · exact .inr (.inr (UInt8.toNat_inj.1 (by show _ = 53; omega)))
  rcases this with rfl | rfl | rfl <;> decide
theorem of245 {x : UInt8} (h : Lib.contains [50, 32, 52, 32, 53] [x] = true) (hx : x ≠ 32) : is245 (x.toNat : Int) = true := by
  unfold Lib.contains at h
  rw [decide_eq_true_eq, Lib.index_one] at h
  obtain ⟨k, hk⟩ : ∃ k : Nat, Lib.indexByte [50, 32, 52, 32, 53] x = k := ⟨(Lib.indexByte [50, 32, 52, 32, 53] x).toNat, by omega⟩
  have h1 := (Lib.indexByte_some hk).1
  have hm := List.mem_of_getElem? h1
  simp only [List.mem_cons, List.not_mem_nil, or_false] at hm
  rcases hm with rfl | rfl | rfl | rfl | rfl
  · decide
  · exact absurd rfl hx
  · decide
  · exact absurd rfl hx
  · decide
end Go.Proofs.YteicojighhhgjaaDoor
