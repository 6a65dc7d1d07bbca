/-
  The plain law: replies that may be have bytes apart. No condition.
-/
import Derived.Test.YteicojighhhgjaaDoorPrint
namespace Go.Proofs.YteicojighhhgjaaDoor
set_option linter.unusedVariables false

theorem app_cr : ∀ (a b X Y : List UInt8), (∀ x ∈ a, x ≠ 13) → (∀ x ∈ b, x ≠ 13) → (a ++ 13 :: X) <+: (b ++ 13 :: Y) → a = b ∧ X <+: Y
  | [], [], X, Y, _, _, h => ⟨rfl, by simpa [List.cons_prefix_cons] using h⟩
  | [], y :: b, X, Y, _, hb, h => by
    rw [List.nil_append, List.cons_append, List.cons_prefix_cons] at h
    exact absurd h.1.symm (hb y (by simp))
  | x :: a, [], X, Y, ha, _, h => by
    rw [List.nil_append, List.cons_append, List.cons_prefix_cons] at h
    exact absurd h.1 (ha x (by simp))
  | x :: a, y :: b, X, Y, ha, hb, h => by
    rw [List.cons_append, List.cons_append, List.cons_prefix_cons] at h
    obtain ⟨h1, h2⟩ := app_cr a b X Y (fun z hz => ha z (by simp [hz])) (fun z hz => hb z (by simp [hz])) h.2
    exact ⟨by rw [h.1, h1], h2⟩
theorem line_cr {s : ByteArray} (h : lineOk s = true) : ∀ x ∈ s.data.toList, x ≠ 13 := by
  unfold lineOk textOk at h
  rw [Bool.and_eq_true] at h
  intro x hx e
  have := (List.all_eq_true.1 h.1) x hx
  subst e
  exact absurd this (by decide)
theorem prefix_app {d e X Y : List UInt8} (h : d.length = e.length) (hp : (d ++ X) <+: (e ++ Y)) : d = e ∧ X <+: Y := by
  obtain ⟨z, hz⟩ := hp
  rw [List.append_assoc] at hz
  obtain ⟨h1, h2⟩ := List.append_inj hz h
  exact ⟨h1, ⟨z, h2⟩⟩
theorem prt_apart {d e : List UInt8} (h : d.length = e.length) : ∀ (L M : List ByteArray), L.all lineOk = true → M.all lineOk = true → 1 ≤ L.length → prt d L <+: prt e M → d = e ∧ L = M
  | [], _, _, _, h1, _ => by simp at h1
  | s :: L, [], _, _, _, hp => by
    obtain ⟨z, hz⟩ := hp
    simp [prt] at hz
  | s :: L, t :: M, hL, hM, _, hp => by
    rw [List.all_cons, Bool.and_eq_true] at hL hM
    simp only [prt] at hp
    obtain ⟨rfl, h2⟩ := prefix_app h hp
    rw [List.cons_prefix_cons] at h2
    obtain ⟨h3, h4⟩ := app_cr _ _ _ _ (line_cr hL.1) (line_cr hM.1) h2.2
    rw [List.cons_prefix_cons] at h4
    obtain rfl := WideShapes.bytes_inj h3
    refine ⟨rfl, ?_⟩
    cases L with
    | nil =>
      cases M with
      | nil => rfl
      | cons _ _ => simp at h2
    | cons u L =>
      cases M with
      | nil => simp at h2
      | cons v M => rw [(prt_apart rfl (u :: L) (v :: M) hL.2 hM.2 (by simp) h4.2).2]
theorem dig3_inj {c d : Int} (hc : codeOk c = true) (hd : codeOk d = true) (h : dig3 c = dig3 d) : c = d := by
  unfold codeOk at hc hd
  rw [decide_eq_true_eq] at hc hd
  unfold dig3 at h
  simp only [List.cons.injEq, and_true] at h
  obtain ⟨h1, h2, h3⟩ := h
  replace h1 := congrArg UInt8.toNat h1
  replace h2 := congrArg UInt8.toNat h2
  replace h3 := congrArg UInt8.toNat h3
  simp only [UInt8.toNat_ofNat'] at h1 h2 h3
  omega
theorem apart_law {c d : Int} {L M : List ByteArray} (h1 : rightOk c L = true) (h2 : rightOk d M = true) (h : prt (dig3 c) L <+: prt (dig3 d) M) : c = d ∧ L = M := by
  obtain ⟨a1, a2, a3, a4⟩ := rightOk_parts h1
  obtain ⟨b1, b2, b3, b4⟩ := rightOk_parts h2
  obtain ⟨h3, h4⟩ := prt_apart (by rw [dig3_len, dig3_len]) L M a1 b1 a3 h
  exact ⟨dig3_inj a2 b2 h3, h4⟩
theorem prt_pos {c : Int} {L : List ByteArray} (h1 : rightOk c L = true) : 0 < (prt (dig3 c) L).length := by
  obtain ⟨a1, a2, a3, a4⟩ := rightOk_parts h1
  cases L with
  | nil => simp at a3
  | cons s r => simp [prt]; omega
end Go.Proofs.YteicojighhhgjaaDoor
