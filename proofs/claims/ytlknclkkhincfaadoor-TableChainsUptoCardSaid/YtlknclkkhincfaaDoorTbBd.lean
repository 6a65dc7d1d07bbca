/-
  How long pieces are. No program in sight. No condition.
-/
import Derived.Test.YtlknclkkhincfaaDoorTbSe
namespace Go.Proofs.YtlknclkkhincfaaDoor
set_option linter.unusedVariables false
/-- a line of a text of n bytes -/
def LnB (n : Nat) (x : PL) : Prop := x.ps.length ≤ n + 1 ∧ ∀ p ∈ x.ps, p.length ≤ n
theorem join_len (n : Nat) : ∀ ps : List (List UInt8), (∀ p ∈ ps, p.length ≤ n) → (Lib.join ps [32]).length ≤ ps.length * (n + 1)
  | [], _ => by rw [Lib.join_nil]; simp
  | x :: r, h => by
    rw [Lib.join_cons]
    have hx := h x (by simp)
    have : ∀ r : List (List UInt8), (∀ p ∈ r, p.length ≤ n) → (Lib.joinTail [32] r).length ≤ r.length * (n + 1) := by
      intro r
      induction r with
      | nil => intro _; simp [Lib.joinTail]
      | cons y t ih =>
        intro hr
        have := ih (fun p hp => hr p (by simp [hp]))
        have hy := hr y (by simp)
        unfold Lib.joinTail at this ⊢
        rw [List.map_cons, List.flatten_cons, List.length_append, List.length_cons, Nat.succ_mul]
        simp only [List.length_append, List.length_cons, List.length_nil]
        omega
    have h2 := this r (fun p hp => h p (by simp [hp]))
    rw [List.length_append, List.length_cons, Nat.succ_mul]
    omega
theorem addP_bd {n a : Nat} {x : PL} {s : List UInt8} (h : x.ps.length ≤ a) (h2 : ∀ p ∈ x.ps, p.length ≤ n) (hs : s.length ≤ n) : (addP x s).ps.length ≤ a + 1 ∧ ∀ p ∈ (addP x s).ps, p.length ≤ n := by
  unfold addP
  split
  · exact ⟨by omega, h2⟩
  · refine ⟨by show (x.ps ++ [trimB s]).length ≤ _; simp; omega, fun p hp => ?_⟩
    rcases List.mem_append.1 hp with hp | hp
    · exact h2 p hp
    · obtain rfl : p = trimB s := by simpa using hp
      have := trimB_len s
      omega
theorem modLast_bd {n a : Nat} {out : List PL} {s : List UInt8} (h : ∀ x ∈ out, x.ps.length ≤ a ∧ ∀ p ∈ x.ps, p.length ≤ n) (hs : s.length ≤ n) : ∀ x ∈ modLast out s, x.ps.length ≤ a + 1 ∧ ∀ p ∈ x.ps, p.length ≤ n := by
  intro x hx
  unfold modLast at hx
  split at hx
  · have := h x hx; exact ⟨by omega, this.2⟩
  · rename_i y hy
    have hy2 := h y (List.mem_of_getLast? hy)
    rcases List.mem_append.1 hx with hx | hx
    · rw [List.dropLast_eq_take] at hx
      have := h x (List.mem_of_mem_take hx); exact ⟨by omega, this.2⟩
    · obtain rfl : x = addP y s := by simpa using hx
      exact addP_bd hy2.1 hy2.2 hs
theorem cutStep_bd {n a : Nat} {at_ : Nat} {s : List UInt8} {o : List PL × Int} (h : ∀ x ∈ o.1, x.ps.length ≤ a ∧ ∀ p ∈ x.ps, p.length ≤ n) (hs : s.length ≤ n) : ∀ x ∈ (cutStep at_ s o).1, x.ps.length ≤ a + 1 ∧ ∀ p ∈ x.ps, p.length ≤ n := by
  have up : ∀ x ∈ o.1, x.ps.length ≤ a + 1 ∧ ∀ p ∈ x.ps, p.length ≤ n := fun x hx => ⟨by have := (h x hx).1; omega, (h x hx).2⟩
  unfold cutStep
  split
  · exact up
  split
  · intro x hx
    rcases List.mem_append.1 hx with hx | hx
    · exact up x hx
    · obtain rfl : x = newPL at_ s := by simpa using hx
      have hd : (s.drop (firstBl s)).length ≤ n := by rw [List.length_drop]; omega
      obtain ⟨h1, h2⟩ := addP_bd (n := n) (a := 0) (x := ⟨at_, Lib.mapD lowU (s.take (firstBl s)), []⟩) (s := s.drop (firstBl s)) (by simp) (by simp) hd
      exact ⟨by have : (newPL at_ s).ps.length ≤ 0 + 1 := h1; omega, h2⟩
  split
  · exact up
  · exact modLast_bd h hs
theorem cutStep_len (at_ : Nat) (s : List UInt8) (o : List PL × Int) : (cutStep at_ s o).1.length ≤ o.1.length + 1 := by
  unfold cutStep
  split
  · omega
  split
  · simp
  split
  · exact Nat.le_succ _
  · show (modLast o.1 s).length ≤ _
    unfold modLast
    split
    · exact Nat.le_succ _
    · rw [List.length_append, List.length_dropLast]; simp
theorem cutGo_bd (n : Nat) : ∀ (f : Nat) (rest : List UInt8) (at_ a : Nat) (o : List PL × Int), rest.length ≤ n → (∀ x ∈ o.1, x.ps.length ≤ a ∧ ∀ p ∈ x.ps, p.length ≤ n) →
    (∀ x ∈ (cutGo f rest at_ o).1, x.ps.length ≤ a + f ∧ ∀ p ∈ x.ps, p.length ≤ n) ∧ (cutGo f rest at_ o).1.length ≤ o.1.length + f
  | 0, rest, at_, a, o, _, h => ⟨fun x hx => h x hx, by simp [cutGo]⟩
  | f + 1, rest, at_, a, o, hr, h => by
    rw [cutGo]
    split
    · exact ⟨fun x hx => ⟨by have := (h x hx).1; omega, (h x hx).2⟩, by omega⟩
    · have hl := lineOf_len rest
      obtain ⟨h1, h2⟩ := cutGo_bd n f (rest.drop ((lineOf rest).length + 1)) (at_ + (lineOf rest).length + 1) (a + 1) (cutStep at_ (lineOf rest) o) (by rw [List.length_drop]; omega) (cutStep_bd h (by omega))
      have h3 := cutStep_len at_ (lineOf rest) o
      exact ⟨fun x hx => ⟨by have := (h1 x hx).1; omega, (h1 x hx).2⟩, by omega⟩
theorem cutP_bd (text : List UInt8) : (∀ x ∈ (cutP text).1, LnB text.length x) ∧ (cutP text).1.length ≤ text.length := by
  obtain ⟨h1, h2⟩ := cutGo_bd text.length text.length text 0 0 ([], Lib.idxFunc badR true ⟨text.toArray⟩) (Nat.le_refl _) (fun x hx => by cases hx)
  have h3 : (cutP text).1.length ≤ 0 + text.length := h2
  exact ⟨fun x hx => ⟨by have := (h1 x hx).1; omega, (h1 x hx).2⟩, by omega⟩
end Go.Proofs.YtlknclkkhincfaaDoor
