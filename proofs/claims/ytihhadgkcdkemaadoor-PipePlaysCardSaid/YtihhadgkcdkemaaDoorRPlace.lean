/-
  The walks of the document's place, Len and Room. No condition.
-/
import Derived.Test.YtihhadgkcdkemaaDoorRSt
import Derived.BigQuiet
import Derived.Deep.QuietTactic
namespace Go.Proofs.YtihhadgkcdkemaaDoor
open Go.RowKit Go.Maps
set_option linter.unusedVariables false
theorem idxQ_first {f t : ByteArray} : ∀ {S : List Pq} {j : Nat} {x : Pq}, (∀ (i : Nat) (y : Pq), i < j → S[i]? = some y → ¬ (y.fr = f ∧ y.tt = t)) → S[j]? = some x → x.fr = f ∧ x.tt = t → idxQ f t S = some j
  | [], j, x, _, hx, _ => by simp at hx
  | y :: S, 0, x, _, hx, hm => by
    obtain rfl : y = x := by simpa using hx
    unfold idxQ
    rw [if_pos hm]
  | y :: S, j + 1, x, h, hx, hm => by
    unfold idxQ
    rw [if_neg (h 0 y (by omega) rfl), idxQ_first (fun i z hi hz => h (i + 1) z (Nat.succ_lt_succ hi) (by simpa using hz)) (by simpa using hx) hm]
    rfl
def placeI (S : List Pq) (f t : ByteArray) : Int := match idxQ f t S with
  | none => -1
  | some i => (i : Int)
set_option maxRecDepth 100000 in
set_option maxHeartbeats 1000000 in
theorem place_walk (w : World) (own : Nat → Nat × Nat) (rb : Nat) (S : List Pq) (h : RSt w own rb S) (f t : ByteArray) :
    Calls Tryd.prog 30 #[.pointer (some ⟨rb, 0, none⟩), .string f, .string t] w fun e w' => e = .returned (.int .i64 (placeI S f t)) ∧ w' = w := by
  obtain ⟨A, c, hc1, hc2, k0⟩ := h.head
  have hS : S.length ≤ 9223372036854775807 := by unfold maxLen at hc2; omega
  have HC := Lib.hid fun (i : Nat) (x : Pq) (hx : S[i]? = some x) => h.cells hx
  have HP1 : Hid (∀ (j : Nat) (x : Pq), (∀ (i : Nat) (y : Pq), i < j → S[i]? = some y → ¬ (y.fr = f ∧ y.tt = t)) → S[j]? = some x → x.fr = f ∧ x.tt = t → placeI S f t = (j : Int)) := Lib.hid fun j x a b c => by unfold placeI; rw [idxQ_first a b c]
  have HP2 : Hid ((∀ (i : Nat) (y : Pq), i < S.length → S[i]? = some y → ¬ (y.fr = f ∧ y.tt = t)) → placeI S f t = -1) := Lib.hid fun a => by
    unfold placeI
    rw [idxQ_none_mk fun x hx => by
      obtain ⟨i, hi, rfl⟩ := List.mem_iff_getElem.1 hx
      exact a i _ hi (List.getElem?_eq_getElem hi)]
  obtain ⟨n, hn⟩ : ∃ n, n = S.length := ⟨_, rfl⟩
  have HN := Lib.hid hn
  rw [← hn] at k0 hS HP2
  clear h hc1 hc2 hn
  go_enter Tryd.func30, Tryd.ntmps30
  go_wp2
  go_loopg [7] n (fun k s7 wr => w = wr ∧ ∃ j : Nat, j + k = n ∧ s7 = .int .i64 (j : Int) ∧ Hid (∀ (i : Nat) (y : Pq), i < j → S[i]? = some y → ¬ (y.fr = f ∧ y.tt = t)))
  case atStart => exact ⟨rfl, 0, by omega, rfl, Lib.hid fun i y hi => by omega⟩
  case round =>
    obtain ⟨rfl, j, hj, rfl, H⟩ := hrel
    by_cases hlt : j < n
    · have hj1 : (j : Int) < (n : Int) := by omega
      obtain ⟨x, hx⟩ : ∃ x, S[j]? = some x := ⟨_, List.getElem?_eq_getElem (by have := HN.out; omega)⟩
      obtain ⟨b, off, n', c', A', cl, hn', hc1, hc2, kk, e1, e2, -, -⟩ := HC.out j x hx
      rw [kk] at k0
      obtain ⟨rfl, rfl, rfl⟩ : A = some ⟨b, off, none⟩ ∧ n = n' ∧ c = c' := by
        injection k0 with k0
        injection k0 with a1 a2 a3
        exact ⟨a1.symm, a2.symm, a3.symm⟩
      clear k0 hn' hc1 hc2
      have HX := Lib.hid hx
      clear hx
      by_cases h1 : x.fr = f
      · obtain ⟨q1, q2⟩ := str_same h1
        by_cases h2 : x.tt = t
        · obtain ⟨q3, q4⟩ := str_same h2
          have HE := Lib.hid (HP1.out j x H.out HX.out ⟨h1, h2⟩)
          clear h1 h2 H HP1 HP2
          go_wp2
          go_ret
          exact ⟨by rw [HE.out]; rfl, rfl⟩
        · have q3 := str_ne h2
          have q4 : ¬ x.tt.toList = t.toList := fun e => by rw [e] at q3; simp at q3
          have H3 : Hid (∀ (i : Nat) (y : Pq), i < j + 1 → S[i]? = some y → ¬ (y.fr = f ∧ y.tt = t)) := Lib.hid fun i y hi hy => by
            rcases Nat.lt_or_ge i j with h3 | h3
            · exact H.out i y h3 hy
            · obtain rfl : i = j := by omega
              rw [HX.out] at hy
              cases hy
              exact fun hc => h2 hc.2
          clear h1 h2 H
          go_wp2
          go_roundg (gk - 1)
          case rel => exact ⟨rfl, j + 1, by omega, by go_num, H3⟩
          case measure => omega
      · have q1 := str_ne h1
        have q2 : ¬ x.fr.toList = f.toList := fun e => by rw [e] at q1; simp at q1
        have H3 : Hid (∀ (i : Nat) (y : Pq), i < j + 1 → S[i]? = some y → ¬ (y.fr = f ∧ y.tt = t)) := Lib.hid fun i y hi hy => by
          rcases Nat.lt_or_ge i j with h3 | h3
          · exact H.out i y h3 hy
          · obtain rfl : i = j := by omega
            rw [HX.out] at hy
            cases hy
            exact fun hc => h1 hc.1
        clear h1 H
        go_wp2
        go_roundg (gk - 1)
        case rel => exact ⟨rfl, j + 1, by omega, by go_num, H3⟩
        case measure => omega
    · have hj1 : ¬ (j : Int) < (n : Int) := by omega
      have HE := Lib.hid (HP2.out fun i y hi hy => H.out i y (by omega) hy)
      clear H
      go_wp2
      go_ret
      exact ⟨by rw [HE.out]; rfl, rfl⟩
set_option maxRecDepth 100000 in
set_option maxHeartbeats 1000000 in
theorem rlen_walk (w : World) (own : Nat → Nat × Nat) (rb : Nat) (S : List Pq) (h : RSt w own rb S) (f t : ByteArray) :
    Calls Tryd.prog 25 #[.pointer (some ⟨rb, 0, none⟩), .string f, .string t] w fun e w' => e = .returned (.int .i64 (lenQ S f t : Int)) ∧ ∃ n, w' = w.drewN n := by
  have K := Lib.hid (place_walk w own rb S h f t)
  unfold placeI at K
  cases e : idxQ f t S with
  | none =>
    rw [e] at K
    have HN : Hid (lenQ S f t = 0) := Lib.hid (by unfold lenQ; rw [e])
    clear e h
    go_enter Tryd.func25, Tryd.ntmps25
    go_wp2_with fail
    with_reducible refine K.out.mono ?_
    rintro e w1 ⟨rfl, rfl⟩
    go_wp2
    go_ret
    exact ⟨by rw [HN.out]; rfl, 0, rfl⟩
  | some i =>
    rw [e] at K
    simp only [] at K
    obtain ⟨x, hx, -, -⟩ := idxQ_some e
    have HN : Hid (lenQ S f t = x.l.length) := Lib.hid (by unfold lenQ; rw [e]; simp only [hx])
    have hi := (List.getElem?_eq_some_iff.1 hx).1
    obtain ⟨b, off, n, c, A, cl, rfl, h1, h2, k0, -, -, -, k3⟩ := h.cells hx
    unfold maxLen at h2
    generalize S.length = n at *
    generalize x.l.length = m at *
    have hi1 : (i : Int) < (n : Int) := by omega
    have hi0 : ¬ (i : Int) < 0 := by omega
    clear e h hx hi
    go_enter Tryd.func25, Tryd.ntmps25
    go_wp2_with fail
    with_reducible refine K.out.mono ?_
    rintro e w1 ⟨rfl, rfl⟩
    go_wp2
    go_ret
    exact ⟨by rw [HN.out]; rfl, 0, rfl⟩
set_option maxRecDepth 100000 in
set_option maxHeartbeats 1000000 in
theorem rroom_walk (w : World) (own : Nat → Nat × Nat) (rb : Nat) (S : List Pq) (h : RSt w own rb S) (f t : ByteArray) :
    Calls Tryd.prog 26 #[.pointer (some ⟨rb, 0, none⟩), .string f, .string t] w fun e w' => e = .returned (.int .i64 (roomQ S f t : Int)) ∧ ∃ n, w' = w.drewN n := by
  have K := Lib.hid (place_walk w own rb S h f t)
  unfold placeI at K
  cases e : idxQ f t S with
  | none =>
    rw [e] at K
    have HN : Hid (roomQ S f t = 0) := Lib.hid (by unfold roomQ; rw [e])
    clear e h
    go_enter Tryd.func26, Tryd.ntmps26
    go_wp2_with fail
    with_reducible refine K.out.mono ?_
    rintro e w1 ⟨rfl, rfl⟩
    go_wp2
    go_ret
    exact ⟨by rw [HN.out]; rfl, 0, rfl⟩
  | some i =>
    rw [e] at K
    simp only [] at K
    obtain ⟨x, hx, -, -⟩ := idxQ_some e
    have ho : okP x := by
      obtain ⟨_, _, _, _, _, _, _, _, h5, _⟩ := h
      exact h5.2 x (List.mem_of_getElem? hx)
    have HN : Hid ((roomQ S f t : Int) = (x.most : Int) - (x.l.length : Int)) := Lib.hid (by unfold roomQ; rw [e]; simp only [hx]; have := ho.2.2.2.2.1; omega)
    have hi := (List.getElem?_eq_some_iff.1 hx).1
    obtain ⟨b, off, n, c, A, cl, rfl, h1, h2, k0, -, -, k2, k3⟩ := h.cells hx
    have o1 := ho.2.2.2.1
    have o2 := ho.2.2.2.2.1
    unfold maxLen at h2
    generalize S.length = n at *
    generalize x.l.length = m at *
    generalize x.most = q at *
    have hi1 : (i : Int) < (n : Int) := by omega
    have hi2 : (0 : Int) ≤ (i : Int) := by omega
    have hi0 : ¬ (i : Int) < 0 := by omega
    have hw : IntKind.i64.wrap ((q : Int) - (m : Int)) = (q : Int) - (m : Int) := IntWalk.i64_in _ (by omega)
    clear e h hx hi ho
    go_enter Tryd.func26, Tryd.ntmps26
    go_wp2_with fail
    with_reducible refine K.out.mono ?_
    rintro e w1 ⟨rfl, rfl⟩
    go_wp2
    go_quiet (fail)
    go_wp2
    go_ret
    exact ⟨by rw [HN.out]; rfl, _, rfl⟩
end Go.Proofs.YtihhadgkcdkemaaDoor
