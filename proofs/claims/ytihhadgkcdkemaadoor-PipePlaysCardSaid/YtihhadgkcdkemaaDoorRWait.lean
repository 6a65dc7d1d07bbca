/-
  The walk of the document's Waiting. Conditions: the sizes.
-/
import Derived.Test.YtihhadgkcdkemaaDoorROpenW
namespace Go.Proofs.YtihhadgkcdkemaaDoor
open Go.RowKit Go.Maps
set_option linter.unusedVariables false
/-- the ports that have something to take, in the pipes' order -/
def waitN (S : List Pq) : List ByteArray := (S.filter fun x => decide (0 < x.l.length)).map Pq.tt
def waitQ (S : List Pq) : List ByteArray := withAll [] (waitN S)
theorem waitN_take {S : List Pq} {j : Nat} {x : Pq} (h : S[j]? = some x) : waitN (S.take (j + 1)) = waitN (S.take j) ++ if 0 < x.l.length then [x.tt] else [] := by
  unfold waitN
  rw [List.take_add_one, h]
  by_cases h1 : 0 < x.l.length
  · simp [h1]
  · simp [h1]
theorem waitN_len (S : List Pq) : (waitN S).length ≤ S.length := by
  unfold waitN
  rw [List.length_map]
  exact List.length_filter_le _ _
set_option maxRecDepth 100000 in
set_option maxHeartbeats 4000000 in
theorem rwait_walk (w : World) (own : Nat → Nat × Nat) (rb : Nat) (S : List Pq) (h : RSt w own rb S) (hS : S.length ≤ 100000) :
    Calls Tryd.prog 24 #[.pointer (some ⟨rb, 0, none⟩)] w (WithPostB w w.heap.size (waitQ S)) := by
  have HP := Lib.hid h
  obtain ⟨A0, c0, -, -, k0⟩ := h.head
  obtain ⟨n, hn⟩ : ∃ n, n = S.length := ⟨_, rfl⟩
  have HN := Lib.hid hn
  rw [← hn] at k0 hS
  have K0 := Lib.hid k0
  have hn2 : n ≤ 9223372036854775807 := by omega
  clear h hn k0
  go_enter Tryd.func24, Tryd.ntmps24
  go_wp2_with fail
  go_loopg [3, 4] n (fun k s3 s4 wr => ∃ (j : Nat) (A : Option Addr) (c : Nat) (L : List ByteArray) (m : Nat), j + k = n ∧ s4 = .int .i64 (j : Int) ∧ s3 = .slice A m c ∧ Hid (m = L.length) ∧ Hid (L = withAll [] (waitN (S.take j))) ∧ Hid (m ≤ c ∧ c ≤ maxLen) ∧ Hid (RS wr wr.heap.size A L) ∧ Hid (Below w.heap.size w wr) ∧ Hid (∀ b off, A = some ⟨b, off, none⟩ → w.heap.size ≤ b))
  case atStart => exact ⟨0, none, 0, [], 0, by omega, rfl, rfl, Lib.hid rfl, Lib.hid rfl, Lib.hid ⟨by simp, by simp [maxLen]⟩, Lib.hid (.inl rfl), Lib.hid (Below.refl _ _), Lib.hid (fun _ _ h => by cases h)⟩
  case round =>
    obtain ⟨j, A, c, L, m, hj, rfl, rfl, HM, HL, HC1, HR, HB, HG⟩ := hrel
    have k0 := cell_keep HB.out K0.out
    have hm6 : m ≤ 200000 := by
      have := withAll_len (waitN (S.take j)) []
      have h2 := waitN_len (S.take j)
      rw [← HL.out, ← HM.out] at this
      rw [List.length_take] at h2
      simp at this
      omega
    by_cases hlt : j < n
    · have hj1 : (j : Int) < (n : Int) := by omega
      obtain ⟨x, hx⟩ : ∃ x, S[j]? = some x := ⟨_, List.getElem?_eq_getElem (by have := HN.out; omega)⟩
      obtain ⟨b, off, n', c', A', cl, hn', hc1, hc2, kk, e1, e2, e3, e4⟩ := HP.out.cells hx
      have kk2 := K0.out
      rw [kk] at kk2
      obtain ⟨rfl, rfl, rfl⟩ : A0 = some ⟨b, off, none⟩ ∧ n = n' ∧ c0 = c' := by
        injection kk2 with kk2
        injection kk2 with a1 a2 a3
        exact ⟨a1.symm, a2.symm, a3.symm⟩
      have e2 := cell_keep HB.out e2
      have e4 := cell_keep HB.out e4
      have HLN := Lib.hid (waitN_take hx)
      obtain ⟨q, hq⟩ : ∃ q, x.l.length = q := ⟨_, rfl⟩
      rw [hq] at e4
      by_cases h0 : 0 < q
      · have h0' : (0 : Int) < (q : Int) := by omega
        have HL1 : Hid (waitN (S.take (j + 1)) = waitN (S.take j) ++ [x.tt]) := Lib.hid (by rw [HLN.out, hq, if_pos h0])
        have K1 := Lib.hid (with_walkB wr w.heap.size HB.out.size A HG.out L m c HM.out HR.out HC1.out.1 HC1.out.2 (by omega) x.tt)
        clear kk2 kk hn' hc1 hc2 hx e1 e3 hq h0
        generalize x.tt = a at *
        go_wp2_with fail
        with_reducible refine K1.out.mono ?_
        rintro e w1 ⟨hb1, A1, c1, rfl, hA1, hC1, hr1, hge1⟩
        have HB1 := Lib.hid (HB.out.trans (hb1.mono HB.out.size))
        have HR1 := Lib.hid hr1
        have HCC := Lib.hid (And.intro hA1 hC1)
        have HG1 := Lib.hid hge1
        have HL2 : Hid (withL a L = withAll [] (waitN (S.take (j + 1)))) := Lib.hid (by rw [HL1.out, withAll_app, ← HL.out]; rfl)
        clear K1 hb1 hA1 hC1 hr1 hge1 k0 e2 e4
        go_wp2_with fail
        go_roundg (gk - 1)
        case rel => exact ⟨j + 1, A1, c1, _, _, by omega, by go_num, rfl, Lib.hid rfl, HL2, HCC, HR1, HB1, HG1⟩
        case measure => omega
      · have h0' : ¬ (0 : Int) < (q : Int) := by omega
        have HL1 : Hid (L = withAll [] (waitN (S.take (j + 1)))) := Lib.hid (by rw [HLN.out, hq, if_neg h0, List.append_nil]; exact HL.out)
        clear kk2 kk hn' hc1 hc2 hx e1 e3 hq h0
        go_wp2_with fail
        go_roundg (gk - 1)
        case rel => exact ⟨j + 1, A, c, L, m, by omega, by go_num, rfl, HM, HL1, HC1, HR, HB, HG⟩
        case measure => omega
    · have hj1 : ¬ (j : Int) < (n : Int) := by omega
      have HL0 : Hid (L = waitQ S) := Lib.hid (by rw [HL.out, List.take_of_length_le (by have := HN.out; omega)]; rfl)
      go_wp2_with fail
      go_ret
      rw [← HL0.out]
      exact ⟨HB.out, A, c, by rw [← HM.out]; rfl, by rw [← HM.out]; exact HC1.out.1, HC1.out.2, HR.out, HG.out⟩
end Go.Proofs.YtihhadgkcdkemaaDoor
