/-
  The walk of a file's waiting. Conditions: the lengths.
-/
import Derived.Test.YtbpooaicmjkemaaDoorSfRead
namespace Go.Proofs.YtbpooaicmjkemaaDoor
open Go.RowKit Go.Maps
set_option linter.unusedVariables false
def lensW (ws : List Wr) : Nat := (ws.map fun w => w.b.length).sum
theorem lensW_snoc {ws : List Wr} {j : Nat} {x : Wr} (h : ws[j]? = some x) : lensW (ws.take (j + 1)) = lensW (ws.take j) + x.b.length := by
  obtain ⟨hj, rfl⟩ := List.getElem?_eq_some_iff.1 h
  unfold lensW
  rw [List.take_succ_eq_append_getElem hj, List.map_append, List.sum_append]
  simp only [List.map_cons, List.map_nil, List.sum_cons, List.sum_nil, Nat.add_zero]
theorem lensW_le {ws : List Wr} (h : ∀ w ∈ ws, w.b.length ≤ 67108864) : lensW ws ≤ ws.length * 67108864 := by
  induction ws with
  | nil => simp [lensW]
  | cons x r ih =>
    have h1 := ih fun w hw => h w (List.mem_cons_of_mem _ hw)
    have h2 := h x List.mem_cons_self
    unfold lensW at h1 ⊢
    simp only [List.map_cons, List.sum_cons, List.length_cons]
    omega
/-- write j as it lies in memory -/
theorem wr_at {w : World} {own : Nat → Nat × Nat} {g : Option Nat} {A : Option Addr} {n c : Nat} {vs : List Value} {ws : List Wr} (h : OwnX 2 w g (.slice A n c) (wrRow vs ws).flatten) (hv : WrsV w own vs ws) :
    n = ws.length ∧ n ≤ c ∧ c ≤ maxLen ∧ ∀ (j : Nat) (x : Wr), ws[j]? = some x → ∃ b off Ab cb, g = some b ∧ A = some ⟨b, off, none⟩ ∧ b < w.heap.size ∧ w.cell? ⟨b, off + j * 2, none⟩ = some (.int .i64 x.at_) ∧ w.cell? ⟨b, off + j * 2 + 1, none⟩ = some (.slice Ab x.b.length cb) ∧ FzV w own (.slice Ab x.b.length cb) x.b := by
  obtain ⟨e1, e2, e3⟩ := h.count (by decide) (wrRow_all vs ws)
  rw [wrRow_len hv.1] at e1
  refine ⟨e1, e2, e3, fun j x hx => ?_⟩
  have hj := (List.getElem?_eq_some_iff.1 hx).1
  obtain ⟨v, hvj⟩ : ∃ v, vs[j]? = some v := ⟨_, List.getElem?_eq_getElem (by rw [hv.1]; exact hj)⟩
  obtain ⟨-, -, -, -, b, off, rfl, rfl, hlt, hc⟩ := h.elem (by decide) (wrRow_all vs ws) (wrRow_at hvj hx)
  have hz := hv.2 j v x hvj hx
  obtain ⟨Ab, cb, rfl, hz1⟩ := hz
  exact ⟨b, off, Ab, cb, rfl, rfl, hlt, (hc 0 (by decide)).1, (hc 1 (by decide)).1, Ab, cb, rfl, hz1⟩
set_option maxHeartbeats 1000000 in
theorem waiting_walk {z i b K : Nat} {w : World} {own : Nat → Nat × Nat} {x : Nd} (h : FSt z w own i b x) (hk : NdOk x K) (hK : K ≤ 100000) :
    Calls Tryd.prog 38 #[ptrV b] w fun e w' => Below w.heap.size w w' ∧ e = .returned (.int .i64 (waitN x : Int)) := by
  obtain ⟨-, vn, gn, vl, gl, vw, gw, vs, hB, -, -, hW, hV, -⟩ := h
  obtain ⟨A, n, c, rfl, -⟩ := hW.sl
  obtain ⟨hn, hc, hm, hat⟩ := wr_at hW hV
  have k2 : w.cell? ⟨b, 2, none⟩ = some (.slice A n c) := hB.cell 2
  have HAT := Lib.hid hat
  have HN := Lib.hid hn
  have hKn : n ≤ 100000 := by have := hk.lw; omega
  have HLE : Hid (∀ j, lensW (x.waits.take j) ≤ 6710886400000) := Lib.hid fun j => by
    have h1 := lensW_le (ws := x.waits.take j) fun w hw => hk.lb w (List.mem_of_mem_take hw)
    have h2 := hk.lw
    have h3 : (x.waits.take j).length ≤ 100000 := by rw [List.length_take]; omega
    have := Nat.mul_le_mul_right 67108864 h3
    omega
  have HF : Hid (lensW (x.waits.take n) = waitN x) := Lib.hid (by rw [hn, List.take_length]; rfl)
  unfold ptrV
  clear hB hW hV hn hat hk hc hm
  go_enter Tryd.func38, Tryd.ntmps38
  go_wp2_with fail
  go_loopg [3, 5, 11] n (fun k s3 s5 s11 wr => ∃ j : Nat, s11 = .int .i64 (j : Int) ∧ s3 = .int .i64 (lensW (x.waits.take j) : Int) ∧ j + k = n ∧ Hid (Below w.heap.size w wr))
  case atStart => exact ⟨0, rfl, rfl, by omega, Lib.hid (Below.refl _ _)⟩
  case round =>
    obtain ⟨j, rfl, rfl, hj, HB⟩ := hrel
    by_cases hlt : j < n
    · have hlt1 : (j : Int) < (n : Int) := by omega
      obtain ⟨y, hy⟩ : ∃ y, x.waits[j]? = some y := ⟨_, List.getElem?_eq_getElem (by rw [← HN.out]; exact hlt)⟩
      obtain ⟨bb, off, Ab, cb, -, rfl, hbl, c0, c1, -⟩ := HAT.out j y hy
      have q0 := (HB.out.cell (p := ⟨bb, off + j * 2, none⟩) hbl).trans c0
      have q1 := (HB.out.cell (p := ⟨bb, off + j * 2 + 1, none⟩) hbl).trans c1
      have HS := Lib.hid (lensW_snoc hy)
      have b1 := HLE.out j
      have b2 := HLE.out (j + 1)
      have b3 : lensW (x.waits.take j) + y.b.length ≤ 6710886400000 := by rw [← HS.out]; exact b2
      clear b2 c0 c1 hy hbl
      generalize lensW (x.waits.take j) = s at *
      generalize y.b.length = yl at *
      go_wp2_with fail
      all_goals
        go_roundg (gk - 1)
        case rel => exact ⟨j + 1, by go_num, by rw [HS.out]; go_num, by omega, Lib.hid (by first | exact HB.out | exact HB.out.alloc HB.out.size _ | exact (HB.out.alloc HB.out.size _).setCell HB.out.size _)⟩
        case measure => omega
    · have hlt1 : ¬ (j : Int) < (n : Int) := by omega
      obtain rfl : j = n := by omega
      go_wp2_with fail
      go_ret
      exact ⟨HB.out, by rw [HF.out]; rfl⟩
end Go.Proofs.YtbpooaicmjkemaaDoor
