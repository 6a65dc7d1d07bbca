/-
  The walks of the program's Len and Room. Conditions: the names' lengths.
-/
import Derived.Test.YtihhadgkcdkemaaDoorPSt
import Derived.BigQuiet
import Derived.Deep.QuietTactic
namespace Go.Proofs.YtihhadgkcdkemaaDoor
open Go.RowKit Go.Maps
set_option linter.unusedVariables false
theorem drewN0 (w : World) : w.drewN 0 = w := rfl
/-- pipe i alone is turned -/
def isQ (i : Nat) (t : Nat × Nat) : Prop := t = (2, i) ∨ t = (3, i) ∨ t = (4, i)
def Upd (w : World) (own : Nat → Nat × Nat) (pb : Nat) (S : List Pq) (i q : Nat) (x : Pq) : Prop :=
  ∀ (w' : World) (own' : Nat → Nat × Nat) (y : Pq), Turn (isQ i) w w' own own' → y.fr = x.fr → y.tt = x.tt → okP y → QSt w' own' i q y → PSt w' own' pb (S.set i y)
theorem PSt.upd {w : World} {own : Nat → Nat × Nat} {pb : Nat} {S : List Pq} {mb n : Nat} {D : DataW Unit} {qs : List Nat} {i q : Nat} {x : Pq} (h : PSt w own pb S) (hx : S[i]? = some x) (hq : qs[i]? = some q)
    (h1 : Blk w pb 44 #[.map (some mb)]) (h2 : own pb = (1, 0)) (h3 : own mb = (1, 1)) (h4 : w.ownsMap Tryd.prog 46 ptrElem mb n D) (h5 : n = S.length) (h6 : qs.length = S.length) (h7 : okQ S) (h8 : MapV D S qs)
    (h9 : ∀ i q x, qs[i]? = some q → S[i]? = some x → QSt w own i q x) : Upd w own pb S i q x := by
  intro w' own' y ht e1 e2 hy hQ
  have n1 : ∀ t : Nat × Nat, t.1 = 1 → ¬ isQ i t := fun t h1 h2 => by
    rcases h2 with rfl | rfl | rfl <;> cases h1
  have b1 := ht.block pb h1.lt (by rw [h2]; exact n1 _ rfl)
  have b2 := ht.block mb h4.lt (by rw [h3]; exact n1 _ rfl)
  refine ⟨mb, n, D, qs, ?_, ?_, ?_, ownsMap_same h4 b2, by rw [List.length_set]; exact h5, by rw [List.length_set]; exact h6, okQ_set h7 hx e1 e2 hy, fun f t hf ht' => ?_, fun j q' z hq' hz => ?_⟩
  · unfold Blk at h1 ⊢; rw [b1]; exact h1
  · rw [ht.mark pb h1.lt (by rw [h2]; exact n1 _ rfl)]; exact h2
  · rw [ht.mark mb h4.lt (by rw [h3]; exact n1 _ rfl)]; exact h3
  · rw [idxQ_set hx e1 e2]; exact h8 f t hf ht'
  · by_cases hj : i = j
    · subst hj
      rw [List.getElem?_set_self (List.getElem?_eq_some_iff.1 hx).1] at hz
      rw [hq] at hq'
      cases hz
      cases hq'
      exact hQ
    · rw [List.getElem?_set_ne hj] at hz
      refine (h9 j q' z hq' hz).keep ht.size fun k hk ho => ?_
      have hn : ¬ isQ i (own k) := fun hc => by
        rcases ho with ho | ho | ho <;> (rw [ho] at hc; rcases hc with hc | hc | hc <;> (injection hc with c1 c2; first | exact hj c2.symm | cases c1))
      exact ⟨ht.block k hk hn, ht.mark k hk hn⟩
/-- what a look into the map finds -/
theorem PSt.find {w : World} {own : Nat → Nat × Nat} {pb : Nat} {S : List Pq} (h : PSt w own pb S) (f t : ByteArray) (hf : f.size ≤ maxLen) (ht : t.size ≤ maxLen) :
    (idxQ f t S = none ∧ ∃ mb, w.cell? ⟨pb, 0, none⟩ = some (.map (some mb)) ∧ ∀ k, (Instr.lookup 42 (.map (some mb)) (.agg #[.string f, .string t]) true).run Tryd.prog (w.drewN k) = .ok (.tuple #[.pointer none, .bool false]) (w.drewN k)) ∨
    ∃ i x q mb, idxQ f t S = some i ∧ S[i]? = some x ∧ (okP x ∧ Upd w own pb S i q x) ∧ QSt w own i q x ∧ w.cell? ⟨pb, 0, none⟩ = some (.map (some mb)) ∧ ∀ k, (Instr.lookup 42 (.map (some mb)) (.agg #[.string f, .string t]) true).run Tryd.prog (w.drewN k) = .ok (.tuple #[.pointer (some ⟨q, 0, none⟩), .bool true]) (w.drewN k) := by
  obtain ⟨mb, n, D, qs, h1, h2, h3, h4, h5, h6, h7, h8, h9⟩ := h
  obtain ⟨m1, m2⟩ := h8 f t hf ht
  cases e : idxQ f t S with
  | none => exact .inl ⟨rfl, mb, h1.cell 0, fun k => look_no h4 hf ht (m1 e) k⟩
  | some i =>
    obtain ⟨x, hx, -, -⟩ := idxQ_some e
    have hi : i < qs.length := by rw [h6]; exact (List.getElem?_eq_some_iff.1 hx).1
    have hq : qs[i]? = some qs[i] := List.getElem?_eq_getElem hi
    obtain ⟨m3, m4⟩ := m2 i _ e hq
    exact .inr ⟨i, x, qs[i], mb, rfl, hx, ⟨h7.2 x (List.mem_of_getElem? hx), PSt.upd ⟨mb, n, D, qs, h1, h2, h3, h4, h5, h6, h7, h8, h9⟩ hx hq h1 h2 h3 h4 h5 h6 h7 h8 h9⟩, h9 i _ x hq hx, h1.cell 0, fun k => look_yes h4 hf ht m3 (m4 .nil) k⟩
theorem QSt.cells {w : World} {own : Nat → Nat × Nat} {i q : Nat} {x : Pq} (h : QSt w own i q x) : ∃ A c, w.cell? ⟨q, 0, none⟩ = some (.int .i64 (x.most : Int)) ∧ w.cell? ⟨q, 1, none⟩ = some (.slice A x.l.length c) := by
  obtain ⟨h0, v, g, xs, h1, h2, h3, h4⟩ := h
  obtain ⟨A, n, c, rfl, e, -, -⟩ := h2.sl
  obtain rfl : n = x.l.length := by rw [← h4.1, e, Nat.mul_one]
  exact ⟨A, c, h1.cell 0, h1.cell 1⟩
theorem len_walk (w : World) (own : Nat → Nat × Nat) (pb : Nat) (S : List Pq) (h : PSt w own pb S) (f t : ByteArray) (hf : f.size ≤ maxLen) (ht : t.size ≤ maxLen) :
    Calls Tryd.prog 10 #[.pointer (some ⟨pb, 0, none⟩), .string f, .string t] w fun e w' => e = .returned (.int .i64 (lenQ S f t : Int)) ∧ ∃ n, w' = w.drewN n := by
  rcases h.find f t hf ht with ⟨e, mb, c0, hL⟩ | ⟨i, x, q, mb, e, hx, ho, hq, c0, hL⟩
  · have HN : Hid (lenQ S f t = 0) := Lib.hid (by unfold lenQ; rw [e])
    have hL0 := hL 0
    rw [drewN0] at hL0
    clear hf ht hL e h
    go_enter Tryd.func10, Tryd.ntmps10
    go_wp2
    go_ret
    exact ⟨by rw [HN.out]; rfl, 0, rfl⟩
  · have HN : Hid (lenQ S f t = x.l.length) := Lib.hid (by unfold lenQ; rw [e]; simp only [hx])
    obtain ⟨A, c, k0, k1⟩ := hq.cells
    have hL0 := hL 0
    rw [drewN0] at hL0
    clear hf ht hL e h hx hq ho
    generalize x.l.length = n at *
    go_enter Tryd.func10, Tryd.ntmps10
    go_wp2
    go_ret
    exact ⟨by rw [HN.out]; rfl, 0, rfl⟩
set_option maxHeartbeats 400000 in
theorem room_walk (w : World) (own : Nat → Nat × Nat) (pb : Nat) (S : List Pq) (h : PSt w own pb S) (f t : ByteArray) (hf : f.size ≤ maxLen) (ht : t.size ≤ maxLen) :
    Calls Tryd.prog 11 #[.pointer (some ⟨pb, 0, none⟩), .string f, .string t] w fun e w' => e = .returned (.int .i64 (roomQ S f t : Int)) ∧ ∃ n, w' = w.drewN n := by
  rcases h.find f t hf ht with ⟨e, mb, c0, hL⟩ | ⟨i, x, q, mb, e, hx, ho, hq, c0, hL⟩
  · have HN : Hid (roomQ S f t = 0) := Lib.hid (by unfold roomQ; rw [e])
    have hL0 := hL 0
    rw [drewN0] at hL0
    clear hf ht hL e h
    go_enter Tryd.func11, Tryd.ntmps11
    go_wp2
    go_ret
    exact ⟨by rw [HN.out]; rfl, 0, rfl⟩
  · obtain ⟨⟨-, -, -, o1, o2, -⟩, -⟩ := ho
    have HN : Hid ((roomQ S f t : Int) = (x.most : Int) - (x.l.length : Int)) := Lib.hid (by unfold roomQ; rw [e]; simp only [hx]; omega)
    obtain ⟨A, c, k0, k1⟩ := hq.cells
    have hL0 := hL 0
    rw [drewN0] at hL0
    clear hf ht hL e h hx hq
    generalize x.l.length = n at *
    generalize x.most = m at *
    have hw : IntKind.i64.wrap ((m : Int) - (n : Int)) = (m : Int) - (n : Int) := IntWalk.i64_in _ (by omega)
    go_enter Tryd.func11, Tryd.ntmps11
    go_wp2
    go_quiet (fail)
    go_wp2
    go_ret
    exact ⟨by rw [HN.out]; rfl, _, rfl⟩
end Go.Proofs.YtihhadgkcdkemaaDoor
