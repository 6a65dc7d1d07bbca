/-
  The walks of the document's Clear and Waiting. Conditions: the sizes.
-/
import Derived.Test.YtihhadgkcdkemaaDoorRUpd
import Derived.Test.YtihhadgkcdkemaaDoorROpenW
namespace Go.Proofs.YtihhadgkcdkemaaDoor
open Go.RowKit Go.Maps
set_option linter.unusedVariables false
/-- a pipe that has the port is emptied -/
def clr (s : ByteArray) (x : Pq) : Pq := if x.fr = s ∨ x.tt = s then { x with l := [] } else x
def clearQ (s : ByteArray) (S : List Pq) : List Pq × Nat := (S.map (clr s), (S.map fun x => if x.fr = s ∨ x.tt = s then x.l.length else 0).sum)
/-- the first j of them are -/
def clearJ (s : ByteArray) (j : Nat) (S : List Pq) : List Pq := (S.take j).map (clr s) ++ S.drop j
def clearN (s : ByteArray) (j : Nat) (S : List Pq) : Nat := ((S.take j).map fun x => if x.fr = s ∨ x.tt = s then x.l.length else 0).sum
theorem clearJ_len (s : ByteArray) (j : Nat) (S : List Pq) : (clearJ s j S).length = S.length := by
  unfold clearJ
  rw [List.length_append, List.length_map, List.length_take, List.length_drop]
  omega
theorem clearJ_at {s : ByteArray} {j : Nat} {S : List Pq} {x : Pq} (h : S[j]? = some x) : (clearJ s j S)[j]? = some x := by
  obtain ⟨hj, rfl⟩ := List.getElem?_eq_some_iff.1 h
  unfold clearJ
  have hl : ((S.take j).map (clr s)).length = j := by rw [List.length_map, List.length_take]; omega
  rw [List.getElem?_append_right (by omega), hl, Nat.sub_self, List.getElem?_drop, Nat.add_zero, List.getElem?_eq_getElem hj]
theorem clearJ_step {s : ByteArray} {j : Nat} {S : List Pq} {x : Pq} (h : S[j]? = some x) : clearJ s (j + 1) S = (clearJ s j S).set j (clr s x) := by
  obtain ⟨hj, rfl⟩ := List.getElem?_eq_some_iff.1 h
  unfold clearJ
  have hl : ((S.take j).map (clr s)).length = j := by rw [List.length_map, List.length_take]; omega
  rw [List.set_append_right j _ (by omega), hl, Nat.sub_self, List.drop_eq_getElem_cons hj, List.set_cons_zero, List.take_add_one, List.getElem?_eq_getElem hj, List.map_append, List.append_assoc]
  rfl
theorem clearJ_same {s : ByteArray} {j : Nat} {S : List Pq} {x : Pq} (h : S[j]? = some x) (hc : clr s x = x) : clearJ s (j + 1) S = clearJ s j S := by
  rw [clearJ_step h, hc]
  obtain ⟨h1, h2⟩ := List.getElem?_eq_some_iff.1 (clearJ_at (s := s) h)
  conv => lhs; rw [← h2]
  exact List.set_getElem_self h1
theorem clearN_step {s : ByteArray} {j : Nat} {S : List Pq} {x : Pq} (h : S[j]? = some x) : clearN s (j + 1) S = clearN s j S + if x.fr = s ∨ x.tt = s then x.l.length else 0 := by
  unfold clearN
  rw [List.take_add_one, h]
  simp
theorem clearJ_all (s : ByteArray) (S : List Pq) (j : Nat) (h : S.length ≤ j) : clearJ s j S = (clearQ s S).1 ∧ clearN s j S = (clearQ s S).2 := by
  unfold clearJ clearN clearQ
  rw [List.take_of_length_le h, List.drop_of_length_le h, List.append_nil]
  exact ⟨rfl, rfl⟩
theorem clearN_le {s : ByteArray} {S : List Pq} (h : okQ S) : ∀ j, clearN s j S ≤ j * 64 := by
  intro j
  induction j with
  | zero => simp [clearN]
  | succ j ih =>
    cases e : S[j]? with
    | none =>
      have : S.length ≤ j := by simpa using e
      have e2 : clearN s (j + 1) S = clearN s j S := by
        unfold clearN
        rw [List.take_of_length_le (by omega), List.take_of_length_le this]
      omega
    | some x =>
      rw [clearN_step e]
      have o := h.2 x (List.mem_of_getElem? e)
      have o4 := o.2.2.2.1
      have o5 := o.2.2.2.2.1
      split <;> omega
theorem okP_clr {s : ByteArray} {x : Pq} (h : okP x) : okP (clr s x) := by
  unfold clr
  split
  · exact ⟨h.1, h.2.1, h.2.2.1, h.2.2.2.1, by simp, by simp⟩
  · exact h
def RClearPost (w : World) (own : Nat → Nat × Nat) (rb : Nat) (S : List Pq) (s : ByteArray) (e : Ending) (w' : World) : Prop :=
  RSt w' own rb (clearQ s S).1 ∧ Turn isR w w' own own ∧ e = .returned (.int .i64 ((clearQ s S).2 : Int))
set_option maxRecDepth 100000 in
set_option maxHeartbeats 4000000 in
theorem rclear_walk (w : World) (own : Nat → Nat × Nat) (rb : Nat) (S : List Pq) (h : RSt w own rb S) (hS : S.length ≤ 100000) (s : ByteArray) :
    Calls Tryd.prog 22 #[.pointer (some ⟨rb, 0, none⟩), .string s] w (RClearPost w own rb S s) := by
  have HP : Hid (RSt w own rb (clearJ s 0 S)) := Lib.hid (by simpa [clearJ] using h)
  have HOK : Hid (okQ S) := Lib.hid (by obtain ⟨_, _, _, _, _, _, _, _, h5, _⟩ := h; exact h5)
  obtain ⟨A0, c0, k1, k2, k0⟩ := h.head
  have hn2 : S.length ≤ 9223372036854775807 := by omega
  clear h k0
  go_enter Tryd.func22, Tryd.ntmps22
  go_wp2_with fail
  go_loopg [5, 6] S.length (fun k s5 s6 wr => ∃ (j N : Nat), j + k = S.length ∧ s6 = .int .i64 (j : Int) ∧ s5 = .int .i64 (N : Int) ∧ Hid (N = clearN s j S) ∧ Hid (RSt wr own rb (clearJ s j S)) ∧ Hid (Turn isR w wr own own))
  case atStart => exact ⟨0, 0, by omega, rfl, rfl, Lib.hid rfl, HP, Lib.hid (Turn.refl _ _ _)⟩
  case round =>
    obtain ⟨j, N, hj, rfl, rfl, HN, HR, HT⟩ := hrel
    obtain ⟨n, hn⟩ : ∃ n, n = S.length := ⟨_, rfl⟩
    have hN6 : N ≤ 6400000 := by have := clearN_le (s := s) HOK.out j; have := HN.out; omega
    by_cases hlt : j < S.length
    · obtain ⟨x, hx⟩ : ∃ x, S[j]? = some x := ⟨_, List.getElem?_eq_getElem hlt⟩
      obtain ⟨b, off, nr, cr, u, R⟩ := HR.out.row (clearJ_at (s := s) hx)
      obtain ⟨g, xs, hX, hg, hM⟩ := R.rl
      obtain ⟨Ar, m, c1, rfl, hx1, hx2, hx3⟩ := hX.sl
      have hm1 : m = x.l.length := by rw [← hM.1, hx1, Nat.mul_one]
      have hm2 : m ≤ 64 := by have := R.ok.2.2.2.1; have := R.ok.2.2.2.2.1; omega
      have hin : (j : Int) < (nr : Int) := by have := R.len; rw [clearJ_len] at this; omega
      have hi2 : (0 : Int) ≤ (j : Int) := by omega
      have k0 := R.head
      have e1 := R.fr
      have e2 := R.tt
      have k3 := R.row
      have f3 := R.frozen
      have HSt := Lib.hid (clearN_step (s := s) hx)
      have hnr : nr = S.length := by rw [R.len, clearJ_len]
      have hnr2 : nr ≤ 100000 := by omega
      have HX1 := Lib.hid (fun h => clearJ_same (s := s) hx h)
      have HX2 := Lib.hid (clearJ_step (s := s) hx)
      have HRR := Lib.hid R
      have HM1 := Lib.hid hm1
      have HNR := Lib.hid hnr
      obtain ⟨a, ha⟩ : ∃ a, x.fr = a := ⟨_, rfl⟩
      obtain ⟨d, hd⟩ : ∃ d, x.tt = d := ⟨_, rfl⟩
      rw [ha] at e1
      rw [hd] at e2
      have HJ : Hid (j + gk = S.length) := Lib.hid hj
      have hw1 : IntKind.i64.wrap ((N : Int) + (m : Int)) = ((N + m : Nat) : Int) := by rw [IntWalk.i64_in _ (by omega)]; omega
      have HR0 := HR
      clear hlt hx hX hg hM R hm1 hx1 hx2 hx3 hnr hn hj HR HOK HP
      have fin : (x.fr = s ∨ x.tt = s) → Hid (clearJ s (j + 1) S = (clearJ s j S).set j { x with l := [] } ∧ clearN s (j + 1) S = N + m) := fun h => Lib.hid ⟨by rw [HX2.out]; unfold clr; rw [if_pos h], by rw [HSt.out, if_pos h, ← HN.out, HM1.out]⟩
      have upd : Hid (RSt (wr.setCell ⟨b, off + j * 4 + 3, none⟩ (.slice none 0 0)) own rb ((clearJ s j S).set j { x with l := [] }) ∧ Turn isR wr (wr.setCell ⟨b, off + j * 4 + 3, none⟩ (.slice none 0 0)) own own) :=
        Lib.hid (HRR.out.upd wr own { x with l := [] } (.slice none 0 0) (Turn.refl _ _ _) rfl rfl rfl ⟨HRR.out.ok.1, HRR.out.ok.2.1, HRR.out.ok.2.2.1, HRR.out.ok.2.2.2.1, by simp, by simp⟩ RL.nil)
      by_cases h1 : a = s
      · obtain ⟨q1, q2⟩ := str_same h1
        have HF := fin (.inl (ha.trans h1))
        clear h1 ha hd fin
        go_wp2_with fail
        go_roundg (gk - 1)
        case rel => exact ⟨j + 1, N + m, by have := HJ.out; have := HNR.out; omega, by go_num, rfl, Lib.hid HF.out.2.symm, Lib.hid (by rw [HF.out.1]; exact upd.out.1), Lib.hid (HT.out.trans upd.out.2)⟩
        case measure => have := HJ.out; have := HNR.out; omega
      · have q1 := str_ne h1
        have q2 : ¬ a.toList = s.toList := fun e => by rw [e] at q1; simp at q1
        by_cases h2 : d = s
        · obtain ⟨q3, q4⟩ := str_same h2
          have HF := fin (.inr (hd.trans h2))
          clear h1 h2 ha hd fin
          go_wp2_with fail
          go_roundg (gk - 1)
          case rel => exact ⟨j + 1, N + m, by have := HJ.out; have := HNR.out; omega, by go_num, rfl, Lib.hid HF.out.2.symm, Lib.hid (by rw [HF.out.1]; exact upd.out.1), Lib.hid (HT.out.trans upd.out.2)⟩
          case measure => have := HJ.out; have := HNR.out; omega
        · have q3 := str_ne h2
          have q4 : ¬ d.toList = s.toList := fun e => by rw [e] at q3; simp at q3
          have hno : ¬ (x.fr = s ∨ x.tt = s) := by rw [ha, hd]; exact fun h => h.elim h1 h2
          have HF : Hid (clearJ s (j + 1) S = clearJ s j S ∧ clearN s (j + 1) S = N) := Lib.hid ⟨HX1.out (by unfold clr; rw [if_neg hno]), by rw [HSt.out, if_neg hno, ← HN.out, Nat.add_zero]⟩
          clear h1 h2 ha hd fin hno
          go_wp2_with fail
          go_roundg (gk - 1)
          case rel => exact ⟨j + 1, N, by have := HJ.out; have := HNR.out; omega, by go_num, rfl, Lib.hid HF.out.2.symm, Lib.hid (by rw [HF.out.1]; exact HR0.out), HT⟩
          case measure => have := HJ.out; have := HNR.out; omega
    · obtain ⟨A1, c1, k3, k4, k1⟩ := HR.out.head
      rw [clearJ_len, ← hn] at k1
      have hj1 : ¬ (j : Int) < (n : Int) := by omega
      have HE := Lib.hid (clearJ_all s S j (by omega))
      clear hj hn k3 k4 hlt
      go_wp2_with fail
      go_ret
      refine ⟨by rw [← HE.out.1]; exact HR.out, HT.out, ?_⟩
      rw [← HE.out.2, ← HN.out]
      rfl
end Go.Proofs.YtihhadgkcdkemaaDoor
