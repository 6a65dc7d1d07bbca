/-
  The walk of the program's Take. Conditions: the names' lengths.
-/
import Derived.Test.YtihhadgkcdkemaaDoorPSend
import Derived.Lib.SliceRun
namespace Go.Proofs.YtihhadgkcdkemaaDoor
open Go.RowKit Go.Maps
set_option linter.unusedVariables false
def unmark (own : Nat → Nat × Nat) (v : Value) : Nat → Nat × Nat := fun k => if msgBlk v = some k then (0, 0) else own k
theorem took_q {w : World} {own : Nat → Nat × Nat} {i q : Nat} {x : Pq} {v v0 v3 : Value} {g g3 : Option Nat} {xs : List Value} {b : List UInt8} {r : List (List UInt8)}
    (h0 : own q = (2, i)) (hB : Blk w q 53 #[.int .i64 (x.most : Int), v]) (hX : OwnX 1 w g v (v0 :: xs)) (hg : ∀ b, g = some b → own b = (3, i)) (hl : x.l = b :: r) (hM : MsL w own i (v0 :: xs) x.l)
    (hX3 : OwnX 1 w g3 v3 xs) (ho : g3 = g ∨ g3 = none) :
    QSt (w.setCell ⟨q, 1, none⟩ v3) (unmark own v0) i q { x with l := r } ∧ Turn (isQ i) w (w.setCell ⟨q, 1, none⟩ v3) own (unmark own v0) ∧ OwnV (w.setCell ⟨q, 1, none⟩ v3) 0 v0 b ∧
      ∀ k, msgBlk v0 = some k → unmark own v0 k = (0, 0) ∧ own k ≠ (0, 0) ∧ k < (w.setCell ⟨q, 1, none⟩ v3).heap.size := by
  obtain ⟨m1, m2, m3⟩ := hM
  rw [hl] at m1 m2
  obtain ⟨p1, p2⟩ := List.pairwise_cons.1 m3
  have M0 := m2 0 v0 b rfl rfl
  have hsz : (w.setCell ⟨q, 1, none⟩ v3).heap.size = w.heap.size := by simp
  have hne : ∀ k, own k ≠ (4, i) → unmark own v0 k = own k := fun k hk => if_neg fun e => hk (M0.2 k e).1
  have hqg : ∀ k, g3 = some k → k ≠ q := fun k hk e => by
    rcases ho with ho | ho
    · rw [ho] at hk; have := hg k hk; rw [e, h0] at this; cases this
    · rw [ho] at hk; cases hk
  have old : ∀ k, k ≠ q → (w.setCell ⟨q, 1, none⟩ v3).heap[k]? = w.heap[k]? := fun k hk => Below.heap_setCell w ⟨q, 1, none⟩ v3 k hk
  have hq4 : ∀ k, own k = (4, i) → k ≠ q := fun k hk e => by rw [e, h0] at hk; cases hk
  refine ⟨⟨by rw [hne q (by rw [h0]; simp)]; exact h0, v3, g3, xs, hB.set_ 1 v3, hX3.same (Nat.le_of_eq hsz.symm) (fun k hk => old k (hqg k hk)), fun k hk => ?_, by simpa using m1, fun j u l hj hl => ?_, p2⟩, ⟨rfl, rfl, rfl, Nat.le_of_eq hsz.symm, fun k hk hn => old k fun e => hn (e ▸ .inl h0), fun k hk hn => hne k fun e => hn (.inr (.inr e))⟩, ?_, fun k hk => ⟨if_pos hk, ?_, ?_⟩⟩
  · rcases ho with ho | ho
    · rw [ho] at hk
      rw [hne k (by rw [hg k hk]; simp)]
      exact hg k hk
    · rw [ho] at hk; cases hk
  · have Mj := m2 (j + 1) u l (by simpa using hj) (by simpa using hl)
    refine ⟨Mj.1.sameB (Nat.le_of_eq hsz.symm) fun k hk => old k (hq4 k (Mj.2 k hk).1), fun k hk => ?_⟩
    obtain ⟨a1, a2⟩ := Mj.2 k hk
    refine ⟨?_, by rw [hsz]; exact a2⟩
    unfold unmark
    rw [if_neg fun e => p1 u (List.mem_of_getElem? hj) k e hk]
    exact a1
  · exact M0.1.sameB (Nat.le_of_eq hsz.symm) fun k hk => old k (hq4 k (M0.2 k hk).1)
  · rw [(M0.2 k hk).1]; simp
  · rw [hsz]; exact (M0.2 k hk).2
/-- what Take leaves -/
def TakePost (w : World) (own : Nat → Nat × Nat) (pb : Nat) (S : List Pq) (f t : ByteArray) (e : Ending) (w' : World) : Prop :=
  ∃ own', PSt w' own' pb (takeQ S f t).1 ∧ Turn isP w w' own own' ∧ ∃ A c, e = .returned (.tuple #[.slice A (takeQ S f t).2.1.length c, .int .i64 (takeQ S f t).2.2]) ∧ OwnV w' 0 (.slice A (takeQ S f t).2.1.length c) (takeQ S f t).2.1 ∧
    ∀ k, msgBlk (.slice A (takeQ S f t).2.1.length c) = some k → own' k = (0, 0) ∧ own k ≠ (0, 0) ∧ k < w'.heap.size
theorem TakePost.no {w w' : World} {own : Nat → Nat × Nat} {pb : Nat} {S : List Pq} {f t : ByteArray} {e : Ending} {er : Int} (h : PSt w own pb S) (hs : takeQ S f t = (S, [], er)) (he : e = .returned (.tuple #[.slice none 0 0, .int .i64 er])) (hw : w' = w) : TakePost w own pb S f t e w' := by
  subst hw
  unfold TakePost
  rw [hs]
  exact ⟨own, h, Turn.refl isP _ own, none, 0, he, ⟨none, 0, rfl, Nat.le_refl _, by simp [maxLen], .inl rfl⟩, fun k hk => by cases hk⟩
theorem slice_one (A : Option Addr) (n c : Nat) (h1 : 1 ≤ n) (W : World) : (Instr.slice 22 (.slice A n c) (some (.int .i64 1)) none none).run Tryd.prog W = .ok (.slice (if c = 1 then A else A.map fun a => a.add (1 * 1)) (n - 1) (c - 1)) W := by
  have ht' : Tryd.prog.underlying 22 = some (.slice (Tryd.prog.elem 22)) := by simp [Program.elem, Tryd.underlying22]
  have he : Tryd.prog.elem 22 = 30 := by simp [Program.elem, Tryd.underlying22]
  rw [run_slice_l W 22 _ _ _ ht' .i64 _ (by omega) (by omega), he, Tryd.sizeOf30]
  simp only [Result.andThen, sliced]
  rfl
set_option maxRecDepth 100000 in
set_option maxHeartbeats 1000000 in
theorem take_walk (w : World) (own : Nat → Nat × Nat) (pb : Nat) (S : List Pq) (h : PSt w own pb S) (f t : ByteArray) (hf : f.size ≤ maxLen) (ht : t.size ≤ maxLen) :
    Calls Tryd.prog 9 #[.pointer (some ⟨pb, 0, none⟩), .string f, .string t] w (TakePost w own pb S f t) := by
  rcases h.find f t hf ht with ⟨e, mb, c0, hL⟩ | ⟨i, x, q, mb, e, hx, ⟨ho, hu⟩, hq, c0, hL⟩
  · have HN : Hid (takeQ S f t = (S, [], 52)) := Lib.hid (by unfold takeQ; rw [e])
    have HP := Lib.hid h
    have hL0 := hL 0
    rw [drewN0] at hL0
    clear hf ht hL e h
    go_enter Tryd.func9, Tryd.ntmps9
    go_wp2
    go_ret2
    exact TakePost.no HP.out HN.out rfl rfl
  · obtain ⟨A, cq, k0, k1⟩ := hq.cells
    have HP := Lib.hid h
    have hL0 := hL 0
    rw [drewN0] at hL0
    cases hl : x.l with
    | nil =>
      have HN : Hid (takeQ S f t = (S, [], 54)) := Lib.hid (by unfold takeQ; rw [e]; simp only [hx, hl])
      rw [hl, List.length_nil] at k1
      clear hf ht hL e h hx ho hu hq hl
      go_enter Tryd.func9, Tryd.ntmps9
      go_wp2
      go_ret2
      exact TakePost.no HP.out HN.out rfl rfl
    | cons b r =>
      have HE : Hid (takeQ S f t = (S.set i { x with l := r }, b, 0)) := Lib.hid (by unfold takeQ; rw [e]; simp only [hx, hl])
      have HO : Hid (okP { x with l := r }) := Lib.hid (by
        obtain ⟨o1, o2, o3, o4, o5, o6⟩ := ho
        rw [hl] at o5 o6
        exact ⟨o1, o2, o3, o4, by rw [List.length_cons] at o5; show r.length ≤ x.most; omega, fun b hb => o6 b (by simp [hb])⟩)
      have HM6 := Lib.hid ho.2.2.2
      obtain ⟨h0, v, g, xs, hB, hX, hg, hM⟩ := hq
      obtain rfl : v = .slice A x.l.length cq := by
        have := (hB.cell 1).symm.trans k1
        simpa using this
      obtain ⟨v0, xs, rfl⟩ : ∃ v0 xs', xs = v0 :: xs' := by
        cases xs with
        | nil => have := hM.1; rw [hl] at this; cases this
        | cons a b => exact ⟨a, b, rfl⟩
      have M0 := hM.2.1 0 v0 b rfl (by rw [hl]; rfl)
      obtain ⟨A0, n0, c0', hv0, h1', h2', h3'⟩ : ∃ A n c, v0 = .slice A n c ∧ n = b.length ∧ n ≤ c ∧ c ≤ maxLen := by
        obtain ⟨A, c, e1, e2, e3, -⟩ := M0.1
        exact ⟨A, _, c, e1, rfl, e2, e3⟩
      subst hv0
      have hlen : x.l.length = r.length + 1 := by rw [hl]; rfl
      rw [hlen] at hB hX k1
      obtain ⟨f1, f2, f3⟩ := hX.form
      obtain ⟨gg, off, hgg, rfl, hglt, hcells, hfree⟩ := hX.at_ (by omega)
      have e0 : w.cell? ⟨gg, off, none⟩ = some (.slice A0 n0 c0') := by
        have := hcells 0 (by simp)
        rwa [Nat.add_zero] at this
      obtain ⟨own3, hown3, hX3⟩ := hX.tail 1 (by omega)
      have hs1 := fun W => slice_one (some ⟨gg, off, none⟩) (r.length + 1) cq (by omega) W
      rw [Nat.add_sub_cancel] at hX3
      simp only [Nat.add_sub_cancel] at hs1
      obtain ⟨v3, hv3⟩ : ∃ v3, v3 = Value.slice (if cq = 1 then some ⟨gg, off, none⟩ else (some (⟨gg, off, none⟩ : Addr)).map fun a => a.add (1 * 1)) r.length (cq - 1) := ⟨_, rfl⟩
      rw [← hv3] at hs1 hX3
      have hv3s : ∃ A n c, v3 = .slice A n c := ⟨_, _, _, hv3⟩
      have HS1 := Lib.hid hs1
      have HQ := Lib.hid (took_q h0 hB hX hg hl hM hX3 hown3)
      have KC := Lib.hid (clip_walk w A0 n0 c0' h2' h3')
      have fz := hB.frozen 1
      have HU := Lib.hid hu
      have HM0 := Lib.hid M0
      have H1 := Lib.hid h1'
      clear hf ht hL e h hx ho hu hl h0 hB hX hg hM hv3 hX3 hown3 hcells hfree hgg hglt M0 h1' hlen hs1 f1 f2 f3 h2' h3'
      obtain ⟨A3, n3, c3, rfl⟩ := hv3s
      have hs1 := HS1.out
      generalize r.length = m at *
      have hz : ((m : Int) + 1 == 0) = false := beq_eq_false_iff_ne.2 (by omega)
      go_enter Tryd.func9, Tryd.ntmps9
      go_wp2_with fail
      with_reducible refine KC.out.mono ?_
      rintro e1 w1 ⟨rfl, rfl⟩
      go_wp2
      go_ret2
      obtain ⟨q1, q2, q3, q4⟩ := HQ.out
      have hn := H1.out
      subst hn
      unfold TakePost
      rw [HE.out]
      refine ⟨_, HU.out _ _ _ q2 rfl rfl HO.out q1, q2.mono fun t => isQ_isP, A0, b.length, rfl, ?_, fun k hk => q4 k ?_⟩
      · obtain ⟨A, c, e1, e2, e3, e4⟩ := q3
        injection e1 with e5 e6 e7
        subst e5
        exact ⟨_, _, rfl, Nat.le_refl _, Nat.le_trans e2 e3, e4⟩
      · cases A0 with
        | none => cases hk
        | some a => cases hb : b.length with
          | zero => rw [hb] at hk; cases hk
          | succ n => rw [hb] at hk; exact hk
end Go.Proofs.YtihhadgkcdkemaaDoor
