/-
  The walk of the document's Take. Conditions: the sizes.
-/
import Derived.Test.YtihhadgkcdkemaaDoorRSend
import Derived.Test.YtihhadgkcdkemaaDoorPTake
namespace Go.Proofs.YtihhadgkcdkemaaDoor
open Go.RowKit Go.Maps
set_option linter.unusedVariables false
def RTakePost (w : World) (own : Nat → Nat × Nat) (rb : Nat) (S : List Pq) (f t : ByteArray) (e : Ending) (w' : World) : Prop :=
  ∃ own', RSt w' own' rb (takeQ S f t).1 ∧ Turn isR w w' own own' ∧ ∃ A c, e = .returned (.tuple #[.slice A (takeQ S f t).2.1.length c, .int .i64 (takeQ S f t).2.2]) ∧ (takeQ S f t).2.1.length ≤ c ∧ c ≤ maxLen ∧ RO w' own' A (takeQ S f t).2.1
theorem RTakePost.no {w w' : World} {own : Nat → Nat × Nat} {rb : Nat} {S : List Pq} {f t : ByteArray} {e : Ending} {er : Int} (h : RSt w own rb S) (hs : takeQ S f t = (S, [], er)) (he : e = .returned (.tuple #[.slice none 0 0, .int .i64 er])) (hw : w' = w) : RTakePost w own rb S f t e w' := by
  subst hw
  unfold RTakePost
  rw [hs]
  exact ⟨own, h, Turn.refl isR _ own, none, 0, he, Nat.le_refl _, by simp [maxLen], .inl rfl⟩
set_option maxRecDepth 100000 in
set_option maxHeartbeats 4000000 in
theorem rtake_walk (w : World) (own : Nat → Nat × Nat) (rb : Nat) (S : List Pq) (h : RSt w own rb S) (hS : S.length ≤ 100000) (f t : ByteArray) :
    Calls Tryd.prog 20 #[.pointer (some ⟨rb, 0, none⟩), .string f, .string t] w (RTakePost w own rb S f t) := by
  have K := Lib.hid (place_walk w own rb S h f t)
  unfold placeI at K
  have HP := Lib.hid h
  cases e : idxQ f t S with
  | none =>
    rw [e] at K
    have HN : Hid (takeQ S f t = (S, [], 52)) := Lib.hid (by unfold takeQ; rw [e])
    clear e h
    go_enter Tryd.func20, Tryd.ntmps20
    go_wp2_with fail
    with_reducible refine K.out.mono ?_
    rintro e w1 ⟨rfl, rfl⟩
    go_wp2
    go_ret2
    exact RTakePost.no HP.out HN.out rfl rfl
  | some i =>
    rw [e] at K
    simp only [] at K
    obtain ⟨x, hx, -, -⟩ := idxQ_some e
    have hi0 : ¬ (i : Int) < 0 := by omega
    obtain ⟨b, off, nr, cr, u, R⟩ := h.row hx
    obtain ⟨g, xs, hX, hg, hM⟩ := R.rl
    obtain ⟨Ar, m, c1, rfl, hx1, hx2, hx3⟩ := hX.sl
    have hm1 : m = x.l.length := by rw [← hM.1, hx1, Nat.mul_one]
    have hin : (i : Int) < (nr : Int) := by have := (List.getElem?_eq_some_iff.1 hx).1; have := R.len; omega
    have hio : (i : Int) ≤ 100000 := by have := (List.getElem?_eq_some_iff.1 hx).1; omega
    have hi2 : (0 : Int) ≤ (i : Int) := by omega
    have k0 := R.head
    have k3 := R.row
    cases hl : x.l with
    | nil =>
      have HN : Hid (takeQ S f t = (S, [], 54)) := Lib.hid (by unfold takeQ; rw [e]; simp only [hx, hl])
      rw [hl, List.length_nil] at hm1
      subst hm1
      clear e h hx R hX hg hM hl hx1 hx2 hx3
      go_enter Tryd.func20, Tryd.ntmps20
      go_wp2_with fail
      with_reducible refine K.out.mono ?_
      rintro e w1 ⟨rfl, rfl⟩
      go_wp2
      go_ret2
      exact RTakePost.no HP.out HN.out rfl rfl
    | cons l L =>
      have HE : Hid (takeQ S f t = (S.set i { x with l := L }, l, 0)) := Lib.hid (by unfold takeQ; rw [e]; simp only [hx, hl])
      have HO : Hid (okP { x with l := L }) := Lib.hid (by
        obtain ⟨o1, o2, o3, o4, o5, o6⟩ := R.ok
        rw [hl] at o5 o6
        exact ⟨o1, o2, o3, o4, by rw [List.length_cons] at o5; show L.length ≤ x.most; omega, fun b hb => o6 b (by simp [hb])⟩)
      have HM6 := Lib.hid (And.intro R.ok.2.2.2.1 R.ok.2.2.2.2.1)
      rw [hl] at hM hm1 HM6
      obtain ⟨v0, xs, rfl⟩ : ∃ v0 xs', xs = v0 :: xs' := by
        cases xs with
        | nil => have := hM.1; cases this
        | cons a b => exact ⟨a, b, rfl⟩
      obtain ⟨A0, c0, rfl, q1, q2, q3⟩ := hM.2 0 v0 l rfl rfl
      have HQ := Lib.hid (And.intro q1 (And.intro q2 q3))
      clear q1 q2 q3
      rw [List.length_cons] at hm1
      obtain ⟨off2, hfst⟩ : ∃ off2, True := ⟨0, trivial⟩
      clear hfst off2
      obtain ⟨gg, og, hgg, rfl, hglt, hcells, hfree⟩ := hX.at_ (by omega)
      have e0 : w.cell? ⟨gg, og, none⟩ = some (.slice A0 l.length c0) := by
        have := hcells 0 (by simp)
        rwa [Nat.add_zero] at this
      subst hm1
      obtain ⟨own3, hown3, hX3⟩ := hX.tail 1 (by omega)
      have hs1 := fun W => slice_one (some ⟨gg, og, none⟩) (L.length + 1) c1 (by omega) W
      rw [Nat.add_sub_cancel] at hX3
      simp only [Nat.add_sub_cancel] at hs1
      obtain ⟨A9, hA9⟩ : ∃ A9, A9 = (if c1 = 1 then some ⟨gg, og, none⟩ else (some (⟨gg, og, none⟩ : Addr)).map fun a => a.add (1 * 1)) := ⟨_, rfl⟩
      rw [← hA9] at hs1 hX3
      have HX3 : Hid (OwnX 1 w own3 (.slice A9 L.length (c1 - 1)) xs) := Lib.hid (by simpa using hX3)
      have HM := Lib.hid hM
      have HR := Lib.hid R
      have hz : ((L.length : Int) + 1 == 0) = false := beq_eq_false_iff_ne.2 (by omega)
      have hcc : (1 : Int) ≤ (c1 : Int) := by omega
      clear e h hx R hX hg hl hA9 hX3 hM hcells hfree hgg hglt hown3 hx1
      generalize hmm : L.length = m at *
      have HMM := Lib.hid hmm
      clear hmm
      go_enter Tryd.func20, Tryd.ntmps20
      go_wp2_with fail
      with_reducible refine K.out.mono ?_
      rintro e w1 ⟨rfl, rfl⟩
      clear K HP
      go_wp2_with fail
      have KK : Hid (∀ w', Below w1.heap.size w1 w' → w'.cell? ⟨rb, 0, none⟩ = some (.slice (some ⟨b, off, none⟩) nr cr) ∧ w'.cell? ⟨b, off + i * 4 + 3, none⟩ = some (.slice (some ⟨gg, og, none⟩) (m + 1) c1) ∧ w'.frozen? ⟨b, off + i * 4 + 3, none⟩ = false) := Lib.hid fun w' hb => ⟨(hb.cell HR.out.rlt).trans HR.out.head, (hb.cell HR.out.lt).trans HR.out.row, (hb.frozen HR.out.lt).trans HR.out.frozen⟩
      have HBd : Hid (Below w1.heap.size w1 w1.drew) := Lib.hid (bdrewN (Below.refl _ _) 1)
      have HBa : Hid (Below w1.heap.size w1 (w1.drew.alloc (.cells #[] 30))) := Lib.hid (HBd.out.alloc HBd.out.size _)
      obtain ⟨h0, h3, -⟩ := KK.out _ HBd.out
      obtain ⟨ha0, ha3, -⟩ := KK.out _ HBa.out
      have he0 : (w1.alloc (.cells #[] 30)).cell? ⟨rb, 0, none⟩ = some (.slice (some ⟨b, off, none⟩) nr cr) := ha0
      have he3 : (w1.alloc (.cells #[] 30)).cell? ⟨b, off + i * 4 + 3, none⟩ = some (.slice (some ⟨gg, og, none⟩) (m + 1) c1) := ha3
      clear ha0 ha3
      go_region_law (first
        | (refine step_appX (P := Tryd.prog) _ rfl uxL (.tmp 43) (.tmp 52) rfl (by rfl) (OwnX.nil _ _) A9 m (c1 - 1) (by rfl) xs (by have := HX3.out.form.1; rw [Nat.mul_one] at this ⊢; exact this) (fun h => by subst h; exact HX3.out.none_) (HX3.out.below HBa.out fun k hk => HX3.out.lt hk).news (fun u hu => HM.out.one u (List.mem_cons_of_mem _ hu)) (by have := HM6.out.2; have := HM6.out.1; have := HMM.out; rw [List.length_cons] at *; simp; omega) ?_; intro v3 g3 w3 hX3 hG3 ho3; rw [List.nil_append] at hX3; obtain ⟨A3, n3, c3, rfl, -⟩ := hX3.sl; have HY3 := Lib.hid hX3; have HG3 := Lib.hid hG3; have HO3 := Lib.hid ho3; have hB3 := HBa.out.grown hG3 HBa.out.size (fun k h => by cases h); obtain ⟨hd0, hd3, fd3⟩ := KK.out _ hB3; clear hX3 hG3 ho3 hB3))
      all_goals
        go_wp2
        go_ret2
        have hs := rtook (i := i) (g := none) HM.out HBa.out HG3.out HY3.out HO3.out
        have hu := HR.out.upd _ _ { x with l := L } (.slice A3 n3 c3) hs.2 rfl rfl rfl HO.out hs.1
        unfold RTakePost
        rw [HE.out]
        exact ⟨_, hu.1, hu.2, A0, c0, rfl, HQ.out.1, HQ.out.2.1, HQ.out.2.2.keep hu.2.size fun k hk ho => ⟨hu.2.block k hk (by rw [ho]; exact fun h => by rcases h with h | h <;> cases h), hu.2.mark k hk (by rw [ho]; exact fun h => by rcases h with h | h <;> cases h)⟩⟩
end Go.Proofs.YtihhadgkcdkemaaDoor
