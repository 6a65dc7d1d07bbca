/-
  The walk of the program's Clear. Conditions: the sizes.
-/
import Derived.Test.YtihhadgkcdkemaaDoorRClear
import Derived.Test.YtihhadgkcdkemaaDoorPOpen
namespace Go.Proofs.YtihhadgkcdkemaaDoor
open Go.RowKit Go.Maps
set_option linter.unusedVariables false
def cutM (w : World) (own : Nat → Nat × Nat) : Nat → Nat × Nat := fun k => if k < w.heap.size then own k else (0, 0)
theorem cutM_old {w : World} {own : Nat → Nat × Nat} {k : Nat} (h : k < w.heap.size) : cutM w own k = own k := if_pos h
def is2 (t : Nat × Nat) : Prop := t.1 = 2
/-- what is counted while some keys are still to come -/
def cntL (s : ByteArray) (left : Lit → Bool) (S : List Pq) : Nat := (S.map fun x => if left (kE x.fr x.tt) = true then 0 else if x.fr = s ∨ x.tt = s then x.l.length else 0).sum
theorem sz32 {s : ByteArray} (h : s.size ≤ 32) : s.size ≤ maxLen := Nat.le_trans h (by simp [maxLen])
theorem key_ne {x y : Pq} (hx : okP x) (hy : okP y) (h : ¬ (x.fr = y.fr ∧ x.tt = y.tt)) : (kE x.fr x.tt).sameKey (kE y.fr y.tt) = false := by
  cases e : (kE x.fr x.tt).sameKey (kE y.fr y.tt) with
  | false => rfl
  | true => exact absurd (kE_inj (sz32 hx.1) (sz32 hx.2.1) (sz32 hy.1) (sz32 hy.2.1) (WideAt.sameKey_eq e)) h
theorem key_self {x : Pq} (hx : okP x) : (kE x.fr x.tt).sameKey (kE x.fr x.tt) = true := WideAt.sameKey_self (kE_key (sz32 hx.1) (sz32 hx.2.1))
theorem cntL_same {s : ByteArray} {left left' : Lit → Bool} : ∀ {S : List Pq}, (∀ x ∈ S, left' (kE x.fr x.tt) = left (kE x.fr x.tt)) → cntL s left' S = cntL s left S
  | [], _ => rfl
  | x :: S, h => by
    have ih := cntL_same (s := s) (left := left) (left' := left') (S := S) fun y hy => h y (by simp [hy])
    unfold cntL at ih ⊢
    simp only [List.map_cons, List.sum_cons]
    rw [ih, h x (by simp)]
theorem cntL_step {s : ByteArray} {left : Lit → Bool} : ∀ {S : List Pq}, okQ S → ∀ {i : Nat} {x : Pq}, S[i]? = some x → left (kE x.fr x.tt) = true →
    cntL s (fun z => left z && !z.sameKey (kE x.fr x.tt)) S = cntL s left S + if x.fr = s ∨ x.tt = s then x.l.length else 0
  | [], _, i, x, h, _ => by simp at h
  | y :: S, hok, 0, x, h, hl => by
    obtain rfl : y = x := by simpa using h
    have hy := hok.2 y (by simp)
    have ht := cntL_same (s := s) (left := left) (left' := fun z => left z && !z.sameKey (kE y.fr y.tt)) (S := S) fun z hz => by
      show (left _ && !Lit.sameKey _ _) = _
      rw [key_ne (hok.2 z (by simp [hz])) hy (fun h => (List.pairwise_cons.1 hok.1).1 z hz ⟨h.1.symm, h.2.symm⟩)]
      simp
    unfold cntL at ht ⊢
    simp only [List.map_cons, List.sum_cons]
    rw [ht]
    simp only [hl, key_self hy, Bool.not_true, Bool.and_false, Bool.false_eq_true, if_false, if_true]
    omega
  | y :: S, hok, i + 1, x, h, hl => by
    have hx : S[i]? = some x := by simpa using h
    have ho : okQ S := ⟨(List.pairwise_cons.1 hok.1).2, fun z hz => hok.2 z (by simp [hz])⟩
    have ih := cntL_step (s := s) ho hx hl
    have hn := key_ne (hok.2 y (by simp)) (ho.2 x (List.mem_of_getElem? hx)) ((List.pairwise_cons.1 hok.1).1 x (List.mem_of_getElem? hx))
    unfold cntL at ih ⊢
    simp only [List.map_cons, List.sum_cons]
    rw [ih]
    simp only [hn, Bool.not_false, Bool.and_true]
    omega
theorem cntL_none {s : ByteArray} {left : Lit → Bool} (h : ∀ z, left z = false) (S : List Pq) : cntL s left S = (clearQ s S).2 := by
  unfold cntL clearQ
  simp only [h]
  rfl
theorem cntL_all {s : ByteArray} {left : Lit → Bool} : ∀ {S : List Pq}, (∀ x ∈ S, left (kE x.fr x.tt) = true) → cntL s left S = 0
  | [], _ => rfl
  | x :: S, h => by
    have := cntL_all (s := s) (left := left) (S := S) fun y hy => h y (by simp [hy])
    unfold cntL at this ⊢
    simp only [List.map_cons, List.sum_cons, this, h x (by simp), if_true]
theorem cntL_le {s : ByteArray} {left : Lit → Bool} : ∀ {S : List Pq}, (∀ x ∈ S, okP x) → cntL s left S ≤ S.length * 64
  | [], _ => by simp [cntL]
  | x :: S, h => by
    have ih := cntL_le (s := s) (left := left) (S := S) fun y hy => h y (by simp [hy])
    have o := h x (by simp)
    have o4 := o.2.2.2.1
    have o5 := o.2.2.2.2.1
    unfold cntL at ih ⊢
    simp only [List.map_cons, List.sum_cons, List.length_cons]
    split
    · omega
    · split <;> omega
theorem clr_ends (s : ByteArray) (x : Pq) : (clr s x).fr = x.fr ∧ (clr s x).tt = x.tt ∧ (clr s x).most = x.most := by
  unfold clr
  split <;> exact ⟨rfl, rfl, rfl⟩
theorem idxQ_clr (s f t : ByteArray) : ∀ S : List Pq, idxQ f t (S.map (clr s)) = idxQ f t S
  | [] => rfl
  | x :: S => by
    obtain ⟨h1, h2, -⟩ := clr_ends s x
    simp only [List.map_cons]
    unfold idxQ
    rw [h1, h2, idxQ_clr s f t S]
theorem okQ_clr {s : ByteArray} {S : List Pq} (h : okQ S) : okQ (S.map (clr s)) := by
  refine ⟨?_, fun x hx => ?_⟩
  · rw [List.pairwise_map]
    refine h.1.imp fun {a b} hab => ?_
    obtain ⟨h1, h2, -⟩ := clr_ends s a
    obtain ⟨h3, h4, -⟩ := clr_ends s b
    rw [h1, h2, h3, h4]
    exact hab
  · obtain ⟨y, hy, rfl⟩ := List.mem_map.1 hx
    exact okP_clr (h.2 y hy)
def PClearPost (w : World) (own : Nat → Nat × Nat) (pb : Nat) (S : List Pq) (s : ByteArray) (e : Ending) (w' : World) : Prop :=
  ∃ own', PSt w' own' pb (clearQ s S).1 ∧ Turn isP w w' own own' ∧ e = .returned (.int .i64 ((clearQ s S).2 : Int))
/-- a queue's messages dropped -/
theorem QSt.clear {w : World} {own : Nat → Nat × Nat} {i q : Nat} {x : Pq} (h : QSt w own i q x) : QSt (w.setCell ⟨q, 1, none⟩ (.slice none 0 0)) own i q { x with l := [] } := by
  obtain ⟨h0, v, g, xs, h1, h2, h3, h4⟩ := h
  exact ⟨h0, .slice none 0 0, none, [], h1.set_ 1 _, OwnX.nil _ _, fun b hb => (by cases hb), rfl, fun j v l hj => (by simp at hj), List.Pairwise.nil⟩
set_option maxRecDepth 100000 in
set_option maxHeartbeats 4000000 in
theorem pclear_walk (w : World) (own : Nat → Nat × Nat) (pb : Nat) (S : List Pq) (h : PSt w own pb S) (hS : S.length ≤ 100000) (s : ByteArray) :
    Calls Tryd.prog 21 #[.pointer (some ⟨pb, 0, none⟩), .string s] w (PClearPost w own pb S s) := by
  obtain ⟨mb, nS, D, qs, h1, h2, h3, h4, h5, h6, h7, h8, h9⟩ := h
  have kpb := h1.cell 0
  have HO1 := Lib.hid h4
  have hlen : ∀ i : Nat, ∀ x, S[i]? = some x → ∃ q, qs[i]? = some q := fun i x hx => ⟨_, List.getElem?_eq_getElem (by have := (List.getElem?_eq_some_iff.1 hx).1; omega)⟩
  have HAS : Hid (∀ (i : Nat) (x : Pq), S[i]? = some x → Maps.has D (kE x.fr x.tt) = true) := Lib.hid fun i x hx => by
    obtain ⟨q, hq⟩ := hlen i x hx
    have ho := h7.2 x (List.mem_of_getElem? hx)
    exact ((h8 _ _ (sz32 ho.1) (sz32 ho.2.1)).2 i q (idxQ_at h7.1 hx rfl rfl) hq).1
  have HLEN := Lib.hid hlen
  have H1 := Lib.hid h1
  have H2 := Lib.hid h2
  have H3 := Lib.hid h3
  have H5 := Lib.hid h5
  have H6 := Lib.hid h6
  have H7 := Lib.hid h7
  have H8 := Lib.hid h8
  have HQ0 : Hid (∀ (i q : Nat) (x : Pq), qs[i]? = some q → S[i]? = some x → QSt w (cutM w own) i q x) := Lib.hid fun i q x hq hx => (h9 i q x hq hx).keep (Nat.le_refl _) fun k hk _ => ⟨rfl, cutM_old hk⟩
  clear h1 h2 h3 h4 h5 h6 h7 h8 h9 hlen
  go_enter Tryd.func21, Tryd.ntmps21
  go_wp2_with (at_range; refine wpList_range_own _ rfl _ 42 rfl 46 49 lawE Tryd.underlying42 ptrElem mb nS D rfl HO1.out ?_; intro w0 hrg0 hg0 hs0)
  go_frame
  have HR0 := Lib.hid hrg0
  have HB0 : Hid (Below w.heap.size w w0) := Lib.hid ⟨hg0.os, hg0.tape, hg0.output, hg0.size, fun k hk => hg0.block k hk (by simp)⟩
  have HT0 : Hid (Turn is2 w w0 own (cutM w own)) := Lib.hid (Turn.of_below HB0.out fun k hk => cutM_old hk)
  have HQ1 : Hid (∀ (i q : Nat) (x : Pq), qs[i]? = some q → S[i]? = some x → QSt w0 (cutM w own) i q (if Maps.has D (kE x.fr x.tt) = true then x else clr s x)) := Lib.hid fun i q x hq hx => by
    rw [if_pos (HAS.out i x hx)]
    exact (HQ0.out i q x hq hx).keep HB0.out.size fun k hk _ => by
      exact ⟨HB0.out.block k hk, rfl⟩
  have HN0 : Hid (0 = cntL s (Maps.has D) S) := Lib.hid (cntL_all fun x hx => by
    obtain ⟨i, hi, rfl⟩ := List.mem_iff_getElem.1 hx
    exact HAS.out i _ (List.getElem?_eq_getElem hi)).symm
  have HRL : Hid (w.heap.size < w0.heap.size) := Lib.hid (by rw [hs0]; omega)
  clear hrg0 hg0 hs0 kpb
  go_loopg [5, 6, 7] (Maps.size D) (fun k s5 s6 s7 wr => ∃ (left : Lit → Bool) (N : Nat), s5 = .int .i64 (N : Int) ∧ Hid (N = cntL s left S) ∧ Hid (wr.ranges Tryd.prog 46 ptrElem mb w.heap.size nS D left k) ∧ Hid (Turn is2 w wr own (cutM w own)) ∧ Hid (w.heap.size < wr.heap.size) ∧ Hid (∀ (i q : Nat) (x : Pq), qs[i]? = some q → S[i]? = some x → QSt wr (cutM w own) i q (if left (kE x.fr x.tt) = true then x else clr s x)) ∧ Hid (∀ z, left z = true → Maps.has D z = true))
  case atStart => exact ⟨Maps.has D, 0, rfl, HN0, HR0, HT0, HRL, HQ1, Lib.hid fun z h => h⟩
  case round =>
    obtain ⟨left, N, rfl, HN, HR, HT, HW, HQ, HL⟩ := hrel
    clear HN0 HR0 HT0 HRL HQ1 HB0
    have hN6 : N ≤ 6400000 := by have := cntL_le (s := s) (left := left) H7.out.2; rw [← HN.out] at this; omega
    go_wp2_with (at_next; refine wpList_next_ranges _ rfl _ rfl 46 lawE ptrElem mkE mkP inv_mkE inv_mkP mb w.heap.size nS D left gk rfl HR.out ?_ ?_)
    · intro hc0 hl0
      have HE := Lib.hid (cntL_none (s := s) hl0 S)
      have HL0 := Lib.hid hl0
      clear hc0 hl0
      go_wp2_with fail
      go_ret
      have hpb := H1.out.lt
      have n2 : ∀ t : Nat × Nat, t.1 = 1 → ¬ is2 t := fun t a b => by unfold is2 at b; omega
      have e1 := HT.out.block pb hpb (n2 _ (by rw [H2.out]))
      have e2 := HT.out.block mb HO1.out.lt (n2 _ (by rw [H3.out]))
      refine ⟨cutM w own, ⟨mb, nS, D, qs, ?_, (cutM_old hpb).trans H2.out, (cutM_old HO1.out.lt).trans H3.out, ownsMap_same HO1.out e2, by show _ = ((S.map (clr s)).length); rw [List.length_map]; exact H5.out, by show _ = ((S.map (clr s)).length); rw [List.length_map]; exact H6.out, okQ_clr H7.out, fun f t hf ht => ?_, fun i q x hq hx => ?_⟩, HT.out.mono fun t h => ?_, ?_⟩
      · have := H1.out
        unfold Blk at this ⊢
        rw [e1]; exact this
      · show (idxQ f t (S.map (clr s)) = none → _) ∧ ∀ i q, idxQ f t (S.map (clr s)) = some i → _
        rw [idxQ_clr]
        exact H8.out f t hf ht
      · rw [show (clearQ s S).1 = S.map (clr s) from rfl, List.getElem?_map] at hx
        cases e : S[i]? with
        | none => rw [e] at hx; cases hx
        | some y =>
          rw [e] at hx
          obtain rfl : clr s y = x := by simpa using hx
          have := HQ.out i q y hq e
          rw [HL0.out] at this
          exact this
      · unfold is2 at h; exact ⟨by omega, by omega⟩
      · rw [← HE.out, ← HN.out]; rfl
    · intro a b c kl y1 y2 w1 cnt1 hkey hlk hv hat hrg1 hlt hg1 hs1 hen
      obtain ⟨a', b', e1, ha, hb, rfl⟩ := keyE_inv hkey
      obtain ⟨rfl, rfl⟩ : a = a' ∧ b = b' := by simpa [mkE] using e1
      obtain ⟨i, x, q, hx, hq, hxa, hxb, rfl⟩ : ∃ (i : Nat) (x : Pq) (q : Nat), S[i]? = some x ∧ qs[i]? = some q ∧ x.fr = a ∧ x.tt = b ∧ c = some q := by
        have h1 := HL.out _ hlk
        cases e : idxQ a b S with
        | none => rw [((H8.out a b ha hb).1 e)] at h1; cases h1
        | some i =>
          obtain ⟨x, h2, h3, h4⟩ := idxQ_some e
          obtain ⟨q, hq⟩ := HLEN.out i x h2
          refine ⟨i, x, q, h2, hq, h3, h4, ?_⟩
          have h5 := ((H8.out a b ha hb).2 i q e hq).2 .nil
          rw [hat .nil] at h5
          cases c with
          | none =>
            rcases ptrElem_inv hv with ⟨-, h6⟩ | ⟨b', h6, -⟩
            · change y1 = _ at h6; rw [h6] at h5; cases h5
            · cases h6
          | some c =>
            rcases ptrElem_inv hv with ⟨h6, -⟩ | ⟨b', h6, h7⟩
            · cases h6
            · change y1 = _ at h7; rw [h7] at h5
              injection h6 with h6
              injection h6 with h6
              injection h6 with h6
              injection h5 with h5
              injection h5 with _ h5
              rw [h6]
              congr 1
              exact Int.ofNat.inj h5
      have hox := H7.out.2 x (List.mem_of_getElem? hx)
      subst hxa hxb
      have hQ := HQ.out i q x hq hx
      rw [if_pos hlk] at hQ
      have HCS := Lib.hid (cntL_step (s := s) H7.out hx hlk)
      have HLS : Hid (∀ (j : Nat) (z : Pq), S[j]? = some z → j ≠ i → (left (kE z.fr z.tt) && !(kE z.fr z.tt).sameKey (kE x.fr x.tt)) = left (kE z.fr z.tt)) := Lib.hid fun j z hz hne => by
        rw [key_ne (H7.out.2 z (List.mem_of_getElem? hz)) hox (fun h => hne ?_)]
        · simp
        · have e3 := idxQ_at H7.out.1 hz rfl rfl
          rw [h.1, h.2, idxQ_at H7.out.1 hx rfl rfl] at e3
          exact (Option.some.inj e3).symm
      have HLX : Hid ((left (kE x.fr x.tt) && !(kE x.fr x.tt).sameKey (kE x.fr x.tt)) = false) := Lib.hid (by rw [key_self hox]; simp)
      -- the world behind the step, and with the key's copy
      have hA1 : (w1.alloc (.cells #[.string x.fr, .string x.tt] 46)).heap.size = w1.heap.size + 1 := by simp
      have old : ∀ k, k < wr.heap.size → k ≠ w.heap.size → (w1.alloc (.cells #[.string x.fr, .string x.tt] 46)).heap[k]? = wr.heap[k]? := fun k hk hne => by
        rw [Below.heap_alloc _ _ k (Nat.lt_of_lt_of_le hk hg1.size), hg1.block k hk (fun e => hne (by injection e))]
      have cz : cutM w own w.heap.size = (0, 0) := if_neg (Nat.lt_irrefl _)
      have HQ2 : Hid (∀ (j q : Nat) (z : Pq), qs[j]? = some q → S[j]? = some z → QSt (w1.alloc (.cells #[.string x.fr, .string x.tt] 46)) (cutM w own) j q (if left (kE z.fr z.tt) = true then z else clr s z)) := Lib.hid fun j q z hq hz => (HQ.out j q z hq hz).keep (by rw [hA1]; have := hg1.size; omega) fun k hk ho => ⟨old k hk (fun e => by rw [e, cz] at ho; rcases ho with ho | ho | ho <;> cases ho), rfl⟩
      have HQx : Hid (QSt (w1.alloc (.cells #[.string x.fr, .string x.tt] 46)) (cutM w own) i q x) := Lib.hid (by have := HQ2.out i q x hq hx; rw [if_pos hlk] at this; exact this)
      have HT2 : Hid (Turn is2 w (w1.alloc (.cells #[.string x.fr, .string x.tt] 46)) own (cutM w own)) := Lib.hid ⟨hg1.os.trans HT.out.os, hg1.tape.trans HT.out.tape, hg1.output.trans HT.out.output, by rw [hA1]; have := hg1.size; have := HT.out.size; omega, fun k hk hn => (old k (Nat.lt_of_lt_of_le hk HT.out.size) (by omega)).trans (HT.out.block k hk hn), HT.out.mark⟩
      have HR2 := Lib.hid (hrg1.alloc (.cells #[.string x.fr, .string x.tt] 46))
      have HW2 : Hid (w.heap.size < (w1.alloc (.cells #[.string x.fr, .string x.tt] 46)).heap.size) := Lib.hid (by rw [hA1]; have := hg1.size; have := HW.out; omega)
      have HLT := Lib.hid hlt
      have HHX := Lib.hid hx
      have HHQ := Lib.hid hq
      have hm2 : x.l.length ≤ 64 := by have := hox.2.2.2.1; have := hox.2.2.2.2.1; omega
      have HY2 := Blk.new w1 46 #[.string x.fr, .string x.tt]
      have y0 := HY2.cell 0
      have y1' := HY2.cell 1
      obtain ⟨Aq, cq, k0, k1⟩ := HQx.out.cells
      have f1 := (by obtain ⟨_, _, _, _, hB, _⟩ := HQx.out; exact hB.frozen 1 : (w1.alloc (.cells #[.string x.fr, .string x.tt] 46)).frozen? ⟨q, 1, none⟩ = false)
      have HE2 : Hid (∀ (j q2 : Nat) (z : Pq), qs[j]? = some q2 → S[j]? = some z → j ≠ i → QSt ((w1.alloc (.cells #[.string x.fr, .string x.tt] 46)).setCell ⟨q, 1, none⟩ (.slice none 0 0)) (cutM w own) j q2 (if left (kE z.fr z.tt) = true then z else clr s z)) := Lib.hid fun j q2 z hq2 hz hne => (HQ2.out j q2 z hq2 hz).keep (by simp) fun k hk ho => ⟨Below.heap_setCell _ ⟨q, 1, none⟩ _ k (fun e => by rw [show k = q from e, HQx.out.1] at ho; rcases ho with ho | ho | ho <;> first | (injection ho with _ ho; exact hne ho.symm) | cases ho), rfl⟩
      have HEx := Lib.hid HQx.out.clear
      have hqm : q ≠ mb ∧ q ≠ w.heap.size := ⟨(fun e => by have h10 := HQx.out.1; rw [e, cutM_old HO1.out.lt, H3.out] at h10; cases h10), (fun e => by have h10 := HQx.out.1; rw [e, cz] at h10; cases h10)⟩
      have HRs : Hid (((w1.alloc (.cells #[.string x.fr, .string x.tt] 46)).setCell ⟨q, 1, none⟩ (.slice none 0 0)).ranges Tryd.prog 46 ptrElem mb w.heap.size nS D (fun z => left z && !z.sameKey (kE x.fr x.tt)) cnt1) := Lib.hid (HR2.out.kept (row := some q) ⟨rfl, rfl, rfl, by simp, fun k hk hne => Below.heap_setCell _ ⟨q, 1, none⟩ _ k fun e => hne (by rw [e])⟩ (fun e => hqm.1 (by injection e with e; exact e.symm)) (fun e => hqm.2 (by injection e with e; exact e.symm)))
      have HTs : Hid (Turn is2 w ((w1.alloc (.cells #[.string x.fr, .string x.tt] 46)).setCell ⟨q, 1, none⟩ (.slice none 0 0)) own (cutM w own)) := Lib.hid ⟨HT2.out.os, HT2.out.tape, HT2.out.output, by rw [World.size_setCell]; exact HT2.out.size, fun k hk hn => (Below.heap_setCell _ ⟨q, 1, none⟩ _ k fun e => hn (by have h10 := HQx.out.1; rw [← show k = q from e, cutM_old hk] at h10; rw [h10]; rfl)).trans (HT2.out.block k hk hn), HT2.out.mark⟩
      have HLz : Hid (∀ z, (left z && !z.sameKey (kE x.fr x.tt)) = true → Maps.has D z = true) := Lib.hid fun z h => HL.out z (by simp only [Bool.and_eq_true] at h; exact h.1)
      have hw1 : IntKind.i64.wrap ((N : Int) + (x.l.length : Int)) = ((N + x.l.length : Nat) : Int) := by rw [IntWalk.i64_in _ (by omega)]; omega
      have finY : (x.fr = s ∨ x.tt = s) → Hid (N + x.l.length = cntL s (fun z => left z && !z.sameKey (kE x.fr x.tt)) S ∧ ∀ (j q2 : Nat) (z : Pq), qs[j]? = some q2 → S[j]? = some z → QSt ((w1.alloc (.cells #[.string x.fr, .string x.tt] 46)).setCell ⟨q, 1, none⟩ (.slice none 0 0)) (cutM w own) j q2 (if (left (kE z.fr z.tt) && !(kE z.fr z.tt).sameKey (kE x.fr x.tt)) = true then z else clr s z)) := fun hyes => Lib.hid ⟨by rw [HCS.out, if_pos hyes, HN.out], fun j q2 z hq2 hz => by
        by_cases e : j = i
        · subst e
          rw [HHX.out] at hz; cases hz
          rw [HHQ.out] at hq2; cases hq2
          rw [HLX.out, if_neg (by simp)]
          unfold clr
          rw [if_pos hyes]
          exact HEx.out
        · rw [HLS.out j z hz e]
          exact HE2.out j q2 z hq2 hz e⟩
      have finN : ¬ (x.fr = s ∨ x.tt = s) → Hid (N = cntL s (fun z => left z && !z.sameKey (kE x.fr x.tt)) S ∧ ∀ (j q2 : Nat) (z : Pq), qs[j]? = some q2 → S[j]? = some z → QSt (w1.alloc (.cells #[.string x.fr, .string x.tt] 46)) (cutM w own) j q2 (if (left (kE z.fr z.tt) && !(kE z.fr z.tt).sameKey (kE x.fr x.tt)) = true then z else clr s z)) := fun hno => Lib.hid ⟨by rw [HCS.out, if_neg hno, Nat.add_zero, HN.out], fun j q2 z hq2 hz => by
        by_cases e : j = i
        · subst e
          rw [HHX.out] at hz; cases hz
          rw [HHQ.out] at hq2; cases hq2
          rw [HLX.out, if_neg (by simp)]
          unfold clr
          rw [if_neg hno]
          exact HQx.out
        · rw [HLS.out j z hz e]
          exact HQ2.out j q2 z hq2 hz⟩
      dsimp only [mkE, mkP] at hen ⊢
      clear hkey hlk hv hat hrg1 hlt hg1 hs1 e1 ha hb hx hq hQ hox old hA1 cz HQ HR HT HQ2 HQx HY2 hqm HE2 HEx HHX HHQ HCS HLS HLX HQ0 HAS
      generalize x.l.length = m at *
      generalize x.fr = a at *
      generalize x.tt = d at *
      by_cases h1 : a = s
      · obtain ⟨q1, q2⟩ := str_same h1
        have HF := finY (.inl h1)
        clear finY finN h1
        go_wp2_with fail
        go_roundg cnt1
        case rel => exact ⟨_, N + m, rfl, Lib.hid HF.out.1, HRs, HTs, Lib.hid (by rw [World.size_setCell]; exact HW2.out), Lib.hid HF.out.2, HLz⟩
        case measure => exact HLT.out
      · have q1 := str_ne h1
        have q2 : ¬ a.toList = s.toList := fun e => by rw [e] at q1; simp at q1
        by_cases h2 : d = s
        · obtain ⟨q3, q4⟩ := str_same h2
          have HF := finY (.inr h2)
          clear finY finN h1 h2
          go_wp2_with fail
          go_roundg cnt1
          case rel => exact ⟨_, N + m, rfl, Lib.hid HF.out.1, HRs, HTs, Lib.hid (by rw [World.size_setCell]; exact HW2.out), Lib.hid HF.out.2, HLz⟩
          case measure => exact HLT.out
        · have q3 := str_ne h2
          have q4 : ¬ d.toList = s.toList := fun e => by rw [e] at q3; simp at q3
          have HF := finN (fun h => h.elim h1 h2)
          clear finY finN h1 h2
          go_wp2_with fail
          go_roundg cnt1
          case rel => exact ⟨_, N, rfl, Lib.hid HF.out.1, HR2, HT2, HW2, Lib.hid HF.out.2, HLz⟩
          case measure => exact HLT.out
end Go.Proofs.YtihhadgkcdkemaaDoor
