/-
  The walk of the program's Waiting. Conditions: the sizes.
-/
import Derived.Test.YtihhadgkcdkemaaDoorPClear
import Derived.Test.YtihhadgkcdkemaaDoorRWait
import Derived.Test.YtihhadgkcdkemaaDoorPIter
namespace Go.Proofs.YtihhadgkcdkemaaDoor
open Go.RowKit Go.Maps Go.Sort
set_option linter.unusedVariables false
theorem OwnX.of_row {w : World} {base n : Nat} {e : TypeId} {v : Value} {xs : List Value} (h : w.ownsRow base e 1 v n xs) : ∃ g, OwnX 1 w g v xs ∧ (∀ k, g = some k → base ≤ k) := by
  obtain ⟨h1, h2 | ⟨g, cap, cur, rfl, hb, hk, hn, hc, hs, ht⟩⟩ := h
  · obtain ⟨rfl, rfl⟩ := h2
    obtain rfl : xs = [] := List.eq_nil_of_length_eq_zero (by omega)
    exact ⟨none, OwnX.nil _ _, fun k hk => by cases hk⟩
  · rcases Nat.eq_zero_or_pos cap with h0 | h0
    · subst h0
      obtain rfl : n = 0 := by omega
      obtain rfl : xs = [] := List.eq_nil_of_length_eq_zero (by omega)
      exact ⟨none, OwnX.nil _ _, fun k hk => by cases hk⟩
    · refine ⟨some g, ⟨_, n, cap, rfl, h1, hn, hc, .inr ⟨g, 0, rfl, rfl, (Array.getElem?_eq_some_iff.1 hk).1, fun i hi => ?_, fun i hi => ?_⟩⟩, fun k hk => by cases hk; exact hb⟩
      · have hB : Blk w g e cur := hk
        rw [Nat.zero_add, hB.cell i, ← ht, List.getElem?_take_of_lt (by omega), Array.getElem?_toList]
      · have hB : Blk w g e cur := hk
        rw [Nat.zero_add, hB.cell i, hB.frozen i, Array.getElem?_eq_getElem (by omega)]
        exact ⟨rfl, rfl⟩
theorem mem_waitN {S : List Pq} {s : ByteArray} : s ∈ waitN S ↔ ∃ x ∈ S, 0 < x.l.length ∧ s = x.tt := by
  unfold waitN
  rw [List.mem_map]
  constructor
  · rintro ⟨x, hx, rfl⟩
    obtain ⟨h1, h2⟩ := List.mem_filter.1 hx
    exact ⟨x, h1, of_decide_eq_true h2, rfl⟩
  · rintro ⟨x, hx, h0, rfl⟩
    exact ⟨x, List.mem_filter.2 ⟨hx, decide_eq_true h0⟩, rfl⟩
theorem mem_waitQ {S : List Pq} {s : ByteArray} : s ∈ waitQ S ↔ s ∈ waitN S := by
  unfold waitQ
  rw [withAll_mem]
  simp
/-- the sorted keys of the set are the document's names -/
theorem sorted_waitQ {w : World} {b n : Nat} {D : DataW Unit} (h : w.ownsMap Tryd.prog 9 unitElem b n D) {S : List Pq} (hS : ∀ x ∈ S, okP x) (hm : ∀ s : ByteArray, s.size ≤ maxLen → (Maps.has D (kS s) = true ↔ s ∈ waitN S)) {ss : List (List UInt8)} (hp : ss.Perm (strKeys D)) :
    ss.mergeSort (fun x y => decide (x ≤ y)) = (waitQ S).map (fun s => s.data.toList) := by
  have hsz : ∀ s ∈ waitN S, s.size ≤ maxLen := fun s hs => by
    obtain ⟨x, hx, -, rfl⟩ := mem_waitN.1 hs
    exact sz32 (hS x hx).2.1
  have hsrt : Srt (waitQ S) := withAll_srt _ _ List.Pairwise.nil
  obtain ⟨es, rfl, hpw, -⟩ := h.entries lawS
  obtain ⟨es', e, hko⟩ := h.keysOf
  injection e with e
  subst e
  have hstr : ∀ p ∈ es, ∃ x : List UInt8, p.1 = .string x ∧ x.length ≤ maxLen := fun p hp => by
    obtain ⟨v, hv⟩ := hko p hp
    obtain ⟨x, _, hx, hl⟩ := Maps.keyOf_str Tryd.underlying9 hv
    exact ⟨x, hx, hl⟩
  have hnd : ((waitQ S).map (fun s => s.data.toList)).Nodup := List.pairwise_map.2 (hsrt.nodup.imp fun {a b} hne e => hne ((str_eq (l := b.data.toList) e).trans (str_eq (l := b.data.toList) rfl).symm))
  have hmem : ∀ x : List UInt8, x ∈ (waitQ S).map (fun s => s.data.toList) ↔ Maps.has (.map es) (.string x) = true := fun x => by
    have ek : kS ⟨x.toArray⟩ = .string x := rfl
    constructor
    · intro hx
      obtain ⟨s, hs, rfl⟩ := List.mem_map.1 hx
      have hs := mem_waitQ.1 hs
      exact (hm s (hsz s hs)).2 hs
    · intro hx
      have hx2 := hx
      rw [Maps.has_eq, List.any_eq_true] at hx2
      obtain ⟨p, hp1, hp2⟩ := hx2
      obtain ⟨y, hy, hl⟩ := hstr p hp1
      rw [hy] at hp2
      have e2 : (.string y : Lit) = .string x := WideAt.sameKey_eq hp2
      injection e2 with e2
      subst e2
      have := (hm ⟨y.toArray⟩ (by show y.toArray.size ≤ maxLen; simpa using hl)).1 hx
      exact List.mem_map.2 ⟨_, mem_waitQ.2 this, rfl⟩
  have hperm := perm_strKeys hpw (fun p hp => by obtain ⟨x, hx, -⟩ := hstr p hp; exact ⟨x, hx⟩) hnd hmem
  have tr : ∀ a b c : List UInt8, decide (a ≤ b) = true → decide (b ≤ c) = true → decide (a ≤ c) = true := fun a b c h1 h2 => by simp only [decide_eq_true_eq] at *; exact List.le_trans h1 h2
  have tot : ∀ a b : List UInt8, (decide (a ≤ b) || decide (b ≤ a)) = true := fun a b => by simp only [Bool.or_eq_true, decide_eq_true_eq]; exact List.le_total a b
  refine List.Perm.eq_of_pairwise (le := fun a b => decide (a ≤ b) = true) (fun a b _ _ h1 h2 => ?_) (List.pairwise_mergeSort tr tot ss) ?_ (((List.mergeSort_perm ss _).trans hp).trans hperm.symm)
  · simp only [decide_eq_true_eq] at h1 h2
    exact List.le_antisymm h1 h2
  · refine List.pairwise_map.2 (hsrt.imp fun {a b} h => ?_)
    unfold ltS at h
    exact decide_eq_true (List.le_of_lt (of_decide_eq_true h))
def PWaitPost (w : World) (S : List Pq) (e : Ending) (w' : World) : Prop :=
  Below w.heap.size w w' ∧ ∃ v g, e = .returned v ∧ OwnX 1 w' g v ((waitQ S).map Value.string) ∧ ∀ k, g = some k → w.heap.size ≤ k
def SetW (S : List Pq) (left : Lit → Bool) (D : DataW Unit) : Prop :=
  ∀ s : ByteArray, s.size ≤ maxLen → (Maps.has D (kS s) = true ↔ ∃ x ∈ S, left (kE x.fr x.tt) = false ∧ 0 < x.l.length ∧ s = x.tt)
theorem setw_step {S : List Pq} {left : Lit → Bool} {D : DataW Unit} (h : SetW S left D) (hD : IsMap D) (hS : okQ S) {x : Pq} (hx : x ∈ S) :
    (0 < x.l.length → SetW S (fun z => left z && !z.sameKey (kE x.fr x.tt)) (D.put (kS x.tt) (.agg []))) ∧ (¬ 0 < x.l.length → SetW S (fun z => left z && !z.sameKey (kE x.fr x.tt)) D) := by
  have self : (left (kE x.fr x.tt) && !(kE x.fr x.tt).sameKey (kE x.fr x.tt)) = false := by rw [key_self (hS.2 x hx)]; simp
  have sub : ∀ y ∈ S, (left (kE y.fr y.tt) && !(kE y.fr y.tt).sameKey (kE x.fr x.tt)) = false → left (kE y.fr y.tt) = false ∨ (y.fr = x.fr ∧ y.tt = x.tt) := fun y hy h => by
    by_cases e : y.fr = x.fr ∧ y.tt = x.tt
    · exact .inr e
    · rw [key_ne (hS.2 y hy) (hS.2 x hx) e] at h
      exact .inl (by simpa using h)
  have same : ∀ y ∈ S, y.fr = x.fr ∧ y.tt = x.tt → y = x := fun y hy e => by
    obtain ⟨i, hi, rfl⟩ := List.mem_iff_getElem.1 hy
    obtain ⟨j, hj, rfl⟩ := List.mem_iff_getElem.1 hx
    have e1 := idxQ_at hS.1 (List.getElem?_eq_getElem hi) e.1 e.2
    rw [idxQ_at hS.1 (List.getElem?_eq_getElem hj) rfl rfl] at e1
    cases e1
    rfl
  have old : ∀ y : Pq, left (kE y.fr y.tt) = false → (left (kE y.fr y.tt) && !(kE y.fr y.tt).sameKey (kE x.fr x.tt)) = false := fun y h => by rw [h]; rfl
  refine ⟨fun h0 s hs => ?_, fun h0 s hs => ?_⟩
  · rw [has_put_S hD, h s hs]
    constructor
    · rintro (rfl | ⟨y, hy, h1, h2, h3⟩)
      · exact ⟨x, hx, self, h0, rfl⟩
      · exact ⟨y, hy, old y h1, h2, h3⟩
    · rintro ⟨y, hy, h1, h2, h3⟩
      rcases sub y hy h1 with h1 | h1
      · exact .inr ⟨y, hy, h1, h2, h3⟩
      · exact .inl (h3.trans h1.2)
  · rw [h s hs]
    constructor
    · rintro ⟨y, hy, h1, h2, h3⟩
      exact ⟨y, hy, old y h1, h2, h3⟩
    · rintro ⟨y, hy, h1, h2, h3⟩
      rcases sub y hy h1 with h1 | h1
      · exact ⟨y, hy, h1, h2, h3⟩
      · rw [same y hy h1] at h2
        exact absurd h2 h0
set_option maxRecDepth 100000 in
set_option maxHeartbeats 4000000 in
theorem pwait_walk (w : World) (own : Nat → Nat × Nat) (pb : Nat) (S : List Pq) (h : PSt w own pb S) (hS : S.length ≤ 100000) :
    Calls Tryd.prog 23 #[.pointer (some ⟨pb, 0, none⟩)] w (PWaitPost w S) := by
  have hmm := @run_makeMap Tryd.prog
  obtain ⟨mb, nS, D, qs, h1, h2, h3, h4, h5, h6, h7, h8, h9⟩ := h
  have hlen : ∀ i : Nat, ∀ x, S[i]? = some x → ∃ q, qs[i]? = some q := fun i x hx => ⟨_, List.getElem?_eq_getElem (by have := (List.getElem?_eq_some_iff.1 hx).1; omega)⟩
  have HAS : Hid (∀ x ∈ S, Maps.has D (kE x.fr x.tt) = true) := Lib.hid fun x hx => by
    obtain ⟨i, hi, rfl⟩ := List.mem_iff_getElem.1 hx
    obtain ⟨q, hq⟩ := hlen i _ (List.getElem?_eq_getElem hi)
    have ho := h7.2 _ hx
    exact ((h8 _ _ (sz32 ho.1) (sz32 ho.2.1)).2 i q (idxQ_at h7.1 (List.getElem?_eq_getElem hi) rfl rfl) hq).1
  have HLEN := Lib.hid hlen
  have h1a := h1.alloc (.map #[] 0)
  have kpb : (w.alloc (.map #[] 0)).cell? ⟨pb, 0, none⟩ = some (.map (some mb)) := h1a.cell 0
  have hM1 : (w.alloc (.map #[] 0)).ownsMap Tryd.prog 46 ptrElem mb nS D := h4.alloc _
  have HM1 := Lib.hid hM1
  have o0 : (w.alloc (.map #[] 0)).ownsMap Tryd.prog 9 (unitElem (H := Unit)) w.heap.size 0 (.map []) := World.ownsMap_made (H := Unit) w Tryd.prog 9 unitElem
  have HO0 := Lib.hid o0
  have HSZ : Hid (Maps.size D ≤ 100000) := Lib.hid (Nat.le_trans h4.size_le (by rw [h5]; exact hS))
  have H4 := Lib.hid h4
  have H7 := Lib.hid h7
  have H8 := Lib.hid h8
  have H9 := Lib.hid h9
  clear h1 h2 h3 h4 h5 h6 h7 h8 h9 hlen h1a hM1 o0
  go_enter Tryd.func23, Tryd.ntmps23
  go_wp2_with (at_range; refine wpList_range_own _ rfl _ 42 rfl 46 49 lawE Tryd.underlying42 ptrElem mb nS D rfl HM1.out ?_; intro w0 hrg0 hg0 hs0)
  go_frame
  have hsA : (w.alloc (.map #[] 0)).heap.size = w.heap.size + 1 := by simp
  obtain ⟨r, hr⟩ : ∃ r, r = (w.alloc (.map #[] 0)).heap.size := ⟨_, rfl⟩
  rw [← hr] at hrg0
  rw [← hr]
  rw [hsA] at hr
  have HRr := Lib.hid hr
  clear hr
  have HR0 := Lib.hid hrg0
  have HB0 : Hid (Below w.heap.size w w0) := Lib.hid (((Below.refl _ _).alloc (Nat.le_refl _) _).grown hg0 (by simp) (fun k hk => by cases hk))
  have HD0 := Lib.hid (HO0.out.kept hg0 (by simp))
  have HV0 : Hid (SetW S (Maps.has D) (.map [])) := Lib.hid fun s hs => by
    refine ⟨(fun h => by cases h), fun ⟨x, hx, h, _⟩ => ?_⟩
    rw [HAS.out x hx] at h
    cases h
  clear hrg0 hg0 hs0 kpb hsA
  go_loopg [4, 5] (Maps.size D) (fun k s4 s5 wr => ∃ (left : Lit → Bool) (n : Nat) (Dr : DataW Unit), Hid (wr.ranges Tryd.prog 46 ptrElem mb r nS D left k) ∧ Hid (wr.ownsMap Tryd.prog 9 unitElem w.heap.size n Dr) ∧ Hid (n + k ≤ Maps.size D) ∧ Hid (Below w.heap.size w wr) ∧ Hid (SetW S left Dr) ∧ Hid (∀ z, left z = true → Maps.has D z = true))
  case atStart => exact ⟨Maps.has D, 0, .map [], HR0, HD0, Lib.hid (by omega), HB0, HV0, Lib.hid fun z h => h⟩
  case round =>
    obtain ⟨left, n, Dr, HR, HO, HN, HB, HV, HL⟩ := hrel
    clear HR0 HD0 HB0 HV0 HO0 HM1
    go_wp2_with (at_next; refine wpList_next_ranges _ rfl _ rfl 46 lawE ptrElem mkE mkP inv_mkE inv_mkP mb r nS D left gk rfl HR.out ?_ ?_)
    · intro hc0 hl0
      have HL0 := Lib.hid hl0
      have HZ : Hid (Maps.size Dr ≤ 100000) := Lib.hid (by have := HO.out.size_le; have := HN.out; have := HSZ.out; omega)
      have HMM : Hid (∀ s : ByteArray, s.size ≤ maxLen → (Maps.has Dr (kS s) = true ↔ s ∈ waitN S)) := Lib.hid fun s hs => by
        rw [HV.out s hs, mem_waitN]
        exact ⟨fun ⟨x, hx, _, h⟩ => ⟨x, hx, h⟩, fun ⟨x, hx, h⟩ => ⟨x, hx, HL0.out _, h⟩⟩
      clear hc0 hl0
      have KK := Lib.hid ((callsIn_wide (n := 5)).1 (Tryd.maps_Keys_32 (some w.heap.size) wr))
      have KS := Lib.hid ((callsIn_wide (n := 5)).1 (Tryd.slices_Sorted_keys_31_32 w.heap.size n Dr unitElem wr HO.out (by have := HZ.out; simp only [maxLen]; omega) (by have := HZ.out; omega)))
      go_wp2_with fail
      with_reducible refine KK.out.mono ?_
      rintro e w1 ⟨rfl, rfl⟩
      go_wp2_with fail
      with_reducible refine KS.out.mono ?_
      rintro e w2 ⟨v, ss, rfl, hp, hrow, -, hb2⟩
      have HP2 := Lib.hid hp
      have HRW := Lib.hid hrow
      have HB2 := Lib.hid hb2
      clear hp hrow hb2 KK KS
      go_wp2_with fail
      go_ret
      have ha : Below w.heap.size w (wr.alloc (.cells #[.map (some w.heap.size)] 48)) := HB.out.alloc HB.out.size _
      obtain ⟨g, hX, hg⟩ := OwnX.of_row HRW.out
      rw [sorted_waitQ HO.out H7.out.2 HMM.out HP2.out, List.map_map, show ((encStr ∘ fun s : ByteArray => s.data.toList) : ByteArray → Value) = Value.string from rfl] at hX
      exact ⟨ha.trans (HB2.out.mono ha.size), v, g, rfl, hX, fun k hk => Nat.le_trans ha.size (hg k hk)⟩
    · intro a b c kl y1 y2 w1 cnt1 hkey hlk hv hat hrg1 hlt hg1 hs1 hen
      obtain ⟨a', b', e1, ha, hb, rfl⟩ := keyE_inv hkey
      obtain ⟨rfl, rfl⟩ : a = a' ∧ b = b' := by simpa [mkE] using e1
      obtain ⟨i, x, q, hx, hq, hxa, hxb, rfl⟩ : ∃ (i : Nat) (x : Pq) (q : Nat), S[i]? = some x ∧ qs[i]? = some q ∧ x.fr = a ∧ x.tt = b ∧ c = some q := by
        have h1 := HL.out _ hlk
        cases e : idxQ a b S with
        | none => rw [((H8.out a b ha hb).1 e)] at h1; cases h1
        | some i =>
          obtain ⟨x, h2, h3, h4⟩ := idxQ_some e
          obtain ⟨q, hq⟩ := HLEN.out i x h2
          refine ⟨i, x, q, h2, hq, h3, h4, ?_⟩
          have h5 := ((H8.out a b ha hb).2 i q e hq).2 .nil
          rw [hat .nil] at h5
          cases c with
          | none =>
            rcases ptrElem_inv hv with ⟨-, h6⟩ | ⟨b', h6, -⟩
            · change y1 = _ at h6; rw [h6] at h5; cases h5
            · cases h6
          | some c =>
            rcases ptrElem_inv hv with ⟨h6, -⟩ | ⟨b', h6, h7⟩
            · cases h6
            · change y1 = _ at h7; rw [h7] at h5
              injection h6 with h6
              injection h6 with h6
              injection h6 with h6
              injection h5 with h5
              injection h5 with _ h5
              rw [h6]
              congr 1
              exact Int.ofNat.inj h5
      subst hxa hxb
      have hxm := List.mem_of_getElem? hx
      have hox := H7.out.2 x hxm
      have HST := Lib.hid (setw_step HV.out HO.out.isMap H7.out hxm)
      have HB1 : Hid (Below w.heap.size w w1) := Lib.hid (HB.out.grown hg1 HB.out.size (fun k hk => by cases hk; have := HRr.out; omega))
      have HB2 := Lib.hid (HB1.out.alloc HB1.out.size (.cells #[.string x.fr, .string x.tt] 46))
      have HR2 := Lib.hid (hrg1.alloc (.cells #[.string x.fr, .string x.tt] 46))
      have HO2 := Lib.hid ((HO.out.kept hg1 (by intro e; injection e with e; have := HRr.out; omega)).alloc (.cells #[.string x.fr, .string x.tt] 46))
      obtain ⟨Aq, cq, k0, k1⟩ := (H9.out i q x hq hx).cells
      have k1 := cell_keep HB2.out k1
      have HY2 := Blk.new w1 46 #[.string x.fr, .string x.tt]
      have y1' := HY2.cell 1
      have HLT := Lib.hid hlt
      have HLz : Hid (∀ z, (left z && !z.sameKey (kE x.fr x.tt)) = true → Maps.has D z = true) := Lib.hid fun z h => HL.out z (by simp only [Bool.and_eq_true] at h; exact h.1)
      obtain ⟨wa, ua, oa, ga⟩ := HO2.out.update lawS Tryd.underlying48 (by have := HN.out; have := HSZ.out; simp only [maxLen]; omega) (keyS (sz32 hox.2.1)) unitElem_mk
      have HRa := Lib.hid (HR2.out.kept ga (fun e => by have := H4.out.lt; injection e with e; omega) (fun e => by injection e with e; have := HRr.out; omega))
      have HBa := Lib.hid (HB2.out.grown ga HB2.out.size (fun k hk => by cases hk; exact Nat.le_refl _))
      have HOa := Lib.hid oa
      dsimp only [mkE, mkP] at hen ⊢
      clear hkey hlk hv hat hrg1 hlt hg1 hs1 e1 ha hb hx hq hxm hox HY2 HB1 HB HR HO oa ga k0
      generalize x.l.length = m at *
      generalize x.fr = a at *
      generalize x.tt = d at *
      by_cases h0 : 0 < m
      · have h0' : (0 : Int) < (m : Int) := by omega
        have HV1 := Lib.hid (HST.out.1 h0)
        clear HST h0
        go_wp2_with fail
        go_roundg cnt1
        case rel => exact ⟨_, n + 1, _, HRa, HOa, Lib.hid (by have := HN.out; have := HLT.out; omega), HBa, HV1, HLz⟩
        case measure => exact HLT.out
      · have h0' : ¬ (0 : Int) < (m : Int) := by omega
        have HV1 := Lib.hid (HST.out.2 h0)
        clear HST h0
        go_wp2_with fail
        go_roundg cnt1
        case rel => exact ⟨_, n, _, HR2, HO2, Lib.hid (by have := HN.out; have := HLT.out; omega), HB2, HV1, HLz⟩
        case measure => exact HLT.out
end Go.Proofs.YtihhadgkcdkemaaDoor
