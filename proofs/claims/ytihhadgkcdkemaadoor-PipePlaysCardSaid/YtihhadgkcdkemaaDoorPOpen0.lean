/-
  What Open does to the pipes, as a list and in memory. No condition but the sizes.
-/
import Derived.Test.YtihhadgkcdkemaaDoorPNew
import Derived.Test.YtihhadgkcdkemaaDoorPPort
namespace Go.Proofs.YtihhadgkcdkemaaDoor
open Go.RowKit Go.Maps
set_option linter.unusedVariables false
/-! ### how many ports there are -/
def addB (acc : List ByteArray) (x : ByteArray) : List ByteArray := if acc.any (fun y => decide (y = x)) = true then acc else acc ++ [x]
theorem any_mem {acc : List ByteArray} {x : ByteArray} : acc.any (fun y => decide (y = x)) = true ↔ x ∈ acc := by
  rw [List.any_eq_true]
  exact ⟨fun ⟨y, h1, h2⟩ => of_decide_eq_true h2 ▸ h1, fun h => ⟨x, h, decide_eq_true rfl⟩⟩
def namesQ (S : List Pq) : List ByteArray := S.flatMap fun x => [x.fr, x.tt]
def portsQ (S : List Pq) (f t : ByteArray) : List ByteArray := (namesQ S ++ [f, t]).foldl addB []
def openQ (S : List Pq) (f t : ByteArray) (most : Int) : List Pq × Int :=
  if (idxQ f t S).isSome = true ∨ f = t ∨ portB f = false ∨ portB t = false ∨ 32 < (portsQ S f t).length then (S, 50)
  else if most < 1 ∨ 64 < most then (S, 1) else (S ++ [⟨f, t, most.toNat, []⟩], 0)
theorem addB_nodup {acc : List ByteArray} (h : acc.Nodup) (x : ByteArray) : (addB acc x).Nodup := by
  unfold addB
  split
  · exact h
  · rename_i hx
    rw [List.nodup_append]
    refine ⟨h, by simp, fun a ha b hb => ?_⟩
    obtain rfl : b = x := by simpa using hb
    exact fun e => hx (any_mem.2 (e ▸ ha))
theorem addB_mem {acc : List ByteArray} {x s : ByteArray} : s ∈ addB acc x ↔ s ∈ acc ∨ s = x := by
  unfold addB
  split
  · rename_i hx
    exact ⟨.inl, fun h => h.elim id fun e => e ▸ any_mem.1 hx⟩
  · simp
theorem foldB_nodup : ∀ (L acc : List ByteArray), acc.Nodup → (L.foldl addB acc).Nodup
  | [], acc, h => h
  | x :: L, acc, h => foldB_nodup L _ (addB_nodup h x)
theorem foldB_mem {s : ByteArray} : ∀ (L acc : List ByteArray), s ∈ L.foldl addB acc ↔ s ∈ acc ∨ s ∈ L
  | [], acc => by simp
  | x :: L, acc => by
    rw [List.foldl_cons, foldB_mem L, addB_mem]
    simp only [List.mem_cons]
    constructor
    · rintro ((h | h) | h)
      · exact .inl h
      · exact .inr (.inl h)
      · exact .inr (.inr h)
    · rintro (h | h | h)
      · exact .inl (.inl h)
      · exact .inl (.inr h)
      · exact .inr h
theorem portsQ_nodup (S : List Pq) (f t : ByteArray) : (portsQ S f t).Nodup := foldB_nodup _ _ List.nodup_nil
theorem portsQ_mem {S : List Pq} {f t s : ByteArray} : s ∈ portsQ S f t ↔ s = f ∨ s = t ∨ ∃ x ∈ S, s = x.fr ∨ s = x.tt := by
  unfold portsQ namesQ
  rw [foldB_mem]
  simp only [List.not_mem_nil, false_or, List.mem_append, List.mem_flatMap, List.mem_cons, or_false]
  constructor
  · rintro (⟨x, h1, h2⟩ | h | h)
    · exact .inr (.inr ⟨x, h1, h2⟩)
    · exact .inl h
    · exact .inr (.inl h)
  · rintro (h | h | ⟨x, h1, h2⟩)
    · exact .inr (.inl h)
    · exact .inr (.inr h)
    · exact .inl ⟨x, h1, h2⟩
open Classical in
theorem len_le_of_sub {α : Type} : ∀ {l1 l2 : List α}, l1.Nodup → (∀ x ∈ l1, x ∈ l2) → l1.length ≤ l2.length
  | [], l2, _, _ => Nat.zero_le _
  | x :: r, l2, hn, hs => by
    obtain ⟨n1, n2⟩ := List.nodup_cons.1 hn
    have hx := hs x (by simp)
    have := len_le_of_sub (l1 := r) (l2 := l2.erase x) n2 fun y hy => by
      have hne : y ≠ x := fun e => n1 (by rw [← e]; exact hy)
      rw [List.mem_erase_of_ne hne]
      exact hs y (by simp [hy])
    rw [List.length_erase_of_mem hx] at this
    have h2 : 0 < l2.length := List.length_pos_of_mem hx
    rw [List.length_cons]
    omega
theorem len_eq_of_mem {α : Type} {l1 l2 : List α} (h1 : l1.Nodup) (h2 : l2.Nodup) (h : ∀ x, x ∈ l1 ↔ x ∈ l2) : l1.length = l2.length :=
  Nat.le_antisymm (len_le_of_sub h1 fun x hx => (h x).1 hx) (len_le_of_sub h2 fun x hx => (h x).2 hx)
/-! ### a set of texts -/
def kS (s : ByteArray) : Lit := .string s.data.toList
theorem kS_inj {s t : ByteArray} (h : kS s = kS t) : s = t := by
  unfold kS at h
  injection h with h
  rw [str_eq (l := t.data.toList) h]
theorem keyS {s : ByteArray} (h : s.size ≤ maxLen) : keyOf Tryd.prog 9 (.string s) = some (kS s) := Go.WideMaps.keyOf_string_mk Tryd.underlying9 h
theorem kS_key (s : ByteArray) : WideAt.IsKeyLit (kS s) := trivial
theorem set_size {w : World} {b n : Nat} {D : DataW Unit} (h : w.ownsMap Tryd.prog 9 unitElem b n D) {L : List ByteArray} (hn : L.Nodup) (hL : ∀ s ∈ L, s.size ≤ maxLen) (hh : ∀ s : ByteArray, s.size ≤ maxLen → (Maps.has D (kS s) = true ↔ s ∈ L)) : Maps.size D = L.length := by
  obtain ⟨es, rfl, hp, hk⟩ := h.entries lawS
  have hkeys : ∀ p ∈ es, ∃ s : ByteArray, s.size ≤ maxLen ∧ p.1 = kS s := by
    obtain ⟨E, clock, hb, F, hs, hD⟩ := h
    intro p hp
    injection hD with hD
    rw [hD] at hp
    obtain ⟨v, hv⟩ := fit_keys F p (mem_sorted.1 hp)
    cases v <;> simp [keyOf, Tryd.underlying9, mapKey] at hv
    exact ⟨_, hv.1, hv.2.symm⟩
  have e1 : es.length = (es.map fun p : Lit × DataW Unit => p.1).length := (List.length_map _).symm
  have e2 : L.length = (L.map kS).length := (List.length_map _).symm
  rw [Maps.size_eq, e1, e2]
  refine len_eq_of_mem ?_ ?_ fun k => ?_
  · rw [List.Nodup, List.pairwise_map]
    exact hp
  · rw [List.Nodup, List.pairwise_map]
    exact hn.imp fun h e => h (kS_inj e)
  · constructor
    · intro hk1
      obtain ⟨p, hp1, rfl⟩ := List.mem_map.1 hk1
      obtain ⟨s, hs, e⟩ := hkeys p hp1
      refine List.mem_map.2 ⟨s, (hh s hs).1 ?_, e.symm⟩
      rw [Maps.has_eq, List.any_eq_true]
      exact ⟨p, hp1, by rw [e]; exact WideAt.sameKey_self (kS_key s)⟩
    · intro hk1
      obtain ⟨s, hs, rfl⟩ := List.mem_map.1 hk1
      have := (hh s (hL s hs)).2 hs
      rw [Maps.has_eq, List.any_eq_true] at this
      obtain ⟨p, hp1, hp2⟩ := this
      exact List.mem_map.2 ⟨p, hp1, WideAt.sameKey_eq hp2⟩
/-! ### the pipes with one more -/
def openMark (w : World) (own : Nat → Nat × Nat) (i q : Nat) : Nat → Nat × Nat := fun k => if k < w.heap.size then own k else if k = q then (2, i) else (0, 0)
theorem MapV.snoc {D : DataW Unit} {S : List Pq} {qs : List Nat} (h : MapV D S qs) (hD : IsMap D) (hl : qs.length = S.length) (hS : ∀ x ∈ S, okP x) {x : Pq} (hx : idxQ x.fr x.tt S = none) (hf : x.fr.size ≤ maxLen) (ht : x.tt.size ≤ maxLen) (q : Nat) :
    MapV (D.put (kE x.fr x.tt) (.lit (.int .i64 (q : Int)))) (S ++ [x]) (qs ++ [q]) := by
  intro f t hf' ht'
  by_cases e : x.fr = f ∧ x.tt = t
  · obtain ⟨rfl, rfl⟩ := e
    refine ⟨fun hn => ?_, fun i q' hi hq => ?_⟩
    · rw [idxQ_snoc_new ⟨rfl, rfl⟩ hx] at hn; cases hn
    · rw [idxQ_snoc_new ⟨rfl, rfl⟩ hx] at hi
      cases hi
      rw [List.getElem?_append_right (by omega), hl, Nat.sub_self] at hq
      obtain rfl : q = q' := by simpa using hq
      exact ⟨Maps.has_put_same hD (kE_key hf ht) _, fun z => Maps.atKey_put_same hD (kE_key hf ht) _ z⟩
  · have hne : kE f t ≠ kE x.fr x.tt := fun h2 => by
      obtain ⟨a, b⟩ := kE_inj hf' ht' hf ht h2
      exact e ⟨a.symm, b.symm⟩
    obtain ⟨m1, m2⟩ := h f t hf' ht'
    refine ⟨fun hn => ?_, fun i q' hi hq => ?_⟩
    · rw [idxQ_snoc_old e] at hn
      rw [Maps.has_put_other hne]
      exact m1 hn
    · rw [idxQ_snoc_old e] at hi
      obtain ⟨y, hy, -, -⟩ := idxQ_some hi
      rw [List.getElem?_append_left (by rw [hl]; exact (List.getElem?_eq_some_iff.1 hy).1)] at hq
      obtain ⟨m3, m4⟩ := m2 i q' hi hq
      exact ⟨by rw [Maps.has_put_other hne]; exact m3, fun z => by rw [Maps.atKey_put_other hne]; exact m4 z⟩
theorem opened {w w' : World} {own : Nat → Nat × Nat} {pb mb n q : Nat} {D : DataW Unit} {qs : List Nat} {S : List Pq} {f t : ByteArray} {most : Nat}
    (h1 : Blk w pb 44 #[.map (some mb)]) (h2 : own pb = (1, 0)) (h3 : own mb = (1, 1)) (h4 : w.ownsMap Tryd.prog 46 ptrElem mb n D) (h5 : n = S.length) (h6 : qs.length = S.length) (h7 : okQ S) (h8 : MapV D S qs)
    (h9 : ∀ i q x, qs[i]? = some q → S[i]? = some x → QSt w own i q x)
    (hg : w.grownBy w' (some mb)) (hM : w'.ownsMap Tryd.prog 46 ptrElem mb (n + 1) (D.put (kE f t) (.lit (.int .i64 (q : Int))))) (hB : Blk w' q 53 #[.int .i64 (most : Int), .slice none 0 0]) (hq : w.heap.size ≤ q)
    (hi : idxQ f t S = none) (hf : f.size ≤ 32) (ht : t.size ≤ 32) (hm1 : 1 ≤ most) (hm2 : most ≤ 64) :
    PSt w' (openMark w own S.length q) pb (S ++ [⟨f, t, most, []⟩]) ∧ Turn isP w w' own (openMark w own S.length q) := by
  have hlt := h1.lt
  have hpm : pb ≠ mb := fun e => by rw [e, h3] at h2; cases h2
  have old : ∀ k, k < w.heap.size → k ≠ mb → w'.heap[k]? = w.heap[k]? := fun k hk hne => hg.block k hk (fun e => hne (by injection e))
  have mk : ∀ k, k < w.heap.size → openMark w own S.length q k = own k := fun k hk => if_pos hk
  have hml : ∀ {s : ByteArray}, s.size ≤ 32 → s.size ≤ maxLen := fun h => Nat.le_trans h (by simp [maxLen])
  have hV := h8.snoc h4.isMap h6 h7.2 (x := ⟨f, t, most, []⟩) hi (hml hf) (hml ht) q
  refine ⟨⟨mb, n + 1, D.put (kE f t) (.lit (.int .i64 (q : Int))), qs ++ [q], ?_, ?_, ?_, hM, ?_, ?_, ⟨?_, ?_⟩, hV, fun i q' x hq' hx => ?_⟩, ?_⟩
  rotate_left 8
  · exact ⟨hg.os, hg.tape, hg.output, hg.size, fun k hk hn => old k hk (fun e => hn (by rw [e, h3]; exact ⟨by simp, by simp⟩)), fun k hk _ => mk k hk⟩
  · unfold Blk at h1 ⊢; rw [old pb hlt hpm]; exact h1
  · rw [mk pb hlt]; exact h2
  · rw [mk mb h4.lt]; exact h3
  · rw [List.length_append, h5]; rfl
  · rw [List.length_append, List.length_append, h6]; rfl
  · rw [List.pairwise_append]
    refine ⟨h7.1, by simp, fun a ha b hb => ?_⟩
    obtain rfl : b = _ := by simpa using hb
    exact idxQ_none hi a ha
  · intro x hx
    rcases List.mem_append.1 hx with hx | hx
    · exact h7.2 x hx
    · obtain rfl : x = _ := by simpa using hx
      exact ⟨hf, ht, hm1, hm2, by simp, by simp⟩
  · rcases Nat.lt_or_ge i S.length with hil | hil
    · rw [List.getElem?_append_left (by omega)] at hq'
      rw [List.getElem?_append_left hil] at hx
      exact (h9 i q' x hq' hx).keep hg.size fun k hk ho => ⟨old k hk (fun e => by rw [e, h3] at ho; rcases ho with ho | ho | ho <;> cases ho), mk k hk⟩
    · have hi1 := (List.getElem?_eq_some_iff.1 hx).1
      rw [List.length_append, List.length_singleton] at hi1
      obtain rfl : i = S.length := by omega
      rw [List.getElem?_append_right (by omega), h6, Nat.sub_self] at hq'
      rw [List.getElem?_append_right (by omega), Nat.sub_self] at hx
      obtain rfl : q = q' := by simpa using hq'
      obtain rfl : _ = x := by simpa using hx
      refine ⟨?_, .slice none 0 0, none, [], hB, OwnX.nil _ _, ?_, rfl, ?_, List.Pairwise.nil⟩
      rotate_left 1
      · intro b hb; cases hb
      · intro j v l hj _; simp at hj
      unfold openMark
      rw [if_neg (by omega), if_pos rfl]
end Go.Proofs.YtihhadgkcdkemaaDoor
