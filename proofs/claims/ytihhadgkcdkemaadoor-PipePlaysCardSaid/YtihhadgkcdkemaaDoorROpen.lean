/-
  The walks of the document's New and Open. Conditions: the sizes.
-/
import Derived.Test.YtihhadgkcdkemaaDoorRPlace
import Derived.Test.YtihhadgkcdkemaaDoorRPort
import Derived.Test.YtihhadgkcdkemaaDoorRWith
import Derived.Deep.RegionLaw
namespace Go.Proofs.YtihhadgkcdkemaaDoor
open Go.RowKit Go.Maps
set_option linter.unusedVariables false
theorem isR_of {t : Nat × Nat} : isR t → 5 ≤ t.1 ∧ t.1 ≤ 6 := fun h => by rcases h with h | h <;> omega
theorem isR0 : ¬ isR (0, 0) := fun h => by rcases h with h | h <;> cases h
def RNewPost (w : World) (own : Nat → Nat × Nat) (e : Ending) (w' : World) : Prop :=
  ∃ own' rb, RSt w' own' rb [] ∧ Turn isR w w' own own' ∧ e = .returned (.pointer (some ⟨rb, 0, none⟩))
set_option maxRecDepth 100000 in
theorem rnew_walk (w : World) (own : Nat → Nat × Nat) : Calls Tryd.prog 12 #[] w (RNewPost w own) := by
  go_enter Tryd.func12, Tryd.ntmps12
  go_wp2
  go_ret
  refine ⟨fun k => if k < w.heap.size then own k else (5, 0), w.heap.size, ⟨.slice none 0 0, none, [], rfl, Blk.new w _ _, by simp, OwnX.nil _ _, fun b hb => (by cases hb), ⟨List.Pairwise.nil, fun x hx => (by cases hx)⟩, fun i x u hx => (by simp at hx)⟩, Turn.of_below ((Below.refl _ _).alloc (Nat.le_refl _) _) fun k hk => if_pos hk, rfl⟩
/-! ### the names, by rising bytes -/
def Srt (L : List ByteArray) : Prop := L.Pairwise fun a b => ltS a b = true
theorem ltS_trans {a b c : ByteArray} (h1 : ltS a b = true) (h2 : ltS b c = true) : ltS a c = true := by
  unfold ltS at *
  exact decide_eq_true (List.lt_trans (of_decide_eq_true h1) (of_decide_eq_true h2))
theorem ltS_irr (a : ByteArray) : ltS a a = false := by
  unfold ltS
  exact decide_eq_false (List.lt_irrefl _)
theorem ltS_tri {a b : ByteArray} (h1 : ltS a b = false) (h2 : a ≠ b) : ltS b a = true := by
  unfold ltS at *
  have h1 := of_decide_eq_false h1
  refine decide_eq_true ?_
  rcases Classical.em (b.data.toList < a.data.toList) with h3 | h3
  · exact h3
  · exfalso
    have : a.data.toList = b.data.toList := List.le_antisymm (List.not_lt.1 h3) (List.not_lt.1 h1)
    exact h2 (by rw [str_eq (l := b.data.toList) this])
theorem withL_mem {s x : ByteArray} : ∀ {L : List ByteArray}, x ∈ withL s L ↔ x = s ∨ x ∈ L
  | [] => by simp [withL]
  | y :: r => by
    unfold withL
    split
    · rw [List.mem_cons, withL_mem, List.mem_cons]
      constructor
      · rintro (h | h | h)
        · exact .inr (.inl h)
        · exact .inl h
        · exact .inr (.inr h)
      · rintro (h | h | h)
        · exact .inr (.inl h)
        · exact .inl h
        · exact .inr (.inr h)
    split
    · rename_i h
      rw [List.mem_cons, ← h]
      exact ⟨fun h => .inr h, fun h2 => h2.elim .inl id⟩
    · rw [List.mem_cons]
theorem withL_srt {s : ByteArray} : ∀ {L : List ByteArray}, Srt L → Srt (withL s L)
  | [], _ => List.pairwise_singleton _ _
  | y :: r, h => by
    obtain ⟨h1, h2⟩ := List.pairwise_cons.1 h
    unfold withL
    split
    · rename_i hy
      refine List.pairwise_cons.2 ⟨fun z hz => ?_, withL_srt h2⟩
      rcases withL_mem.1 hz with rfl | hz
      · exact hy
      · exact h1 z hz
    split
    · exact h
    · rename_i hy hne
      have hsy := ltS_tri (by simpa using hy) hne
      refine List.pairwise_cons.2 ⟨fun z hz => ?_, h⟩
      rcases List.mem_cons.1 hz with rfl | hz
      · exact hsy
      · exact ltS_trans hsy (h1 z hz)
theorem Srt.nodup {L : List ByteArray} (h : Srt L) : L.Nodup := h.imp fun {a b} h e => by rw [e, ltS_irr] at h; cases h
def withAll (L : List ByteArray) (N : List ByteArray) : List ByteArray := N.foldl (fun l s => withL s l) L
theorem withAll_srt : ∀ (N L : List ByteArray), Srt L → Srt (withAll L N)
  | [], L, h => h
  | x :: N, L, h => withAll_srt N _ (withL_srt h)
theorem withAll_mem {x : ByteArray} : ∀ (N L : List ByteArray), x ∈ withAll L N ↔ x ∈ L ∨ x ∈ N
  | [], L => by simp [withAll]
  | y :: N, L => by
    show x ∈ withAll (withL y L) N ↔ _
    rw [withAll_mem N, withL_mem, List.mem_cons]
    constructor
    · rintro ((h | h) | h)
      · exact .inr (.inl h)
      · exact .inl h
      · exact .inr (.inr h)
    · rintro (h | h | h)
      · exact .inl (.inr h)
      · exact .inl (.inl h)
      · exact .inr h
theorem withAll_len : ∀ (N L : List ByteArray), (withAll L N).length ≤ L.length + N.length
  | [], L => by simp [withAll]
  | y :: N, L => by
    have h1 := withAll_len N (withL y L)
    have h2 := withL_len y L
    show (withAll (withL y L) N).length ≤ _
    rw [List.length_cons]
    omega
theorem withAll_ports (S : List Pq) (f t : ByteArray) : (withAll [] (namesQ S ++ [f, t])).length = (portsQ S f t).length := by
  refine len_eq_of_mem (withAll_srt _ _ List.Pairwise.nil).nodup (portsQ_nodup S f t) fun x => ?_
  rw [withAll_mem]
  unfold portsQ
  rw [foldB_mem]
theorem namesQ_snoc (S : List Pq) (x : Pq) : namesQ (S ++ [x]) = namesQ S ++ [x.fr, x.tt] := by simp [namesQ]
theorem namesQ_len (S : List Pq) : (namesQ S).length = 2 * S.length := by
  induction S with
  | nil => rfl
  | cons x r ih =>
    have : namesQ (x :: r) = x.fr :: x.tt :: namesQ r := rfl
    rw [this]
    simp only [List.length_cons, ih]
    omega
theorem withAll_app (L N M : List ByteArray) : withAll L (N ++ M) = withAll (withAll L N) M := by simp [withAll, List.foldl_append]
/-! ### Open -/
theorem uxP : UX Tryd.prog 55 64 4 := by
  obtain ⟨i, h1, h2, h3, h4⟩ := info_parts (show (Tryd.prog.info? 64).map (fun i => (i.zero, i.size, i.bytes)) = some (some (.agg #[.string ⟨#[]⟩, .string ⟨#[]⟩, .int .i64 0, .slice none 0 0]), 4, 64) by kernel_rfl)
  exact ⟨Tryd.underlying55, ⟨i, _, h1, h2, rfl, h3, by omega⟩, by omega⟩
def ROpenPost (w : World) (own : Nat → Nat × Nat) (rb : Nat) (S : List Pq) (f t : ByteArray) (most : Int) (e : Ending) (w' : World) : Prop :=
  ∃ own', RSt w' own' rb (openQ S f t most).1 ∧ Turn isR w w' own own' ∧ e = .returned (.int .i64 (openQ S f t most).2)
theorem ROpenPost.no {w w' : World} {own : Nat → Nat × Nat} {rb : Nat} {S : List Pq} {f t : ByteArray} {most er : Int} {e : Ending} (h : RSt w own rb S) (hs : openQ S f t most = (S, er)) (hb : Below w.heap.size w w') (he : e = .returned (.int .i64 er)) : ROpenPost w own rb S f t most e w' := by
  unfold ROpenPost
  rw [hs]
  exact ⟨own, h.below hb, Turn.of_below hb fun _ _ => rfl, he⟩
/-- a new pipe's cells, appended -/
theorem ropened {w w1 w2 w3 : World} {own : Nat → Nat × Nat} {rb : Nat} {S : List Pq} {v v3 : Value} {g g3 : Option Nat} {T : List Value} {f t : ByteArray} {m : Nat}
    (h0 : T.length = S.length) (h1 : Blk w rb 57 #[v]) (h2 : own rb = (5, 0)) (h3 : OwnX 4 w g v (cellsR S T)) (h4 : ∀ b, g = some b → own b = (5, 1)) (h5 : okQ S) (h6 : ∀ (i : Nat) (x : Pq) (u : Value), S[i]? = some x → T[i]? = some u → RL w own i u x.l)
    (hb : Below w.heap.size w w2) (hg : w2.grownBy w3 g) (hX : OwnX 4 w3 g3 v3 (cellsR S T ++ [.string f, .string t, .int .i64 (m : Int), .slice none 0 0])) (ho : g3 = g ∨ g3 = some w2.heap.size)
    (hi : idxQ f t S = none) (hf : f.size ≤ 32) (ht : t.size ≤ 32) (hm1 : 1 ≤ m) (hm2 : m ≤ 64) :
    RSt (w3.setCell ⟨rb, 0, none⟩ v3) (fun k => if k < w.heap.size then own k else (5, 1)) rb (S ++ [⟨f, t, m, []⟩]) ∧ Turn isR w (w3.setCell ⟨rb, 0, none⟩ v3) own (fun k => if k < w.heap.size then own k else (5, 1)) := by
  have hlt := h1.lt
  have hs := hb.size
  have hs3 := hg.size
  have hrg : ∀ k, g = some k → rb ≠ k := fun k hk e => by have := h4 k hk; rw [← e, h2] at this; cases this
  have old : ∀ k, k < w.heap.size → k ≠ rb → g ≠ some k → (w3.setCell ⟨rb, 0, none⟩ v3).heap[k]? = w.heap[k]? := fun k hk a b => by
    rw [Below.heap_setCell w3 ⟨rb, 0, none⟩ v3 k a, hg.block k (by omega) (fun e => b e.symm), hb.block k hk]
  have hsz : (w3.setCell ⟨rb, 0, none⟩ v3).heap.size = w3.heap.size := by simp
  have B3 : Blk w3 rb 57 #[v] := (h1.keep hb).grown hg fun e => hrg rb e.symm rfl
  have hg3 : ∀ k, g3 = some k → k ≠ rb := fun k hk => by
    rcases ho with ho | ho
    · rw [ho] at hk; exact fun e => hrg k hk e.symm
    · rw [ho] at hk; cases hk; omega
  refine ⟨⟨v3, g3, T ++ [.slice none 0 0], by simp [h0], B3.set_ 0 v3, ?_, ?_, fun k hk => ?_, ⟨?_, ?_⟩, fun i x u hx hu => ?_⟩, ⟨hg.os.trans hb.os, hg.tape.trans hb.tape, hg.output.trans hb.output, by omega, fun k hk hn => old k hk (fun e => hn (by rw [e, h2]; exact .inl rfl)) (fun e => hn (by rw [h4 k e]; exact .inl rfl)), fun k hk _ => if_pos hk⟩⟩
  · show (if rb < w.heap.size then own rb else (5, 1)) = (5, 0)
    rw [if_pos hlt]; exact h2
  · rw [cellsR_snoc _ _ S T h0]
    exact hX.same (Nat.le_of_eq hsz.symm) fun k hk => Below.heap_setCell w3 ⟨rb, 0, none⟩ v3 k (hg3 k hk)
  · show (if k < w.heap.size then own k else (5, 1)) = (5, 1)
    rcases ho with ho | ho
    · rw [ho] at hk
      rw [if_pos (h3.lt hk)]; exact h4 k hk
    · rw [ho] at hk
      cases hk
      rw [if_neg (by omega)]
  · rw [List.pairwise_append]
    refine ⟨h5.1, by simp, fun a ha b hb => ?_⟩
    obtain rfl : b = _ := by simpa using hb
    exact idxQ_none hi a ha
  · intro x hx
    rcases List.mem_append.1 hx with hx | hx
    · exact h5.2 x hx
    · obtain rfl : x = _ := by simpa using hx
      exact ⟨hf, ht, hm1, hm2, by simp, by simp⟩
  · rcases Nat.lt_or_ge i S.length with hil | hil
    · rw [List.getElem?_append_left hil] at hx
      rw [List.getElem?_append_left (by omega)] at hu
      exact (h6 i x u hx hu).keep (by omega) fun k hk hok => ⟨old k hk (fun e => by rw [e, h2] at hok; rcases hok with hok | hok <;> cases hok) (fun e => by rw [h4 k e] at hok; rcases hok with hok | hok <;> cases hok), if_pos hk⟩
    · have hi1 := (List.getElem?_eq_some_iff.1 hx).1
      rw [List.length_append, List.length_singleton] at hi1
      obtain rfl : i = S.length := by omega
      rw [List.getElem?_append_right (by omega), Nat.sub_self] at hx
      rw [List.getElem?_append_right (by omega), h0, Nat.sub_self] at hu
      obtain rfl : _ = x := by simpa using hx
      obtain rfl : _ = u := by simpa using hu
      exact ⟨none, [], OwnX.nil _ _, fun b hb => (by cases hb), rfl, fun j v l hj => (by simp at hj)⟩
end Go.Proofs.YtihhadgkcdkemaaDoor
