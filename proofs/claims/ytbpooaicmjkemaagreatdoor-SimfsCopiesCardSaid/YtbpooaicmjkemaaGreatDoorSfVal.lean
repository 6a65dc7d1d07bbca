/-
  slices.Sorted(slices.Values(s)) at a slice of strings. Conditions: the sizes.
-/
import Derived.Test.YtbpooaicmjkemaaGreatDoorRun6
import Derived.Test.YtbpooaicmjkemaaGreatDoorShelf3
namespace Go.Proofs.YtbpooaicmjkemaaGreatDoor
open Go.RowKit Go.Maps Go.Sort Go.Shelf
set_option linter.unusedVariables false
def intV0 : Value → Int | .int _ x => x | _ => 0
theorem take_snoc {α : Type} {L : List α} {j : Nat} {x : α} (h : L[j]? = some x) : L.take (j + 1) = L.take j ++ [x] := by
  obtain ⟨h1, h2⟩ := List.getElem?_eq_some_iff.1 h
  rw [List.take_succ_eq_append_getElem h1, h2]
set_option maxRecDepth 100000 in
set_option maxHeartbeats 1000000 in
/-- the iterator, at whatever loop: the strings come, one by one -/
theorem vals1 (m l : Nat) (J : List Tx → World → Prop) (Bm : Nat) (A : Option Addr) (n c : Nat) (L : List Tx) (hn : n = L.length) (w W : World) (hr : RSx w A L) (hJB : ∀ pre W1, J pre W1 → Below w.heap.size w W1) (hm : W.cell? ⟨Bm, 0, none⟩ = some (.slice A n c)) (hnm : n ≤ maxLen)
    (hY : ∀ pre x W1, J pre W1 → pre.length < n → YieldAt Fence.wide m Tryz.prog l #[stV x] W1 fun e W' => e = .returned (.bool true) ∧ J (pre ++ [x]) W') (h0 : J [] W) :
    CallsIn Fence.wide (m + 1) Tryz.prog 80 #[.func (.yield l) #[] #[], .pointer (some ⟨Bm, 0, none⟩)] W fun e W' => (∃ v, e = .returned v) ∧ J L W' := by
  have HR := Lib.hid hr
  have HJ := Lib.hid hJB
  have HY := Lib.hid hY
  have H0 := Lib.hid h0
  have HN := Lib.hid hn
  unfold maxLen at hnm
  clear hr hJB hY h0 hn
  refine callsIn_of_wp Tryz.func80 rfl trivial ?_ rfl
  simp only [Tryz.ntmps80, List.size_toArray, List.length_cons, List.length_nil, Nat.reduceAdd, Nat.reduceSub, Array.replicate_succ, Array.replicate_zero, List.push_toArray, List.append_toArray, List.nil_append, List.cons_append]
  gi_wp2
  gi_loopw [7] (fun s7 wr => ∃ j : Nat, s7 = .int .i64 (j : Int) ∧ j ≤ n ∧ Hid (J (L.take j) wr)) (fun s7 wr => n - (intV0 s7).toNat)
  case atStart => exact ⟨0, rfl, Nat.zero_le _, H0⟩
  case round =>
    obtain ⟨j, rfl, hj, HJr⟩ := hrel
    by_cases hlt : j < n
    · have hlt1 : (j : Int) < (n : Int) := by omega
      obtain ⟨x, hx⟩ : ∃ x, L[j]? = some x := ⟨_, List.getElem?_eq_getElem (by rw [← HN.out]; exact hlt)⟩
      obtain ⟨b, off, rfl, hb, hc⟩ : ∃ b off, A = some ⟨b, off, none⟩ ∧ b < w.heap.size ∧ w.cell? ⟨b, off + j, none⟩ = some (stV x) := by
        rcases HR.out with h | ⟨b, off, e, hb, hc⟩
        · rw [h] at hx; simp at hx
        · exact ⟨b, off, e, hb, hc j x hx⟩
      have c0 : wr.cell? ⟨b, off + j, none⟩ = some (stV x) := ((HJ.out _ _ HJr.out).cell (p := ⟨b, off + j, none⟩) hb).trans hc
      obtain ⟨fn, tmps, assign, body, hy, hR⟩ := HY.out (L.take j) x wr HJr.out (by rw [List.length_take]; omega)
      have HX := Lib.hid hx
      unfold stV at *
      clear hc hb hx
      gi_wp2
      refine hR.mono ?_
      rintro e W3 ⟨rfl, hJ3⟩
      have HJ3 := Lib.hid hJ3
      clear hJ3
      gi_wp2
      go_roundw
      case rel => exact ⟨j + 1, by go_num, by omega, Lib.hid (by rw [take_snoc HX.out]; exact HJ3.out)⟩
      case measure => simp [intV0]; omega
    · have hlt1 : ¬ (j : Int) < (n : Int) := by omega
      obtain rfl : j = n := by omega
      have HJL : Hid (J L wr) := Lib.hid (by have := HJr.out; rw [HN.out, List.take_length] at this; exact this)
      gi_wp2
      go_end0
      exact ⟨⟨_, rfl⟩, HJL.out⟩
set_option maxRecDepth 100000 in
set_option maxHeartbeats 2000000 in
/-- what the iterator gives, appended to nothing: a row of its own, the iterator's strings in their order -/
theorem gather_vals (w : World) (Bm : Nat) (A : Option Addr) (n c : Nat) (L : List Tx) (hn : n = L.length) (hr : RSx w A L) (hBm : Bm < w.heap.size) (hm : w.cell? ⟨Bm, 0, none⟩ = some (.slice A n c)) (hnm : n ≤ maxLen) (hnb : n * 16 ≤ 140737488355328) :
    CallsIn Fence.wide 5 Tryz.prog 110 #[.slice none 0 0, .func (.func 80) #[] #[.pointer (some ⟨Bm, 0, none⟩)]] w fun e w' =>
      ∃ v, e = .returned v ∧ w'.ownsRow w.heap.size 9 1 v L.length (L.map encStr) ∧ Below w.heap.size w w' := by
  refine callsIn_of_wp_marks Tryz.func110 rfl trivial ?_ rfl
  simp only [Tryz.ntmps110, List.size_toArray, List.length_cons, List.length_nil, Nat.reduceAdd, Nat.reduceSub, Array.replicate_succ, Array.replicate_zero, List.push_toArray, List.append_toArray, List.nil_append, List.cons_append]
  have HN := Lib.hid hn
  have HR := Lib.hid hr
  have HM := Lib.hid hm
  clear hn hr hm
  gi_wp2
  refine wpIn_rangeFunc ?_
  intro fn hfn
  obtain ⟨V, hV⟩ : ∃ V, w.alloc (.cells #[.slice none 0 0] 32) = V := ⟨_, rfl⟩
  have sV : V.heap.size = w.heap.size + 1 := by rw [← hV]; simp
  have cV : V.heap[w.heap.size]? = some (.cells #[.slice none 0 0] 32 (0, 0)) := by rw [← hV]; exact World.alloc_heap_new w _
  have bV : Below w.heap.size w V := by rw [← hV]; exact (Below.refl _ w).alloc (Nat.le_refl _) _
  rw [hV]
  obtain ⟨X, hX⟩ : ∃ X, (V.alloc (.deferred (some []))).alloc (.loop (AnyZ.apRec Tryz.sortedV_ren fn (.func (.func 80) #[] #[.pointer (some ⟨Bm, 0, none⟩)]) w.heap.size V.heap.size .ready none)) = X := ⟨_, rfl⟩
  have kX : ∀ k, k < V.heap.size → X.heap[k]? = V.heap[k]? := fun k hk => by
    rw [← hX]; exact (Below.heap_alloc _ _ k (by simp; omega)).trans (Below.heap_alloc _ _ k hk)
  have bX : Below w.heap.size w X := by rw [← hX]; exact (bV.alloc bV.size _).alloc (by have := bV.size; simp; omega) _
  have s0 : AnyZ.ApAt Tryz.sortedV_ren w fn (.func (.func 80) #[] #[.pointer (some ⟨Bm, 0, none⟩)]) w.heap.size (V.heap.size + 1) V.heap.size [] X :=
    ⟨⟨_, (kX w.heap.size (by omega)).trans cV, ⟨rfl, .inl ⟨rfl, rfl⟩⟩, by simp⟩,
     by rw [← hX]; have := World.alloc_heap_new (V.alloc (.deferred (some []))) (.loop (AnyZ.apRec Tryz.sortedV_ren fn (.func (.func 80) #[] #[.pointer (some ⟨Bm, 0, none⟩)]) w.heap.size V.heap.size .ready none)); rwa [World.size_alloc] at this,
     by rw [← hX]; exact (Below.heap_alloc _ _ _ (by simp)).trans (World.alloc_heap_new V _), bX⟩
  refine ⟨V.heap.size + 1, [{ target := .collected V.heap.size, args := #[] }], X, { target := .fn (.func 80) #[.pointer (some ⟨Bm, 0, none⟩)], args := #[.func (.yield (V.heap.size + 1)) #[] #[]] }, X, 80,
    #[.func (.yield (V.heap.size + 1)) #[] #[]] ++ #[.pointer (some ⟨Bm, 0, none⟩)], X, ?_, ?_, ?_, ?_, fun _ => by omega, ?_⟩
  · rw [← hX]; exact run_enterLoop_outer _ _ _ _ _
  · simp [resolve, go_sem]
  · intro f' hf'; trivial
  · simp [invoke, go_sem, enters_of Tryz.func80 (by kernel_rfl) rfl]
  · have hw := vals1 3 (V.heap.size + 1) (AnyZ.ApAt Tryz.sortedV_ren w fn (.func (.func 80) #[] #[.pointer (some ⟨Bm, 0, none⟩)]) w.heap.size (V.heap.size + 1) V.heap.size) Bm A n c L HN.out w X HR.out (fun _ _ h => h.below) ((bX.cell (p := ⟨Bm, 0, none⟩) hBm).trans HM.out) hnm
      (fun pre x W hJ hl => by
        obtain ⟨fn', tm, asg, bd, h1, h2⟩ := AnyZ.apYield ({ ({ Tryz.sortedV with } : SlLaysZ.n8 Tryz.prog Tryz.sortedV_ren) with } : SlLaysZ.n11 Tryz.prog Tryz.sortedV_ren) Fence.wide 3 w fn hfn _ w.heap.size (V.heap.size + 1) V.heap.size (by omega) (by omega) (by omega) (Nat.le_refl _) (by omega) n hnm hnb pre x W hJ hl
        exact ⟨fn', tm, asg, bd, h1, h2.mono fun e W' h => ⟨h.1, h.2.1⟩⟩) s0
    refine hw.mono ?_
    rintro e W2 ⟨⟨v0, rfl⟩, h2⟩
    obtain ⟨v, hv, hrow, -⟩ := h2.box
    have hend := run_endLoop (P := Tryz.prog) h2.L (by simp [AnyZ.apRec])
    obtain ⟨Y, hY⟩ : ∃ Y, W2.putObj (V.heap.size + 1) (.loop { AnyZ.apRec Tryz.sortedV_ren fn (.func (.func 80) #[] #[.pointer (some ⟨Bm, 0, none⟩)]) w.heap.size V.heap.size .ready none with state := .exhausted }) = Y := ⟨_, rfl⟩
    rw [hY] at hend
    have gY : W2.grownBy Y (some (V.heap.size + 1)) := by rw [← hY]; exact grownBy_putObj_a _ _ _
    have vY : Y.heap[w.heap.size]? = some (.cells #[v] 32 (0, 0)) := by rw [← hY]; exact (World.putObj_heap_other (by omega)).trans hv
    have dY : Y.heap[V.heap.size]? = some (.deferred (some [])) := by rw [← hY]; exact (World.putObj_heap_other (by omega)).trans h2.K
    have rY := hrow.kept gY (ownsRow_ne_a hrow h2.L (fun cur e => by cases e))
    have bY : Below w.heap.size w Y := h2.below.grown gY h2.below.size (fun k e => by cases e; omega)
    obtain ⟨hc3, hf3⟩ := cell_of_box_a vY
    have HRY := Lib.hid rY
    have HBY := Lib.hid bY
    clear hY hrow hv h2 gY rY bY
    refine ⟨none, Y, hend, ?_⟩
    gi_wp2
    rw [← sV]
    refine ⟨by simp, .inl ⟨_, _, rfl, run_takeDeferred dY, ?_⟩⟩
    exact ⟨_, results_tmp rfl _ _ _, v, rfl, HRY.out.kept (grownBy_putObj_a _ _ _) (ownsRow_ne_a HRY.out dY (fun cur e => by cases e)), HBY.out.grown (grownBy_putObj_a _ _ _) HBY.out.size (fun k e => by cases e; omega)⟩
/-- a row that is owned, in the words of this seat -/
theorem rowX_of {W : World} {base n : Nat} {v : Value} {xs : List Value} (h : W.ownsRow base 9 1 v n xs) : ∃ g, OwnX 1 W g v xs ∧ ∀ k, g = some k → base ≤ k := by
  obtain ⟨hl, h⟩ := h
  rcases h with ⟨rfl, h0⟩ | ⟨g, cap, cur, rfl, hb, hg, h1, h2, h3, h4⟩
  · have : xs = [] := List.eq_nil_of_length_eq_zero (by omega)
    rw [this]
    exact ⟨none, OwnX.nil _ none, fun k e => by cases e⟩
  · refine ⟨some g, ⟨_, n, cap, rfl, by omega, h1, h2, ?_⟩, fun k e => by cases e; exact hb⟩
    have hB : Blk W g 9 cur := hg
    refine .inr ⟨g, 0, rfl, rfl, hB.lt, fun i hi => ?_, fun i hi => ⟨?_, hB.frozen _⟩⟩
    · rw [hB.cell]
      have : xs = cur.toList.take (n * 1) := h4.symm
      subst this
      rw [List.length_take] at hi
      simp only [Nat.zero_add]
      rw [List.getElem?_take_of_lt (by omega)]
      simp
    · rw [hB.cell]
      rw [Array.getElem?_eq_getElem (by omega)]
      rfl
set_option maxHeartbeats 1000000 in
theorem collect_vals (w : World) (Bm : Nat) (A : Option Addr) (n c : Nat) (L : List Tx) (hn : n = L.length) (hr : RSx w A L) (hBm : Bm < w.heap.size) (hm : w.cell? ⟨Bm, 0, none⟩ = some (.slice A n c)) (hnm : n ≤ maxLen) (hnb : n * 16 ≤ 140737488355328) :
    Calls Tryz.prog 78 #[.func (.func 80) #[] #[.pointer (some ⟨Bm, 0, none⟩)]] w fun e w' =>
      ∃ v, e = .returned v ∧ w'.ownsRow w.heap.size 9 1 v L.length (L.map encStr) ∧ Below w.heap.size w w' := by
  have K := Lib.hid (callsIn_wide.1 (gather_vals w Bm A n c L hn hr hBm hm hnm hnb))
  clear hn hr hBm hm hnm hnb
  go_enter Tryz.func78, Tryz.ntmps78
  go_wp2_with fail
  refine K.out.mono ?_
  rintro e w1 ⟨v, rfl, hrow, hb⟩
  have HR := Lib.hid hrow
  have HB := Lib.hid hb
  clear hrow hb
  go_wp2_with fail
  go_ret
  exact ⟨v, rfl, HR.out, HB.out⟩
def sortT (L : List Tx) : List Tx := L.mergeSort fun x y => decide (x ≤ y)
set_option maxHeartbeats 1000000 in
theorem sorted_walk (w : World) (Bm : Nat) (A : Option Addr) (n c : Nat) (L : List Tx) (hn : n = L.length) (hr : RSx w A L) (hBm : Bm < w.heap.size) (hm : w.cell? ⟨Bm, 0, none⟩ = some (.slice A n c)) (hnm : n ≤ maxLen) (hnb : n * 16 ≤ 140737488355328) :
    Calls Tryz.prog 25 #[.func (.func 80) #[] #[.pointer (some ⟨Bm, 0, none⟩)]] w (RowPost w (sortT L)) := by
  have K := Lib.hid (collect_vals w Bm A n c L hn hr hBm hm hnm hnb)
  have hl43 : L.length < 4611686018427387904 := by omega
  have HL43 := Lib.hid hl43
  clear hn hr hBm hm hnb hnm hl43
  go_enter Tryz.func25, Tryz.ntmps25
  go_wp2_with fail
  refine K.out.mono ?_
  rintro e w1 ⟨v, rfl, hrow, hb⟩
  have HR := Lib.hid hrow
  have HB := Lib.hid hb
  rcases hrow.2 with ⟨rfl, hz⟩ | ⟨gb, cap, cur, rfl, hbase, hgb, r1, r2, r3, r4⟩
  · have hL : L = [] := List.eq_nil_of_length_eq_zero hz
    have KS := Lib.hid (AnyM.slices_Sort_string_none Tryz.sortV none 0 w1)
    clear hrow hb
    go_wp2_with fail
    refine KS.out.mono ?_
    rintro e w2 ⟨rfl, rfl⟩
    go_wp2_with fail
    go_ret
    subst hL
    refine ⟨HB.out, none, .slice none 0 0, rfl, ?_, fun k e => by cases e⟩
    have : sortT [] = [] := by simp [sortT]
    rw [this]
    exact OwnX.nil _ none
  · have hH : Holds encStr w1 gb 0 L.toArray := holds_of_block hgb (by simpa using r4)
    have hgl : gb < w1.heap.size := (Array.getElem?_eq_some_iff.1 hgb).1
    have KS := Lib.hid (AnyM.slices_Sort_string Tryz.sortV gb 0 cap L w1 hH hgl HL43.out)
    have HO := Lib.hid (⟨hbase, hgb, r1, r2, r3⟩ : w.heap.size ≤ gb ∧ w1.heap[gb]? = some (.cells cur 9 (0, 0)) ∧ L.length ≤ cap ∧ cap ≤ maxLen ∧ cur.size = cap * 1)
    clear hrow hb hbase hgb r1 r2 r3 r4 hH hgl
    go_wp2_with fail
    refine KS.out.mono ?_
    rintro e w2 ⟨rfl, nn, os, rfl⟩
    go_wp2_with fail
    go_ret
    obtain ⟨o1, o2, o3, o4, o5⟩ := HO.out
    have hrow := @ownsRow_sorted w1 w.heap.size gb cap nn 9 os cur L (sortT L) (by simp [sortT]) o1 o2 o3 o4 o5
    obtain ⟨g, hg1, hg2⟩ := rowX_of hrow
    exact ⟨HB.out.grown (grownBy_sorted _) HB.out.size (fun j hj => by cases hj; exact o1), g, _, rfl, hg1, hg2⟩
end Go.Proofs.YtbpooaicmjkemaaGreatDoor
