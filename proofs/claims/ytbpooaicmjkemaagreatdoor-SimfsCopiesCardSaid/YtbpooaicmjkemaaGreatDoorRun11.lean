/-
  Several texts in one (merge.py): SfRe, SfPt. Conditions: each part names its own.
-/
import Derived.Test.YtbpooaicmjkemaaGreatDoorSfShow
/-! The document's entries as they lie in memory; the walks of place, put, drop, did. Conditions: the lengths. -/
namespace Go.Proofs.YtbpooaicmjkemaaGreatDoor
open Go.RowKit Go.Maps
set_option linter.unusedVariables false
/-! ### where a path stands -/
def plE : Es → Tx → Nat
  | [], _ => 0
  | e :: r, p => if e.1 < p then plE r p + 1 else 0
theorem plE_le : ∀ (L : Es) (p : Tx), plE L p ≤ L.length
  | [], p => Nat.le_refl _
  | e :: r, p => by
    unfold plE
    split
    · have := plE_le r p; simp; omega
    · omega
theorem plE_lt : ∀ {L : Es} {p : Tx} {i : Nat} {e : Tx × Nat}, i < plE L p → L[i]? = some e → e.1 < p
  | [], p, i, e, h, he => by cases he
  | x :: r, p, i, e, h, he => by
    unfold plE at h
    split at h
    · rename_i hx
      cases i with
      | zero => obtain rfl : x = e := by simpa using he
                exact hx
      | succ i => exact plE_lt (L := r) (p := p) (i := i) (by omega) (by simpa using he)
    · omega
theorem plE_at : ∀ {L : Es} {p : Tx} {e : Tx × Nat}, L[plE L p]? = some e → ¬ e.1 < p
  | [], p, e, he => by cases he
  | x :: r, p, e, he => by
    unfold plE at he
    split at he
    · exact plE_at (L := r) (by simpa using he)
    · rename_i hx
      obtain rfl : x = e := by simpa using he
      exact hx
theorem pl_split : ∀ {L : Es}, sortE L → (p : Tx) → L.take (plE L p) = L.filter (fun e => decide (e.1 < p)) ∧
    (match getE L p with
     | none => L.drop (plE L p) = L.filter (fun e => decide (p < e.1))
     | some n => L[plE L p]? = some (p, n) ∧ L.drop (plE L p + 1) = L.filter (fun e => decide (p < e.1)))
  | [], _, p => ⟨rfl, rfl⟩
  | x :: r, hs, p => by
    obtain ⟨h1, h2⟩ := List.pairwise_cons.1 hs
    unfold plE getE
    by_cases hx : x.1 < p
    · have hne : x.1 ≠ p := fun e => by rw [e] at hx; exact key_ir p hx
      have hnl : ¬ p < x.1 := fun h => key_ir p (key_tr h hx)
      obtain ⟨i1, i2⟩ := pl_split h2 p
      rw [if_pos hx, if_neg hne, List.take_succ_cons, List.filter_cons, if_pos (by simpa using hx), i1]
      refine ⟨rfl, ?_⟩
      rw [List.filter_cons, if_neg (by simpa using hnl)]
      cases hg : getE r p with
      | none => rw [hg] at i2; exact i2
      | some n => rw [hg] at i2; exact i2
    · rw [if_neg hx]
      have hr : ∀ y ∈ r, ¬ y.1 < p := fun y hy h => hx (key_tr (h1 y hy) h)
      have ht : (x :: r).filter (fun e => decide (e.1 < p)) = [] := List.filter_eq_nil_iff.2 fun y hy => by
        rcases List.mem_cons.1 hy with rfl | hy
        · simpa using hx
        · simpa using hr y hy
      refine ⟨by rw [ht]; rfl, ?_⟩
      by_cases hp : x.1 = p
      · rw [if_pos hp]
        refine ⟨by rw [List.getElem?_cons_zero, ← hp], ?_⟩
        show r = _
        rw [List.filter_cons, if_neg (by rw [hp]; simp)]
        exact (List.filter_eq_self.2 fun y hy => by have := h1 y hy; rw [hp] at this; simpa using this).symm
      · rw [if_neg hp]
        have hpx : p < x.1 := by
          rcases key_tot x.1 p with h | h | h
          · exact absurd h hx
          · exact absurd h hp
          · exact h
        have hn : getE r p = none := getE_none.2 fun y hy e => by have := h1 y hy; rw [e] at this; exact hx this
        rw [hn]
        show x :: r = _
        exact (List.filter_eq_self.2 fun y hy => by
          rcases List.mem_cons.1 hy with rfl | hy
          · simpa using hpx
          · simpa using key_tr hpx (h1 y hy)).symm
theorem put_parts {L : Es} (hs : sortE L) (p : Tx) (n : Nat) : putE L p n = L.take (plE L p) ++ (p, n) :: L.drop (if (getE L p).isSome = true then plE L p + 1 else plE L p) := by
  obtain ⟨h1, h2⟩ := pl_split hs p
  unfold putE
  rw [h1]
  cases hg : getE L p with
  | none => rw [hg] at h2; simp only [Option.isSome_none, Bool.false_eq_true, if_false]; rw [h2]
  | some m => rw [hg] at h2; simp only [Option.isSome_some, if_true]; rw [h2.2]
theorem drop_parts {L : Es} (hs : sortE L) {p : Tx} {m : Nat} (hg : getE L p = some m) : dropE L p = L.take (plE L p) ++ L.drop (plE L p + 1) := by
  obtain ⟨h1, h2⟩ := pl_split hs p
  rw [hg] at h2
  rw [h1, h2.2]
  refine sortE_ext (sort_dropE hs p) ?_ fun q => ?_
  · unfold sortE
    rw [List.pairwise_append]
    refine ⟨hs.filter _, hs.filter _, fun a ha b hb => key_tr (b := p) ?_ ?_⟩
    · simpa using (List.mem_filter.1 ha).2
    · simpa using (List.mem_filter.1 hb).2
  · have hsr : sortE (L.filter (fun e => decide (e.1 < p)) ++ L.filter (fun e => decide (p < e.1))) := by
      unfold sortE
      rw [List.pairwise_append]
      refine ⟨hs.filter _, hs.filter _, fun a ha b hb => key_tr (b := p) ?_ ?_⟩
      · simpa using (List.mem_filter.1 ha).2
      · simpa using (List.mem_filter.1 hb).2
    apply Option.ext
    intro k
    rw [getE_mem (sort_dropE hs p), getE_mem hsr, mem_dropE, List.mem_append, List.mem_filter, List.mem_filter]
    constructor
    · rintro ⟨a, b⟩
      rcases key_tot q p with h | h | h
      · exact .inl ⟨a, by simpa using h⟩
      · exact absurd h b
      · exact .inr ⟨a, by simpa using h⟩
    · rintro (⟨a, b⟩ | ⟨a, b⟩)
      · exact ⟨a, fun e => key_ir p (by have e : q = p := e; subst e; simpa using b)⟩
      · exact ⟨a, fun e => key_ir p (by have e : q = p := e; subst e; simpa using b)⟩
theorem drop_none {L : Es} {p : Tx} (hg : getE L p = none) : dropE L p = L := List.filter_eq_self.2 fun e he => by simpa using getE_none.1 hg e he
def atE (L : Es) (p : Tx) : Bool := match L[plE L p]? with
  | none => false
  | some e => decide (e.1 = p)
theorem atE_is {L : Es} (hs : sortE L) (p : Tx) : atE L p = (getE L p).isSome := by
  have h := (pl_split hs p).2
  unfold atE
  cases hg : getE L p with
  | some m =>
    rw [hg] at h
    rw [h.1]
    simp
  | none =>
    cases hx : L[plE L p]? with
    | none => rfl
    | some e => exact decide_eq_false fun h2 => getE_none.1 hg e (List.mem_of_getElem? hx) h2
/-! ### in memory -/
def enC (e : Tx × Nat) : List Value := [.string (bs e.1), .int .i64 (e.2 : Int)]
theorem en_all (L : Es) : ∀ r ∈ L.map enC, r.length = 2 := by
  intro r hr
  obtain ⟨c, -, rfl⟩ := List.mem_map.1 hr
  rfl
def REn (w : World) (A : Option Addr) (L : Es) : Prop := L = [] ∨ ∃ b off, A = some ⟨b, off, none⟩ ∧ b < w.heap.size ∧ ∀ i e, L[i]? = some e → w.cell? ⟨b, off + i * 2, none⟩ = some (.string (bs e.1)) ∧ w.cell? ⟨b, off + i * 2 + 1, none⟩ = some (.int .i64 (e.2 : Int))
theorem REn.below {w w' : World} {A : Option Addr} {L : Es} (h : REn w A L) (hb : Below w.heap.size w w') : REn w' A L := by
  rcases h with h | ⟨b, off, rfl, hlt, hc⟩
  · exact .inl h
  · exact .inr ⟨b, off, rfl, Nat.lt_of_lt_of_le hlt hb.size, fun i e he => ⟨(hb.cell (p := ⟨b, off + i * 2, none⟩) hlt).trans (hc i e he).1, (hb.cell (p := ⟨b, off + i * 2 + 1, none⟩) hlt).trans (hc i e he).2⟩⟩
theorem run_geqS (w : World) (a b : Tx) : (binOp .geq 9 (.string (bs a)) (.string (bs b))).run Tryz.prog w = .ok (.bool (!decide (a < b))) w := by
  have h : binOp .geq 9 (.string (bs a)) (.string (bs b)) = Op.stringOp .geq (bs a) (bs b) := rfl
  rw [h]
  unfold Op.stringOp
  simp only [bs_lt]
  rfl
set_option maxRecDepth 100000 in
set_option maxHeartbeats 2000000 in
theorem place_walk (w : World) (A : Option Addr) (n c : Nat) (L : Es) (p : Tx) (hr : REn w A L) (hn : n = L.length) (hm : n ≤ 1000000) :
    Calls Tryz.prog 95 #[.slice A n c, .string (bs p)] w fun e w' => e = .returned (.tuple #[.int .i64 (plE L p : Int), .bool (atE L p)]) ∧ ∃ q, w' = w.drewN q := by
  have HR := Lib.hid hr
  have HN := Lib.hid hn
  have hpl := plE_le L p
  rw [← hn] at hpl
  obtain ⟨pl, hpp⟩ : ∃ pl, plE L p = pl := ⟨_, rfl⟩
  have HPL := Lib.hid hpp
  rw [hpp] at hpl
  rw [hpp]
  obtain ⟨F, hF⟩ : ∃ F, atE L p = F := ⟨_, rfl⟩
  have HF := Lib.hid hF
  rw [hF]
  clear hr hn hpp hF
  go_enter Tryz.func95, Tryz.ntmps95
  go_wp2_with fail
  go_loopg [6] pl (fun k s6 wr => ∃ j : Nat, s6 = .int .i64 (j : Int) ∧ j + k = pl ∧ wr = w)
  case atStart => exact ⟨0, rfl, by omega, rfl⟩
  case round =>
    obtain ⟨j, rfl, hj, rfl⟩ := hrel
    by_cases hlt : j < pl
    · have hlt1 : (j : Int) < (n : Int) := by omega
      obtain ⟨x, hx⟩ : ∃ x, L[j]? = some x := ⟨_, List.getElem?_eq_getElem (by rw [← HN.out]; omega)⟩
      have hxl := plE_lt (by rw [HPL.out]; exact hlt) hx
      obtain ⟨b, off, rfl, -, hc⟩ : ∃ b off, A = some ⟨b, off, none⟩ ∧ b < wr.heap.size ∧ ∀ i e, L[i]? = some e → wr.cell? ⟨b, off + i * 2, none⟩ = some (.string (bs e.1)) ∧ wr.cell? ⟨b, off + i * 2 + 1, none⟩ = some (.int .i64 (e.2 : Int)) := by
        rcases HR.out with h | h
        · rw [h] at hx; cases hx
        · exact h
      have c0 := (hc j x hx).1
      have hbl := run_geqS wr x.1 p
      rw [decide_eq_true hxl] at hbl
      have HII := Lib.hid hj
      clear hc hx hj hxl
      go_wp2_with fail
      go_roundg (gk - 1)
      case rel => exact ⟨j + 1, by go_num, by have := HII.out; omega, rfl⟩
      case measure => have := HII.out; omega
    · obtain rfl : j = pl := by omega
      by_cases hjn : j < n
      · have hlt1 : (j : Int) < (n : Int) := by omega
        obtain ⟨x, hx⟩ : ∃ x, L[j]? = some x := ⟨_, List.getElem?_eq_getElem (by rw [← HN.out]; omega)⟩
        have hxl : ¬ x.1 < p := plE_at (L := L) (by rw [HPL.out]; exact hx)
        obtain ⟨b, off, rfl, -, hc⟩ : ∃ b off, A = some ⟨b, off, none⟩ ∧ b < wr.heap.size ∧ ∀ i e, L[i]? = some e → wr.cell? ⟨b, off + i * 2, none⟩ = some (.string (bs e.1)) ∧ wr.cell? ⟨b, off + i * 2 + 1, none⟩ = some (.int .i64 (e.2 : Int)) := by
          rcases HR.out with h | h
          · rw [h] at hx; cases hx
          · exact h
        have c0 := (hc j x hx).1
        have hbl := run_geqS wr x.1 p
        rw [decide_eq_false hxl] at hbl
        have heq : ((bs x.1).toList == (bs p).toList) = F := by
          rw [bs_eqB, ← HF.out]
          unfold atE
          rw [HPL.out, hx]
        clear hc hx hxl hj
        go_upto_region 5 with fail
        go_quiet (fail)
        go_wp2_with fail
        go_ret2
        exact ⟨by first | rfl | rw [heq], _, rfl⟩
      · have hlt1 : ¬ (j : Int) < (n : Int) := by omega
        have hF0 : F = false := by
          rw [← HF.out]
          unfold atE
          rw [HPL.out, List.getElem?_eq_none (by rw [← HN.out]; omega)]
        obtain rfl : j = n := by omega
        subst hF0
        go_wp2_with fail
        go_ret2
        exact ⟨rfl, 0, rfl⟩
end Go.Proofs.YtbpooaicmjkemaaGreatDoor

/-! The walks of the document's put, drop, did. Conditions: the lengths. -/
namespace Go.Proofs.YtbpooaicmjkemaaGreatDoor
open Go.RowKit Go.Maps
set_option linter.unusedVariables false
theorem uxE : UX Tryz.prog 111 144 2 := by
  obtain ⟨i, h1, h2, h3, h4⟩ := info_parts (show (Tryz.prog.info? 144).map (fun i => (i.zero, i.size, i.bytes)) = some (some (.agg #[.string ⟨#[]⟩, .int .i64 0]), 2, 24) by kernel_rfl)
  exact ⟨Tryz.underlying111, ⟨i, _, h1, h2, rfl, h3, by omega⟩, by omega⟩
theorem REn.drewN {w : World} {A : Option Addr} {L : Es} (h : REn w A L) (n : Nat) : REn (w.drewN n) A L := h
theorem REn.take {w : World} {A : Option Addr} {L : Es} (h : REn w A L) (k : Nat) : REn w A (L.take k) := by
  rcases h with rfl | ⟨b, off, rfl, hlt, hc⟩
  · exact .inl (by simp)
  · refine .inr ⟨b, off, rfl, hlt, fun i e he => hc i e ?_⟩
    by_cases hi : i < k
    · rwa [List.getElem?_take_of_lt hi] at he
    · rw [List.getElem?_eq_none (by rw [List.length_take]; omega)] at he
      cases he
theorem REn.drop {w : World} {b off : Nat} {L : Es} (h : REn w (some ⟨b, off, none⟩) L) (k : Nat) : REn w (some ⟨b, off + k * 2, none⟩) (L.drop k) := by
  rcases h with rfl | ⟨b', off', e, hlt, hc⟩
  · exact .inl (by simp)
  · injection e with e
    injection e with e1 e2
    subst e1 e2
    refine .inr ⟨b, off + k * 2, rfl, hlt, fun i e he => ?_⟩
    rw [List.getElem?_drop] at he
    have := hc (k + i) e he
    rw [Nat.add_mul, ← Nat.add_assoc] at this
    exact this
theorem REn.news {w : World} {A : Option Addr} {L : Es} (h : REn w A L) : ∀ ad, A = some ad → ∀ j u, ((L.map enC).flatten)[j]? = some u → w.cell? (ad.add j) = some u := by
  intro ad e j u hu
  have hlen : ((L.map enC).flatten).length = L.length * 2 := by rw [flat_len (en_all L), List.length_map]
  have hj := (List.getElem?_eq_some_iff.1 hu).1
  rw [hlen] at hj
  obtain ⟨x, hx⟩ : ∃ x, L[j / 2]? = some x := ⟨_, List.getElem?_eq_getElem (by omega)⟩
  have hf := flat_at (R := L.map enC) (j / 2) (j % 2) (enC x) (en_all L) (by omega) (by rw [List.getElem?_map, hx]; rfl)
  rw [show j / 2 * 2 + j % 2 = j by omega] at hf
  rw [hf] at hu
  rcases h with rfl | ⟨b, off, rfl, hlt, hc⟩
  · cases hx
  · cases e
    rw [Addr.add_lit]
    obtain ⟨c0, c1⟩ := hc _ x hx
    rcases Nat.mod_two_eq_zero_or_one j with h2 | h2
    · rw [h2] at hu
      obtain rfl : Value.string (bs x.1) = u := by simpa [enC] using hu
      rw [← c0]
      congr 2
      omega
    · rw [h2] at hu
      obtain rfl : Value.int .i64 (x.2 : Int) = u := by simpa [enC] using hu
      rw [← c1]
      congr 2
      omega
theorem en_one (L : Es) : ∀ u ∈ (L.map enC).flatten, u.oneCell' = true := by
  intro u hu
  obtain ⟨r, hr, hu⟩ := List.mem_flatten.1 hu
  obtain ⟨e, -, rfl⟩ := List.mem_map.1 hr
  unfold enC at hu
  simp only [List.mem_cons, List.not_mem_nil, or_false] at hu
  rcases hu with rfl | rfl <;> rfl
theorem en_len (L : Es) : ((L.map enC).flatten).length = L.length * 2 := by rw [flat_len (en_all L), List.length_map]
/-- entries that a call hands back: new ones, or those that came in -/
def EnPost (w : World) (A : Option Addr) (L : Es) (e : Ending) (w' : World) : Prop :=
  Below w.heap.size w w' ∧ ∃ A' n c, e = .returned (.slice A' n c) ∧ n = L.length ∧ n ≤ c ∧ c ≤ maxLen ∧ REn w' A' L ∧ (∀ b off, A' = some ⟨b, off, none⟩ → 0 < n → w.heap.size ≤ b ∨ ∃ off0, A = some ⟨b, off0, none⟩)
theorem OwnX.en {w w' : World} {A : Option Addr} {g : Option Nat} {v : Value} {L : Es} (hb : Below w.heap.size w w') (h : OwnX 2 w' g v (L.map enC).flatten) (hg : ∀ k, g = some k → w.heap.size ≤ k) : EnPost w A L (.returned v) w' := by
  obtain ⟨A', n, c, rfl, h1, h2, h3⟩ := h.sl
  rw [en_len] at h1
  have hn : n = L.length := by omega
  refine ⟨hb, A', n, c, rfl, hn, h2, h3, ?_, fun b off e hn0 => ?_⟩
  · rcases Nat.eq_zero_or_pos n with hz | hz
    · exact .inl (List.eq_nil_of_length_eq_zero (by omega))
    · obtain ⟨g', off, -, rfl, hl, hc, -⟩ := h.at_ (by omega)
      refine .inr ⟨g', off, rfl, hl, fun i e he => ?_⟩
      have hi := (List.getElem?_eq_some_iff.1 he).1
      have f0 := flat_at (R := L.map enC) i 0 (enC e) (en_all L) (by omega) (by rw [List.getElem?_map, he]; rfl)
      have f1 := flat_at (R := L.map enC) i 1 (enC e) (en_all L) (by omega) (by rw [List.getElem?_map, he]; rfl)
      have c0 := hc (i * 2 + 0) (by rw [en_len]; omega)
      have c1 := hc (i * 2 + 1) (by rw [en_len]; omega)
      rw [f0] at c0
      rw [f1] at c1
      exact ⟨c0, c1⟩
  · obtain ⟨g', off', eg, e2, -⟩ := h.at_ (by omega)
    rw [e] at e2
    cases e2
    exact .inl (hg _ eg)
theorem EnPost.wide {w w' : World} {A : Option Addr} {L : Es} {e : Ending} (h : EnPost w none L e w') : EnPost w A L e w' := by
  obtain ⟨h1, A', n, c, h2, h3, h4, h5, h6, h7⟩ := h
  refine ⟨h1, A', n, c, h2, h3, h4, h5, h6, fun b off e hn => ?_⟩
  rcases h7 b off e hn with h | ⟨_, h⟩
  · exact .inl h
  · cases h
theorem EnPost.from {w w1 w' : World} {L : Es} {e : Ending} (hb : Below w.heap.size w w1) (h : EnPost w1 none L e w') : EnPost w none L e w' := by
  obtain ⟨h1, A', n, c, h2, h3, h4, h5, h6, h7⟩ := h
  refine ⟨hb.trans (h1.mono hb.size), A', n, c, h2, h3, h4, h5, h6, fun b off e hn => ?_⟩
  rcases h7 b off e hn with h | ⟨_, h⟩
  · exact .inl (Nat.le_trans hb.size h)
  · cases h
theorem sliceE_low (A : Option Addr) (n c k : Nat) (h1 : k ≤ n) (W : World) : (Instr.slice 111 (.slice A n c) (some (.int .i64 (k : Int))) none none).run Tryz.prog W = .ok (.slice (if c = k then A else A.map fun a => a.add (k * 2)) (n - k) (c - k)) W := by
  have ht' : Tryz.prog.underlying 111 = some (.slice (Tryz.prog.elem 111)) := by simp [Program.elem, Tryz.underlying111]
  have he : Tryz.prog.elem 111 = 144 := by simp [Program.elem, Tryz.underlying111]
  rw [run_slice_l W 111 _ _ _ ht' .i64 _ (by omega) (by omega), he, Tryz.sizeOf144]
  simp only [Result.andThen, sliced, Int.toNat_natCast]
theorem REn.dropA {w : World} {A : Option Addr} {L : Es} (h : REn w A L) (c k : Nat) (hc : L.length ≤ c) : REn w (if c = k then A else A.map fun a => a.add (k * 2)) (L.drop k) := by
  by_cases h1 : L.length ≤ k
  · exact .inl (List.drop_of_length_le h1)
  · rw [if_neg (by omega)]
    rcases h with rfl | ⟨b, off, rfl, h2, h3⟩
    · exact .inl (by simp)
    · simp only [Option.map_some, Addr.add_lit]
      exact REn.drop (.inr ⟨b, off, rfl, h2, h3⟩) k
theorem REn.none_ {w : World} {A : Option Addr} {L : Es} (h : REn w A L) (e : A = none) : L = [] := by
  rcases h with h | ⟨b, off, h, -⟩
  · exact h
  · rw [e] at h; cases h
theorem plE_in {L : Es} {p : Tx} (h : atE L p = true) : plE L p < L.length := by
  rcases Nat.lt_or_ge (plE L p) L.length with h1 | h1
  · exact h1
  · unfold atE at h
    rw [List.getElem?_eq_none h1] at h
    cases h
theorem en_app (L R : Es) (p : Tx) (m : Nat) : ((L.map enC).flatten ++ [.string (bs p), .int .i64 (m : Int)]) ++ (R.map enC).flatten = ((L ++ (p, m) :: R).map enC).flatten := by
  simp [enC, List.map_append, List.flatten_append]
set_option maxRecDepth 100000 in
set_option maxHeartbeats 2000000 in
theorem put_walk (w : World) (A : Option Addr) (n c : Nat) (L : Es) (p : Tx) (m : Nat) (hs : sortE L) (hr : REn w A L) (hn : n = L.length) (hc : n ≤ c) (hcm : c ≤ maxLen) (hm : n ≤ 1000000) :
    Calls Tryz.prog 141 #[.slice A n c, .agg #[.string (bs p), .int .i64 (m : Int)]] w (EnPost w none (putE L p m)) := by
  have HB0 := Lib.hid ((Below.refl w.heap.size w).alloc (Nat.le_refl _) (.cells #[.string (bs p), .int .i64 (m : Int)] 144))
  have HX0 := Lib.hid (Blk.new w 144 #[.string (bs p), .int .i64 (m : Int)])
  have KP := Lib.hid (place_walk (w.alloc (.cells #[.string (bs p), .int .i64 (m : Int)] 144)) A n c L p (hr.below HB0.out) hn hm)
  obtain ⟨k, hk⟩ : ∃ k, plE L p = k := ⟨_, rfl⟩
  obtain ⟨F, hF⟩ : ∃ F, atE L p = F := ⟨_, rfl⟩
  obtain ⟨k2, hk2⟩ : ∃ k2, k2 = (if F = true then k + 1 else k) := ⟨_, rfl⟩
  have hkn : k ≤ n := by rw [← hk, hn]; exact plE_le L p
  have hk2n : k2 ≤ n := by
    rw [hk2]
    split
    · rename_i h
      rw [hn, ← hk]
      exact plE_in (hF.trans h)
    · exact hkn
  have HPP : Hid (putE L p m = L.take k ++ (p, m) :: L.drop k2) := Lib.hid (by rw [put_parts hs, ← atE_is hs, hF, hk, hk2])
  have HT : Hid (REn w A (L.take k)) := Lib.hid (hr.take k)
  have HTL : Hid ((L.take k).length = k) := Lib.hid (by rw [List.length_take, ← hn]; omega)
  have HDL : Hid ((L.drop k2).length = n - k2) := Lib.hid (by rw [List.length_drop, ← hn])
  have HA0 : Hid (A = none → k = 0) := Lib.hid fun e => by
    have h1 := hr.none_ e
    rw [h1] at hn
    simp at hn
    omega
  have HDA := Lib.hid (hr.dropA c k2 (by omega))
  have hs1 := fun W => sliceE_low A n c k2 hk2n W
  rw [hk, hF] at KP
  obtain ⟨Ad, hAd⟩ : ∃ Ad, Ad = (if c = k2 then A else A.map fun a => a.add (k2 * 2)) := ⟨_, rfl⟩
  obtain ⟨nd, hnd⟩ : ∃ nd, nd = n - k2 := ⟨_, rfl⟩
  obtain ⟨cd, hcd⟩ : ∃ cd, cd = c - k2 := ⟨_, rfl⟩
  rw [← hAd] at HDA hs1
  rw [← hnd] at hs1 HDL
  rw [← hcd] at hs1
  have HD1 : Hid (Ad = none → nd = 0) := Lib.hid fun e => by
    have h1 := HDA.out.none_ e
    have h2 := HDL.out
    rw [h1] at h2
    exact h2.symm
  obtain ⟨LD, hLD⟩ : ∃ LD, LD = L.drop k2 := ⟨_, rfl⟩
  rw [← hLD] at HPP HDA HDL
  clear hLD
  have hkc : (k : Int) ≤ (c : Int) := by omega
  have HK2 := Lib.hid hk2
  have hnd2 : nd ≤ 1000000 := by omega
  clear hs hr hn hk hF hAd hnd hcd hk2
  unfold maxLen at hcm
  go_enter Tryz.func141, Tryz.ntmps141
  go_upto_region 1 with fail
  generalize hw1 : w.alloc (.cells #[.string (bs p), .int .i64 (m : Int)] 144) = w1 at *
  have x0 : w1.cell? ⟨w.heap.size, 0, none⟩ = some (.string (bs p)) := HX0.out.cell 0
  clear hw1
  go_wp2_with fail
  refine KP.out.mono ?_
  rintro e w2 ⟨rfl, q, rfl⟩
  have HB2 : Hid (Below w.heap.size w (w1.drewN q)) := Lib.hid (by have h := HB0.out; exact ⟨h.os, h.tape, h.output, h.size, h.block⟩)
  have y0 : (w1.drewN q).cell? ⟨w.heap.size, 0, none⟩ = some (.string (bs p)) := x0
  have y1 : (w1.drewN q).cell? ⟨w.heap.size, 1, none⟩ = some (.int .i64 (m : Int)) := HX0.out.cell 1
  have HY2 : Hid (Blk (w1.drewN q) w.heap.size 144 #[.string (bs p), .int .i64 (m : Int)]) := Lib.hid HX0.out
  generalize w1.drewN q = w2 at *
  clear x0 KP HB0 HX0
  go_upto_region 3 with fail
  have HLK : Hid (((L.take k).map enC).flatten.length ≤ 2000000) := Lib.hid (by rw [en_len, HTL.out]; omega)
  have hk2c : (k2 : Int) ≤ (n : Int) := by omega
  have hways : (F = true ∧ k2 = k + 1) ∨ (F = false ∧ k = k2) := by
    have := HK2.out
    cases F
    · exact .inr ⟨rfl, this.symm⟩
    · exact .inl ⟨rfl, this⟩
  rcases hways with ⟨rfl, rfl⟩ | ⟨rfl, rfl⟩
  all_goals
    push_cast at hs1 hk2c
    clear HK2
    go_wp2_with (first
      | (at_builtin; refine wpList_appX _ uxE (.tmp 15) (.tmp 18) rfl rfl rfl (OwnX.nil _ none) A k c rfl ((L.take k).map enC).flatten (by rw [en_len, HTL.out]) HA0.out (HT.out.below HB2.out).news (en_one _) (by simp; have := HLK.out; simp at this; omega) ?_; intro v3 g3 w3 hX3 hG3 ho3; rw [List.nil_append] at hX3; have HX3 := Lib.hid hX3; have HB3 := Lib.hid (belowX HB2.out hG3 (fun k h => by cases h) HB2.out.size); have z0 : w3.cell? ⟨w.heap.size, 0, none⟩ = some (.string (bs p)) := (HY2.out.grown hG3 (fun e => by cases e)).cell 0; have z1 : w3.cell? ⟨w.heap.size, 1, none⟩ = some (.int .i64 (m : Int)) := (HY2.out.grown hG3 (fun e => by cases e)).cell 1; have HO3 : Hid (∀ k, g3 = some k → w.heap.size ≤ k) := Lib.hid (fun k hk => by rcases ho3 with h | h <;> (rw [h] at hk; cases hk); exact HB2.out.size); obtain ⟨A3, n3, c3, rfl, -⟩ := hX3.sl; clear hX3 hG3 ho3)
      | (at_builtin; (refine wpList_appX _ uxE (.tmp 20) (.tmp 22) rfl rfl rfl (HX3.out.same (by simp) (fun k hk => Below.heap_alloc _ _ k (HX3.out.lt hk))) (some ⟨w3.heap.size, 0, none⟩) 1 1 rfl [.string (bs p), .int .i64 (m : Int)] rfl (fun h => by cases h) (news_of w3 144 [.string (bs p), .int .i64 (m : Int)]) (en_one [(p, m)]) (by have := HLK.out; omega) ?_; intro v4 g4 w4 hX4 hG4 ho4; have HX4 := Lib.hid hX4; have HB4 := Lib.hid (belowX (HB3.out.alloc HB3.out.size (.cells #[.string (bs p), .int .i64 (m : Int)] 144)) hG4 HO3.out (by simp; exact Nat.le_succ_of_le HB3.out.size)); have HO4 : Hid (∀ k, g4 = some k → w.heap.size ≤ k) := Lib.hid (fun k hk => by rcases ho4 with h | h; (rw [h] at hk; exact HO3.out k hk); (rw [h] at hk; cases hk; simp; exact Nat.le_succ_of_le HB3.out.size)); obtain ⟨A4, n4, c4, rfl, -⟩ := hX4.sl; clear hX4 hG4 ho4))
      | (at_builtin; (refine wpList_appX _ uxE (.tmp 27) (.tmp 30) rfl rfl rfl HX4.out Ad nd cd rfl (LD.map enC).flatten (by rw [en_len, HDL.out]) HD1.out (HDA.out.below HB4.out).news (en_one _) (by have := HLK.out; rw [List.length_append]; simp only [List.length_cons, List.length_nil]; omega) ?_; intro v5 g5 w5 hX5 hG5 ho5; rw [en_app] at hX5; have HX5 := Lib.hid hX5; have HB5 := Lib.hid (belowX HB4.out hG5 HO4.out HB4.out.size); have HO5 : Hid (∀ k, g5 = some k → w.heap.size ≤ k) := Lib.hid (fun k hk => by rcases ho5 with h | h; (rw [h] at hk; exact HO4.out k hk); (rw [h] at hk; cases hk; exact HB4.out.size)); obtain ⟨A5, n5, c5, rfl, -⟩ := hX5.sl; clear hX5 hG5 ho5)))
    go_ret
    rw [HPP.out]
    exact HX5.out.en HB5.out HO5.out
set_option maxRecDepth 100000 in
set_option maxHeartbeats 2000000 in
theorem drop_walk (w : World) (A : Option Addr) (n c : Nat) (L : Es) (p : Tx) (hs : sortE L) (hr : REn w A L) (hn : n = L.length) (hc : n ≤ c) (hcm : c ≤ maxLen) (hm : n ≤ 1000000) :
    Calls Tryz.prog 142 #[.slice A n c, .string (bs p)] w (EnPost w A (dropE L p)) := by
  have KP := Lib.hid (place_walk w A n c L p hr hn hm)
  obtain ⟨k, hk⟩ : ∃ k, plE L p = k := ⟨_, rfl⟩
  obtain ⟨F, hF⟩ : ∃ F, atE L p = F := ⟨_, rfl⟩
  rw [hk, hF] at KP
  have hkn : k ≤ n := by rw [← hk, hn]; exact plE_le L p
  cases F with
  | false =>
    have HPP : Hid (dropE L p = L) := Lib.hid (drop_none (by
      rw [atE_is hs] at hF
      cases h : getE L p with
      | none => rfl
      | some m => rw [h] at hF; cases hF))
    have HR := Lib.hid hr
    have HN := Lib.hid hn
    have HM := Lib.hid hcm
    clear hs hr hn hk hF hcm
    go_enter Tryz.func142, Tryz.ntmps142
    go_wp2_with fail
    refine KP.out.mono ?_
    rintro e w2 ⟨rfl, q, rfl⟩
    clear KP
    go_wp2_with fail
    go_ret
    rw [HPP.out]
    exact ⟨⟨rfl, rfl, rfl, Nat.le_refl _, fun _ _ => rfl⟩, A, n, c, rfl, HN.out, hc, HM.out, HR.out, fun b off e _ => .inr ⟨off, e⟩⟩
  | true =>
    have hk2n : k + 1 ≤ n := by rw [hn, ← hk]; exact plE_in hF
    have HPP : Hid (dropE L p = L.take k ++ L.drop (k + 1)) := Lib.hid (by
      rw [atE_is hs] at hF
      cases h : getE L p with
      | none => rw [h] at hF; cases hF
      | some m => rw [drop_parts hs h, hk])
    have HT : Hid (REn w A (L.take k)) := Lib.hid (hr.take k)
    have HTL : Hid ((L.take k).length = k) := Lib.hid (by rw [List.length_take, ← hn]; omega)
    have HDL : Hid ((L.drop (k + 1)).length = n - (k + 1)) := Lib.hid (by rw [List.length_drop, ← hn])
    have HA0 : Hid (A = none → k = 0) := Lib.hid fun e => by
      have h1 := hr.none_ e
      rw [h1] at hn
      simp at hn
      omega
    have HDA := Lib.hid (hr.dropA c (k + 1) (by omega))
    have hs1 := fun W => sliceE_low A n c (k + 1) hk2n W
    obtain ⟨Ad, hAd⟩ : ∃ Ad, Ad = (if c = k + 1 then A else A.map fun a => a.add ((k + 1) * 2)) := ⟨_, rfl⟩
    obtain ⟨nd, hnd⟩ : ∃ nd, nd = n - (k + 1) := ⟨_, rfl⟩
    obtain ⟨cd, hcd⟩ : ∃ cd, cd = c - (k + 1) := ⟨_, rfl⟩
    obtain ⟨LD, hLD⟩ : ∃ LD, LD = L.drop (k + 1) := ⟨_, rfl⟩
    rw [← hAd] at HDA hs1
    rw [← hnd] at hs1 HDL
    rw [← hcd] at hs1
    rw [← hLD] at HPP HDA HDL
    have HD1 : Hid (Ad = none → nd = 0) := Lib.hid fun e => by
      have h1 := HDA.out.none_ e
      have h2 := HDL.out
      rw [h1] at h2
      exact h2.symm
    have hkc : (k : Int) ≤ (c : Int) := by omega
    have hk2c : (k : Int) + 1 ≤ (n : Int) := by omega
    have hnd2 : nd ≤ 1000000 := by omega
    have HLK : Hid (((L.take k).map enC).flatten.length ≤ 2000000) := Lib.hid (by rw [en_len, HTL.out]; omega)
    clear hs hr hn hk hF hAd hnd hcd hLD
    unfold maxLen at hcm
    push_cast at hs1
    go_enter Tryz.func142, Tryz.ntmps142
    go_wp2_with fail
    refine KP.out.mono ?_
    rintro e w2 ⟨rfl, q, rfl⟩
    have HB2 : Hid (Below w.heap.size w (w.drewN q)) := Lib.hid ⟨rfl, rfl, rfl, Nat.le_refl _, fun _ _ => rfl⟩
    clear KP
    generalize w.drewN q = w2 at *
    go_wp2_with (first
      | (at_builtin; (refine wpList_appX _ uxE (.tmp 17) (.tmp 20) rfl rfl rfl (OwnX.nil _ none) A k c rfl ((L.take k).map enC).flatten (by rw [en_len, HTL.out]) HA0.out (HT.out.below HB2.out).news (en_one _) (by simp; have := HLK.out; simp at this; omega) ?_; intro v3 g3 w3 hX3 hG3 ho3; rw [List.nil_append] at hX3; have HX3 := Lib.hid hX3; have HB3 := Lib.hid (belowX HB2.out hG3 (fun k h => by cases h) HB2.out.size); have HO3 : Hid (∀ k, g3 = some k → w.heap.size ≤ k) := Lib.hid (fun k hk => by rcases ho3 with h | h <;> (rw [h] at hk; cases hk); exact HB2.out.size); obtain ⟨A3, n3, c3, rfl, -⟩ := hX3.sl; clear hX3 hG3 ho3))
      | (at_builtin; (refine wpList_appX _ uxE (.tmp 22) (.tmp 26) rfl rfl rfl HX3.out Ad nd cd rfl (LD.map enC).flatten (by rw [en_len, HDL.out]) HD1.out (HDA.out.below HB3.out).news (en_one _) (by have := HLK.out; omega) ?_; intro v5 g5 w5 hX5 hG5 ho5; rw [← List.flatten_append, ← List.map_append] at hX5; have HX5 := Lib.hid hX5; have HB5 := Lib.hid (belowX HB3.out hG5 HO3.out HB3.out.size); have HO5 : Hid (∀ k, g5 = some k → w.heap.size ≤ k) := Lib.hid (fun k hk => by rcases ho5 with h | h; (rw [h] at hk; exact HO3.out k hk); (rw [h] at hk; cases hk; exact HB3.out.size)); obtain ⟨A5, n5, c5, rfl, -⟩ := hX5.sl; clear hX5 hG5 ho5)))
    go_ret
    rw [HPP.out]
    exact HX5.out.en HB5.out HO5.out
end Go.Proofs.YtbpooaicmjkemaaGreatDoor
