/-
  The walk of the document's New. Conditions: the lengths.
-/
import Derived.Test.YtbpooaicmjkemaaGreatDoorRun18
namespace Go.Proofs.YtbpooaicmjkemaaGreatDoor
open Go.RowKit Go.Maps
set_option linter.unusedVariables false
theorem run_lssS (w : World) (a b : Tx) : (binOp .lss 9 (.string (bs a)) (.string (bs b))).run Tryz.prog w = .ok (.bool (decide (a < b))) w := by
  have h : binOp .lss 9 (.string (bs a)) (.string (bs b)) = Op.stringOp .lss (bs a) (bs b) := rfl
  rw [h]
  unfold Op.stringOp
  simp only [bs_lt]
  rfl
theorem OwnX.rsx {w : World} {g : Option Nat} {A : Option Addr} {n c : Nat} {S : List Tx} (h : OwnX 1 w g (.slice A n c) (S.map stV)) : n = S.length ∧ n ≤ c ∧ c ≤ maxLen ∧ RSx w A S := by
  obtain ⟨h1, h2, h3⟩ := h.form
  rw [List.length_map, Nat.mul_one] at h1
  refine ⟨h1.symm, h2, h3, ?_⟩
  rcases Nat.eq_zero_or_pos S.length with h0 | h0
  · exact .inl (List.eq_nil_of_length_eq_zero h0)
  · obtain ⟨g', off, -, rfl, hl, hc, -⟩ := h.at_ (by omega)
    refine .inr ⟨g', off, rfl, hl, fun i l hi => ?_⟩
    have hil := (List.getElem?_eq_some_iff.1 hi).1
    rw [hc i (by rw [List.length_map]; exact hil), List.getElem?_map, hi]
    rfl
theorem RSx.take {w : World} {A : Option Addr} {S : List Tx} (h : RSx w A S) (k : Nat) : RSx w A (S.take k) := by
  rcases h with rfl | ⟨b, off, rfl, hlt, hc⟩
  · exact .inl (by simp)
  · refine .inr ⟨b, off, rfl, hlt, fun i e he => hc i e ?_⟩
    by_cases hi : i < k
    · rwa [List.getElem?_take_of_lt hi] at he
    · rw [List.getElem?_eq_none (by rw [List.length_take]; omega)] at he
      cases he
theorem RSx.dropA {w : World} {A : Option Addr} {S : List Tx} (h : RSx w A S) (c k : Nat) (hc : S.length ≤ c) : RSx w (if c = k then A else A.map fun a => a.add (k * 1)) (S.drop k) := by
  by_cases h1 : S.length ≤ k
  · exact .inl (List.drop_of_length_le h1)
  · rw [if_neg (by omega)]
    rcases h with rfl | ⟨b, off, rfl, h2, h3⟩
    · exact .inl (by simp)
    · simp only [Option.map_some, Addr.add_lit]
      refine .inr ⟨b, off + k * 1, rfl, h2, fun i e he => ?_⟩
      rw [List.getElem?_drop] at he
      have := h3 (k + i) e he
      rw [Nat.mul_one, Nat.add_assoc]
      exact this
theorem RSx.none_ {w : World} {A : Option Addr} {S : List Tx} (h : RSx w A S) (e : A = none) : S = [] := by
  rcases h with h | ⟨b, off, h, -⟩
  · exact h
  · rw [e] at h; cases h
theorem sliceS_low (A : Option Addr) (n c k : Nat) (h1 : k ≤ n) (W : World) : (Instr.slice 32 (.slice A n c) (some (.int .i64 (k : Int))) none none).run Tryz.prog W = .ok (.slice (if c = k then A else A.map fun a => a.add (k * 1)) (n - k) (c - k)) W := by
  have ht' : Tryz.prog.underlying 32 = some (.slice (Tryz.prog.elem 32)) := by simp [Program.elem, Tryz.underlying32]
  have he : Tryz.prog.elem 32 = 9 := by simp [Program.elem, Tryz.underlying32]
  rw [run_slice_l W 32 _ _ _ ht' .i64 _ (by omega) (by omega), he, Tryz.sizeOf9]
  simp only [Result.andThen, sliced, Int.toNat_natCast]
/-! ### names, one behind the other -/
structure NwI (ds : List Tx) (i : Nat) (S : List Tx) : Prop where
  so : S.Pairwise (· < ·)
  me : ∀ x, x ∈ S ↔ x ∈ ds.take i
  na : ∀ x ∈ ds.take i, nameB x = true
  nd : (ds.take i).Nodup
  ln : S.length ≤ i
theorem NwI.next {ds S : List Tx} {i a : Nat} {p : Tx} (h : NwI ds i S) (hp : ds[i]? = some p) (hn : nameB p = true) (hc : p ∉ S) (h1 : ∀ j x, j < a → S[j]? = some x → x < p) (h2 : ∀ x, S[a]? = some x → ¬ x < p) (ha : a ≤ S.length) : NwI ds (i + 1) (S.take a ++ p :: S.drop a) := by
  obtain ⟨k1, k2⟩ := List.getElem?_eq_some_iff.1 hp
  have ht : ds.take (i + 1) = ds.take i ++ [p] := by rw [List.take_succ_eq_append_getElem k1, k2]
  have hlo : ∀ x ∈ S.take a, x < p := fun x hx => by
    obtain ⟨j, hj, e⟩ := List.mem_iff_getElem.1 hx
    rw [List.length_take] at hj
    refine h1 j x (by omega) ?_
    rw [List.getElem_take] at e
    exact List.getElem?_eq_some_iff.2 ⟨by omega, e⟩
  have hhi : ∀ x ∈ S.drop a, p < x := fun x hx => by
    obtain ⟨j, hj, e⟩ := List.mem_iff_getElem.1 hx
    rw [List.length_drop] at hj
    have hxS : x ∈ S := List.mem_of_mem_drop hx
    have hne : x ≠ p := fun e2 => hc (e2 ▸ hxS)
    have ha2 : a < S.length := by omega
    have hge : ¬ S[a] < p := h2 _ (List.getElem?_eq_getElem ha2)
    have hax : S[a] = x ∨ S[a] < x := by
      rw [List.getElem_drop] at e
      rcases Nat.eq_zero_or_pos j with h0 | h0
      · subst h0; left; simpa using e
      · right
        have := List.pairwise_iff_getElem.1 h.so a (a + j) ha2 (by omega) (by omega)
        rw [e] at this; exact this
    rcases key_tot x p with h | h | h
    · rcases hax with h3 | h3
      · rw [h3] at hge; exact absurd h hge
      · exact absurd (key_tr h3 h) hge
    · exact absurd h hne
    · exact h
  refine ⟨?_, fun x => ?_, fun x hx => ?_, ?_, ?_⟩
  · rw [List.pairwise_append, List.pairwise_cons]
    refine ⟨h.so.sublist (List.take_sublist _ _), ⟨hhi, h.so.sublist (List.drop_sublist _ _)⟩, fun x hx y hy => ?_⟩
    rcases List.mem_cons.1 hy with rfl | hy
    · exact hlo x hx
    · exact key_tr (hlo x hx) (hhi y hy)
  · rw [ht, List.mem_append, List.mem_append, List.mem_cons, ← h.me x]
    have : x ∈ S ↔ x ∈ S.take a ∨ x ∈ S.drop a := by
      conv => lhs; rw [← List.take_append_drop a S, List.mem_append]
    rw [this, List.mem_singleton]
    constructor
    · rintro (h | h | h)
      · exact .inl (.inl h)
      · exact .inr h
      · exact .inl (.inr h)
    · rintro ((h | h) | h)
      · exact .inl h
      · exact .inr (.inr h)
      · exact .inr (.inl h)
  · rw [ht, List.mem_append, List.mem_singleton] at hx
    rcases hx with hx | rfl
    · exact h.na x hx
    · exact hn
  · rw [ht, List.nodup_append]
    refine ⟨h.nd, by simp, fun x hx y hy => ?_⟩
    rw [List.mem_singleton.1 hy]
    exact fun e => hc ((h.me p).2 (e ▸ hx))
  · rw [List.length_append, List.length_cons, List.length_take, List.length_drop]
    have := h.ln
    omega
theorem init_name {quota : Int} {ds : List Tx} {p : Tx} (hp : p ∈ ds) (h : nameB p = false) : initM quota ds = none := by
  unfold initM
  rw [if_neg fun hc => ?_]
  have := hc.2.2.1 p hp
  rw [h] at this; cases this
theorem init_twice {quota : Int} {ds S : List Tx} {i : Nat} {p : Tx} (hI : NwI ds i S) (hp : ds[i]? = some p) (h : p ∈ S) : initM quota ds = none := by
  unfold initM
  rw [if_neg fun hc => ?_]
  have h1 : (sortT ds).Nodup := hc.2.2.2.imp fun {x y} hxy e => by rw [e] at hxy; exact key_ir _ hxy
  have h2 : ds.Nodup := (List.mergeSort_perm ds _).nodup_iff.1 h1
  obtain ⟨k1, k2⟩ := List.getElem?_eq_some_iff.1 hp
  have h3 := (hI.me p).1 h
  obtain ⟨j, hj, e⟩ := List.mem_iff_getElem.1 h3
  rw [List.length_take] at hj
  rw [List.getElem_take] at e
  have := (List.getElem_inj (h₀ := by omega) (h₁ := k1) h2).1 (e.trans k2.symm)
  omega
theorem init_done {quota : Int} {ds S : List Tx} (h1 : 1 ≤ quota ∧ quota ≤ 67108864) (h2 : 1 ≤ ds.length ∧ ds.length ≤ 16) (hI : NwI ds ds.length S) : initM quota ds = some ⟨quota, S, [], [], [], [], false, 0, 0, 0, 0⟩ := by
  have hm := hI.me
  have hn := hI.na
  have hd := hI.nd
  rw [List.take_length] at hm hn hd
  have hs : sortT ds = S := sortT_is hd hI.so hm
  unfold initM
  rw [if_pos ⟨h1, h2, hn, by rw [hs]; exact hI.so⟩, hs]
/-! ### the walk -/
def RNewPost (z : Nat) (w : World) (own : Nat → Nat × Nat) (r : Option Dk) (e : Ending) (w' : World) : Prop :=
  Below w.heap.size w w' ∧ match r with
  | none => e = .returned (.tuple #[.pointer none, .int .i64 1])
  | some d => ∃ db own', w.heap.size ≤ db ∧ RDisk z w' own' db d ∧ (∀ k, k < w.heap.size → own' k = own k) ∧ e = .returned (.tuple #[ptrV db, .int .i64 0])
def nwA (quota : Int) (v : Value) : Array Value := #[.int .i64 quota, v, .slice none 0 0, .slice none 0 0, .slice none 0 0, .slice none 0 0, .bool false, .int .i64 0, .int .i64 0, .int .i64 0, .int .i64 0]
theorem rnew_end {z : Nat} {w wr : World} {own : Nat → Nat × Nat} {quota : Int} {ds S : List Tx} {A : Option Addr} {n c : Nat} {g : Option Nat} (h1 : 1 ≤ quota ∧ quota ≤ 67108864) (h2 : 1 ≤ ds.length ∧ ds.length ≤ 16) (hI : NwI ds ds.length S) (hB : Blk wr w.heap.size 114 (nwA quota (.slice A n c))) (hX : OwnX 1 wr g (.slice A n c) (S.map stV)) (hg : ∀ k, g = some k → w.heap.size < k) (hb : Below w.heap.size w wr) :
    RNewPost z w own (initM quota ds) (.returned (.tuple #[.pointer (some ⟨w.heap.size, 0, none⟩), .int .i64 0])) wr := by
  refine ⟨hb, ?_⟩
  rw [init_done h1 h2 hI]
  obtain ⟨e1, e2, e3, hr⟩ := hX.rsx
  refine ⟨w.heap.size, newM w own fun k => if k = w.heap.size then (10 * z + 1, 0) else if g = some k then frz else (0, 0), Nat.le_refl _, ⟨⟨.slice A n c, .slice none 0 0, none, [], .slice none 0 0, .slice none 0 0, .slice none 0 0, none⟩, hB, ?_, ?_⟩, fun k hk => newM_old hk, rfl⟩
  · rw [newM_new (Nat.le_refl _), if_pos rfl]
  · refine ⟨?_, OwnX.nil _ _, (fun k e => by cases e), rfl, ⟨none, 0, rfl, Nat.le_refl _, by simp [maxLen], .inl rfl⟩, ⟨none, 0, rfl, Nat.le_refl _, by simp [maxLen], .inl rfl⟩, OwnX.nil _ _, (fun k e => by cases e), (fun i m x hm hx => by cases hx)⟩
    subst e1
    refine ⟨A, c, rfl, e2, e3, ?_⟩
    rcases hr with h | ⟨b, off, rfl, hlt, hc⟩
    · exact .inl h
    · by_cases hn : S = []
      · exact .inl hn
      · refine .inr ⟨b, off, rfl, ?_, hlt, hc⟩
        have hn0 := List.length_pos_iff.2 hn
        obtain ⟨g', off', e4, e5, -⟩ := hX.at_ (by omega)
        cases e5
        have := hg _ e4
        rw [newM_new (by omega), if_neg (by omega), if_pos e4]
set_option maxRecDepth 100000 in
set_option maxHeartbeats 8000000 in
theorem rnew_walk (z : Nat) (w : World) (own : Nat → Nat × Nat) (quota : Int) (A : Option Addr) (n c : Nat) (ds : List Tx) (hn : n = ds.length) (hr : RSx w A ds) (hnm : n ≤ maxLen) (hlen : ∀ p ∈ ds, p.length ≤ maxLen) :
    Calls Tryz.prog 47 #[.int .i64 quota, .slice A n c] w (RNewPost z w own (initM quota ds)) := by
  have HN := Lib.hid hn
  have HR := Lib.hid hr
  have HLEN := Lib.hid hlen
  have hn64 : (n : Int) ≤ 9223372036854775807 := by unfold maxLen at hnm; omega
  have no : initM quota ds = none → Hid (RNewPost z w own (initM quota ds) (.returned (.tuple #[.pointer none, .int .i64 1])) w) := fun e => Lib.hid (by rw [e]; exact ⟨Below.refl _ _, rfl⟩)
  by_cases q1 : quota < 1
  · have HNO := no (by unfold initM; rw [if_neg (fun h => by omega)])
    clear no hn hr hlen
    go_enter Tryz.func47, Tryz.ntmps47
    go_wp2_with fail
    go_ret2
    exact HNO.out
  by_cases q2 : quota > 67108864
  · have HNO := no (by unfold initM; rw [if_neg (fun h => by omega)])
    clear no hn hr hlen
    go_enter Tryz.func47, Tryz.ntmps47
    go_wp2_with fail
    go_ret2
    exact HNO.out
  by_cases q3 : (n : Int) < 1
  · have HNO := no (by unfold initM; rw [if_neg (fun h => by omega)])
    clear no hn hr hlen
    go_enter Tryz.func47, Tryz.ntmps47
    go_wp2_with fail
    go_ret2
    exact HNO.out
  by_cases q4 : (n : Int) > 16
  · have HNO := no (by unfold initM; rw [if_neg (fun h => by omega)])
    clear no hn hr hlen
    go_enter Tryz.func47, Tryz.ntmps47
    go_wp2_with fail
    go_ret2
    exact HNO.out
  have HQ : Hid ((1 ≤ quota ∧ quota ≤ 67108864) ∧ (1 ≤ ds.length ∧ ds.length ≤ 16)) := Lib.hid ⟨by omega, by omega⟩
  have hn16 : n ≤ 16 := by omega
  have HB1 := Lib.hid ((Below.refl w.heap.size w).alloc (Nat.le_refl _) (.cells (nwA quota (.slice none 0 0)) 114))
  have HD1 := Lib.hid (Blk.new w 114 (nwA quota (.slice none 0 0)))
  clear no hn hr hlen hnm
  go_enter Tryz.func47, Tryz.ntmps47
  go_upto_region 5 with fail
  unfold nwA at HB1 HD1
  generalize hw1 : w.alloc (.cells #[.int .i64 quota, .slice none 0 0, .slice none 0 0, .slice none 0 0, .slice none 0 0, .slice none 0 0, .bool false, .int .i64 0, .int .i64 0, .int .i64 0, .int .i64 0] 114) = w1 at *
  clear hw1
  go_loopg [7, 8, 9, 10, 11] n (fun k s7 s8 s9 s10 s11 wr => ∃ (i : Nat) (S : List Tx) (g : Option Nat) (A1 : Option Addr) (n1 c1 : Nat), s7 = .int .i64 (i : Int) ∧ i + k = n ∧ Hid (Blk wr w.heap.size 114 (nwA quota (.slice A1 n1 c1))) ∧ Hid (OwnX 1 wr g (.slice A1 n1 c1) (S.map stV)) ∧ Hid (∀ k, g = some k → w.heap.size < k) ∧ Hid (NwI ds i S) ∧ Hid (Below w.heap.size w wr))
  case atStart => exact ⟨0, [], none, none, 0, 0, rfl, by omega, HD1, Lib.hid (OwnX.nil _ _), Lib.hid (fun k e => by cases e), Lib.hid ⟨List.Pairwise.nil, by simp, by simp, by simp, by simp⟩, HB1⟩
  case round =>
    obtain ⟨i, S, g, A1, n1, c1, rfl, hi, HD, HX, HG, HI, HB⟩ := hrel
    clear HB1 HD1
    obtain ⟨hn1, hc1, hm1, hrs⟩ := HX.out.rsx
    have k1 : wr.cell? ⟨w.heap.size, 1, none⟩ = some (.slice A1 n1 c1) := HD.out.cell 1
    have hs1 : w.heap.size < wr.heap.size := HD.out.lt
    by_cases hlt : i < n
    · have hlt1 : (i : Int) < (n : Int) := by omega
      obtain ⟨p, hp⟩ : ∃ p, ds[i]? = some p := ⟨_, List.getElem?_eq_getElem (by rw [← HN.out]; exact hlt)⟩
      obtain ⟨b0, o0, rfl, hb0, hc0⟩ : ∃ b off, A = some ⟨b, off, none⟩ ∧ b < w.heap.size ∧ ∀ i l, ds[i]? = some l → w.cell? ⟨b, off + i, none⟩ = some (.string (bs l)) := by
        rcases HR.out with h | h
        · rw [h] at hp; cases hp
        · exact h
      have y0 : wr.cell? ⟨b0, o0 + i, none⟩ = some (.string (bs p)) := (HB.out.cell (p := ⟨b0, o0 + i, none⟩) hb0).trans (hc0 i p hp)
      have HP := Lib.hid hp
      have HC0 := Lib.hid (⟨hb0, hc0⟩ : b0 < w.heap.size ∧ ∀ i l, ds[i]? = some l → w.cell? ⟨b0, o0 + i, none⟩ = some (.string (bs l)))
      have KN := Lib.hid (rname_walk p wr (HLEN.out p (List.mem_of_getElem? hp)))
      have hn16' : n1 ≤ 16 := by have := HI.out.ln; omega
      have KD := Lib.hid (risdir_walk wr w.heap.size A1 n1 c1 S k1 hn1 hrs p (by omega))
      unfold ptrV at KD
      have HN1 := Lib.hid hn1
      have HRS := Lib.hid hrs
      have HM1 := Lib.hid hm1
      clear hp hb0 hc0 hn1 hrs hm1
      cases hnm : nameB p with
      | false =>
        have HNO : Hid (RNewPost z w own (initM quota ds) (.returned (.tuple #[.pointer none, .int .i64 1])) wr) := Lib.hid (by rw [init_name (List.mem_of_getElem? HP.out) hnm]; exact ⟨HB.out, rfl⟩)
        rw [hnm] at KN
        clear hnm
        generalize S.contains p = cp at *
        go_wp2_with fail
        refine KN.out.mono ?_
        rintro e w2 ⟨rfl, rfl⟩
        go_wp2_with fail
        refine KD.out.mono ?_
        rintro e w2 ⟨rfl, rfl⟩
        go_wp2_with fail
        go_ret2
        exact HNO.out
      | true =>
        rw [hnm] at KN
        cases hcp : S.contains p with
        | true =>
          have HNO : Hid (RNewPost z w own (initM quota ds) (.returned (.tuple #[.pointer none, .int .i64 1])) wr) := Lib.hid (by rw [init_twice HI.out HP.out (by simpa using hcp)]; exact ⟨HB.out, rfl⟩)
          rw [hcp] at KD
          clear hnm hcp
          go_wp2_with fail
          refine KN.out.mono ?_
          rintro e w2 ⟨rfl, rfl⟩
          go_wp2_with fail
          refine KD.out.mono ?_
          rintro e w2 ⟨rfl, rfl⟩
          go_wp2_with fail
          go_ret2
          exact HNO.out
        | false =>
          rw [hcp] at KD
          have HNC : Hid (nameB p = true ∧ p ∉ S) := Lib.hid ⟨hnm, by simpa using hcp⟩
          clear hnm hcp
          go_wp2_with fail
          refine KN.out.mono ?_
          rintro e w2 ⟨rfl, rfl⟩
          go_wp2_with fail
          refine KD.out.mono ?_
          rintro e w2 ⟨rfl, rfl⟩
          clear KN KD
          go_upto_region 12 with fail
          have HI2 := Lib.hid hi
          have HLT := Lib.hid hlt
          clear hi hlt
          go_loopg [10] n1 (fun k s10 wr => ∃ a : Nat, s10 = .int .i64 (a : Int) ∧ a + k = n1 ∧ Hid (∀ j x, j < a → S[j]? = some x → x < p) ∧ Hid (Blk wr w.heap.size 114 (nwA quota (.slice A1 n1 c1))) ∧ Hid (OwnX 1 wr g (.slice A1 n1 c1) (S.map stV)) ∧ Hid (Below w.heap.size w wr))
          case atStart => exact ⟨0, rfl, by omega, Lib.hid (fun j x h => by omega), HD, HX, HB⟩
          case round =>
            obtain ⟨a, rfl, ha, HLO, HDq, HXq, HBq⟩ := hrel
            clear k1 y0
            have k1q : wr.cell? ⟨w.heap.size, 1, none⟩ = some (.slice A1 n1 c1) := HDq.out.cell 1
            have y0q : wr.cell? ⟨b0, o0 + i, none⟩ = some (.string (bs p)) := (HBq.out.cell (p := ⟨b0, o0 + i, none⟩) HC0.out.1).trans (HC0.out.2 i p HP.out)
            have hin1 : (i : Int) < (n : Int) := hlt1
            by_cases hal : a < n1
            · have hal1 : (a : Int) < (n1 : Int) := by omega
              obtain ⟨x, hx⟩ : ∃ x, S[a]? = some x := ⟨_, List.getElem?_eq_getElem (by rw [← HN1.out]; exact hal)⟩
              have hrq := HXq.out.rsx.2.2.2
              obtain ⟨b1, o1, rfl, z0⟩ : ∃ b1 o1, A1 = some ⟨b1, o1, none⟩ ∧ wr.cell? ⟨b1, o1 + a, none⟩ = some (.string (bs x)) := by
                rcases hrq with h | ⟨b1, o1, h1, -, h3⟩
                · rw [h] at hx; cases hx
                · exact ⟨b1, o1, h1, h3 a x hx⟩
              clear hrq
              by_cases hxp : x < p
              · have hbl : Op.bytesLess (bs x).toList (bs p).toList = true := by rw [bs_lt]; exact decide_eq_true hxp
                have HLO2 : Hid (∀ j y, j < a + 1 → S[j]? = some y → y < p) := Lib.hid fun j y hj hy => by
                  by_cases hja : j < a
                  · exact HLO.out j y hja hy
                  · obtain rfl : j = a := by omega
                    rw [hx] at hy
                    obtain rfl := Option.some.inj hy
                    exact hxp
                have HAA := Lib.hid ha
                clear hx hxp ha
                go_upto_region 12 with fail
                go_quiet (fail)
                go_wp2_with fail
                go_roundg (gk - 1)
                case rel => exact ⟨a + 1, by go_num, by have := HAA.out; omega, HLO2, Lib.hid HDq.out, Lib.hid HXq.out, Lib.hid (by have h := HBq.out; exact ⟨h.os, h.tape, h.output, h.size, h.block⟩)⟩
                case measure => have := HAA.out; omega
              · have hbl : Op.bytesLess (bs x).toList (bs p).toList = false := by rw [bs_lt]; exact decide_eq_false hxp
                have h2 : ∀ y, S[a]? = some y → ¬ y < p := fun y hy => by
                  rw [hx] at hy
                  obtain rfl := Option.some.inj hy
                  exact hxp
                have han : a ≤ n1 := by omega
                clear hx hxp ha
                go_upto_region 12 with fail
                go_quiet (fail)
                have HD2 : Hid (Blk (wr.drewN nq) w.heap.size 114 (nwA quota (.slice (some ⟨b1, o1, none⟩ : Option Addr) n1 c1))) := Lib.hid HDq.out
                have HX2 : Hid (OwnX 1 (wr.drewN nq) g (.slice (some ⟨b1, o1, none⟩ : Option Addr) n1 c1) (S.map stV)) := Lib.hid HXq.out
                have HB2 : Hid (Below w.heap.size w (wr.drewN nq)) := Lib.hid (by have h := HBq.out; exact ⟨h.os, h.tape, h.output, h.size, h.block⟩)
                have HNX := Lib.hid (HI.out.next HP.out HNC.out.1 HNC.out.2 HLO.out h2 (by rw [← HN1.out]; omega))
                clear h2
                generalize wr.drewN nq = w2 at *
                have hrs2 := HX2.out.rsx.2.2.2
                have HT : Hid (RSx w2 (some ⟨b1, o1, none⟩ : Option Addr) (S.take a)) := Lib.hid (hrs2.take a)
                have HTL : Hid ((S.take a).length = a) := Lib.hid (by rw [List.length_take, ← HN1.out]; omega)
                have HDL : Hid ((S.drop a).length = n1 - a) := Lib.hid (by rw [List.length_drop, ← HN1.out])
                have HA0 : Hid ((some ⟨b1, o1, none⟩ : Option Addr) = none → a = 0) := Lib.hid fun e => by
                  have h1 := hrs2.none_ e
                  have := HN1.out
                  rw [h1] at this
                  simp at this
                  omega
                have HDA := Lib.hid (hrs2.dropA c1 a (by rw [← HN1.out]; exact hc1))
                have hsl := fun W => sliceS_low (some ⟨b1, o1, none⟩ : Option Addr) n1 c1 a han W
                obtain ⟨Ad, hAd⟩ : ∃ Ad, Ad = (if c1 = a then (some ⟨b1, o1, none⟩ : Option Addr) else (some ⟨b1, o1, none⟩ : Option Addr).map fun x => x.add (a * 1)) := ⟨_, rfl⟩
                obtain ⟨nd, hnd⟩ : ∃ nd, nd = n1 - a := ⟨_, rfl⟩
                obtain ⟨cd, hcd⟩ : ∃ cd, cd = c1 - a := ⟨_, rfl⟩
                rw [← hAd] at HDA hsl
                rw [← hnd] at hsl HDL
                rw [← hcd] at hsl
                have HA1 : Hid (Ad = none → nd = 0) := Lib.hid fun e => by
                  have h1 := HDA.out.none_ e
                  have h2 := HDL.out
                  rw [h1] at h2
                  exact h2.symm
                have hac : (a : Int) ≤ (c1 : Int) := by omega
                have hac2 : (a : Int) ≤ (n1 : Int) := by omega
                have HND : Hid (nd ≤ 16 ∧ a ≤ 16) := Lib.hid (by omega)
                obtain ⟨TT, hTT⟩ : ∃ TT, TT = S.take a := ⟨_, rfl⟩
                obtain ⟨DD, hDD⟩ : ∃ DD, DD = S.drop a := ⟨_, rfl⟩
                rw [← hTT] at HT HTL HNX
                rw [← hDD] at HDA HDL HNX
                have j1 : w2.cell? ⟨w.heap.size, 1, none⟩ = some (.slice (some ⟨b1, o1, none⟩ : Option Addr) n1 c1) := HD2.out.cell 1
                have j0 : w2.cell? ⟨b0, o0 + i, none⟩ = some (.string (bs p)) := (HB2.out.cell (p := ⟨b0, o0 + i, none⟩) HC0.out.1).trans (HC0.out.2 i p HP.out)
                clear hrs2 hAd hnd hcd hTT hDD HDq HXq HBq HD HX HRS HLO HN1 z0 k1q y0q
                go_wp2_with (first
                  | (at_builtin; refine wpList_appX _ uxS (.tmp 76) (.tmp 82) rfl rfl rfl (OwnX.nil _ none) (some ⟨b1, o1, none⟩ : Option Addr) a c1 rfl (TT.map stV) (by rw [List.length_map, HTL.out, Nat.mul_one]) HA0.out HT.out.news (oneS _) (by have := HND.out; simp; omega) ?_; intro v3 g3 w3 hX3 hG3 ho3; rw [List.nil_append] at hX3; have HX3 := Lib.hid hX3; have HB3 := Lib.hid (belowX HB2.out hG3 (fun k h => by cases h) HB2.out.size); have HO3 : Hid (∀ k, g3 = some k → w2.heap.size ≤ k) := Lib.hid (fun k hk => by rcases ho3 with h | h <;> (rw [h] at hk; cases hk); exact Nat.le_refl _); have HBk3 : Hid (Below w2.heap.size w2 w3) := Lib.hid (belowX (Below.refl _ _) hG3 (fun k h => by cases h) (Nat.le_refl _)); have i0 : w3.cell? ⟨b0, o0 + i, none⟩ = some (.string (bs p)) := (HB3.out.cell (p := ⟨b0, o0 + i, none⟩) HC0.out.1).trans (HC0.out.2 i p HP.out); obtain ⟨A3, n3, c3, rfl, -⟩ := hX3.sl; clear hX3 hG3 ho3)
                  | (at_builtin; refine wpList_appX _ uxS (.tmp 84) (.tmp 89) rfl rfl rfl (HX3.out.same (by simp) (fun k hk => Below.heap_alloc _ _ k (HX3.out.lt hk))) (some ⟨w3.heap.size, 0, none⟩) 1 1 rfl [.string (bs p)] rfl (fun h => by cases h) (news_of w3 9 [.string (bs p)]) (oneS [p]) (by have := HND.out; have := HTL.out; rw [List.length_map]; omega) ?_; intro v4 g4 w4 hX4 hG4 ho4; have HX4 := Lib.hid hX4; have HBk4 : Hid (Below w2.heap.size w2 w4) := Lib.hid (belowX (HBk3.out.alloc HBk3.out.size (.cells #[.string (bs p)] 9)) hG4 HO3.out (by simp; exact Nat.le_succ_of_le HBk3.out.size)); have HO4 : Hid (∀ k, g4 = some k → w2.heap.size ≤ k) := Lib.hid (fun k hk => by rcases ho4 with h | h; (rw [h] at hk; exact HO3.out k hk); (rw [h] at hk; cases hk; simp; exact Nat.le_succ_of_le HBk3.out.size)); have l1 : w4.cell? ⟨w.heap.size, 1, none⟩ = some (.slice (some ⟨b1, o1, none⟩ : Option Addr) n1 c1) := (HD2.out.keep HBk4.out).cell 1; obtain ⟨A4, n4, c4, rfl, -⟩ := hX4.sl; clear hX4 hG4 ho4)
                  | (at_builtin; refine wpList_appX _ uxS (.tmp 92) (.tmp 98) rfl rfl rfl HX4.out Ad nd cd rfl (DD.map stV) (by rw [List.length_map, HDL.out, Nat.mul_one]) HA1.out (HDA.out.below HBk4.out).news (oneS _) (by have := HND.out; have := HTL.out; simp; omega) ?_; intro v5 g5 w5 hX5 hG5 ho5; have HX5 := Lib.hid hX5; have HBk5 : Hid (Below w2.heap.size w2 w5) := Lib.hid (belowX HBk4.out hG5 HO4.out HBk4.out.size); have HO5 : Hid (∀ k, g5 = some k → w2.heap.size ≤ k) := Lib.hid (fun k hk => by rcases ho5 with h | h; (rw [h] at hk; exact HO4.out k hk); (rw [h] at hk; cases hk; exact HBk4.out.size)); have m1 : w5.cell? ⟨w.heap.size, 1, none⟩ = some (.slice (some ⟨b1, o1, none⟩ : Option Addr) n1 c1) := (HD2.out.keep HBk5.out).cell 1; have mf : w5.frozen? ⟨w.heap.size, 1, none⟩ = false := (HD2.out.keep HBk5.out).frozen 1; obtain ⟨A5, n5, c5, rfl, -⟩ := hX5.sl; clear hX5 hG5 ho5))
                go_roundg (n - (i + 1))
                case rel =>
                  have hgw : ∀ k, g5 = some k → w.heap.size < k := fun k e => by have := HO5.out k e; have := HD2.out.lt; omega
                  refine ⟨i + 1, TT ++ p :: DD, g5, A5, n5, c5, by go_num, by have := HI2.out; have := HLT.out; omega, Lib.hid ((HD2.out.keep HBk5.out).set_ 1 _), Lib.hid ?_, Lib.hid hgw, HNX, Lib.hid ((HB2.out.trans (HBk5.out.mono HB2.out.size)).setCell (Nat.le_refl _) _)⟩
                  have e1 : (TT ++ p :: DD).map stV = (TT.map stV ++ [.string (bs p)]) ++ DD.map stV := by simp [stV]
                  rw [e1]
                  exact HX5.out.same (by simp) fun k e => Below.heap_setCell w5 ⟨w.heap.size, 1, none⟩ _ k (by have := hgw k e; show k ≠ w.heap.size; omega)
                case measure => have := HI2.out; have := HLT.out; omega
            · have hal1 : ¬ (a : Int) < (n1 : Int) := by omega
              have hald : decide ((a : Int) < (n1 : Int)) = false := decide_eq_false hal1
              have h2 : ∀ y, S[a]? = some y → ¬ y < p := fun y hy => by
                rw [List.getElem?_eq_none (by rw [← HN1.out]; omega)] at hy
                cases hy
              have han : a ≤ n1 := by omega
              have z0 : True := trivial
              clear ha
              go_upto_region 12 with fail
              go_quiet (fail)
              have HD2 : Hid (Blk (wr.drewN nq) w.heap.size 114 (nwA quota (.slice A1 n1 c1))) := Lib.hid HDq.out
              have HX2 : Hid (OwnX 1 (wr.drewN nq) g (.slice A1 n1 c1) (S.map stV)) := Lib.hid HXq.out
              have HB2 : Hid (Below w.heap.size w (wr.drewN nq)) := Lib.hid (by have h := HBq.out; exact ⟨h.os, h.tape, h.output, h.size, h.block⟩)
              have HNX := Lib.hid (HI.out.next HP.out HNC.out.1 HNC.out.2 HLO.out h2 (by rw [← HN1.out]; omega))
              clear h2
              generalize wr.drewN nq = w2 at *
              have hrs2 := HX2.out.rsx.2.2.2
              have HT : Hid (RSx w2 A1 (S.take a)) := Lib.hid (hrs2.take a)
              have HTL : Hid ((S.take a).length = a) := Lib.hid (by rw [List.length_take, ← HN1.out]; omega)
              have HDL : Hid ((S.drop a).length = n1 - a) := Lib.hid (by rw [List.length_drop, ← HN1.out])
              have HA0 : Hid (A1 = none → a = 0) := Lib.hid fun e => by
                have h1 := hrs2.none_ e
                have := HN1.out
                rw [h1] at this
                simp at this
                omega
              have HDA := Lib.hid (hrs2.dropA c1 a (by rw [← HN1.out]; exact hc1))
              have hsl := fun W => sliceS_low A1 n1 c1 a han W
              obtain ⟨Ad, hAd⟩ : ∃ Ad, Ad = (if c1 = a then A1 else A1.map fun x => x.add (a * 1)) := ⟨_, rfl⟩
              obtain ⟨nd, hnd⟩ : ∃ nd, nd = n1 - a := ⟨_, rfl⟩
              obtain ⟨cd, hcd⟩ : ∃ cd, cd = c1 - a := ⟨_, rfl⟩
              rw [← hAd] at HDA hsl
              rw [← hnd] at hsl HDL
              rw [← hcd] at hsl
              have HA1 : Hid (Ad = none → nd = 0) := Lib.hid fun e => by
                have h1 := HDA.out.none_ e
                have h2 := HDL.out
                rw [h1] at h2
                exact h2.symm
              have hac : (a : Int) ≤ (c1 : Int) := by omega
              have hac2 : (a : Int) ≤ (n1 : Int) := by omega
              have HND : Hid (nd ≤ 16 ∧ a ≤ 16) := Lib.hid (by omega)
              obtain ⟨TT, hTT⟩ : ∃ TT, TT = S.take a := ⟨_, rfl⟩
              obtain ⟨DD, hDD⟩ : ∃ DD, DD = S.drop a := ⟨_, rfl⟩
              rw [← hTT] at HT HTL HNX
              rw [← hDD] at HDA HDL HNX
              have j1 : w2.cell? ⟨w.heap.size, 1, none⟩ = some (.slice A1 n1 c1) := HD2.out.cell 1
              have j0 : w2.cell? ⟨b0, o0 + i, none⟩ = some (.string (bs p)) := (HB2.out.cell (p := ⟨b0, o0 + i, none⟩) HC0.out.1).trans (HC0.out.2 i p HP.out)
              clear hrs2 hAd hnd hcd hTT hDD HDq HXq HBq HD HX HRS HLO HN1 z0 k1q y0q
              go_wp2_with (first
                | (at_builtin; refine wpList_appX _ uxS (.tmp 76) (.tmp 82) rfl rfl rfl (OwnX.nil _ none) A1 a c1 rfl (TT.map stV) (by rw [List.length_map, HTL.out, Nat.mul_one]) HA0.out HT.out.news (oneS _) (by have := HND.out; simp; omega) ?_; intro v3 g3 w3 hX3 hG3 ho3; rw [List.nil_append] at hX3; have HX3 := Lib.hid hX3; have HB3 := Lib.hid (belowX HB2.out hG3 (fun k h => by cases h) HB2.out.size); have HO3 : Hid (∀ k, g3 = some k → w2.heap.size ≤ k) := Lib.hid (fun k hk => by rcases ho3 with h | h <;> (rw [h] at hk; cases hk); exact Nat.le_refl _); have HBk3 : Hid (Below w2.heap.size w2 w3) := Lib.hid (belowX (Below.refl _ _) hG3 (fun k h => by cases h) (Nat.le_refl _)); have i0 : w3.cell? ⟨b0, o0 + i, none⟩ = some (.string (bs p)) := (HB3.out.cell (p := ⟨b0, o0 + i, none⟩) HC0.out.1).trans (HC0.out.2 i p HP.out); obtain ⟨A3, n3, c3, rfl, -⟩ := hX3.sl; clear hX3 hG3 ho3)
                | (at_builtin; refine wpList_appX _ uxS (.tmp 84) (.tmp 89) rfl rfl rfl (HX3.out.same (by simp) (fun k hk => Below.heap_alloc _ _ k (HX3.out.lt hk))) (some ⟨w3.heap.size, 0, none⟩) 1 1 rfl [.string (bs p)] rfl (fun h => by cases h) (news_of w3 9 [.string (bs p)]) (oneS [p]) (by have := HND.out; have := HTL.out; rw [List.length_map]; omega) ?_; intro v4 g4 w4 hX4 hG4 ho4; have HX4 := Lib.hid hX4; have HBk4 : Hid (Below w2.heap.size w2 w4) := Lib.hid (belowX (HBk3.out.alloc HBk3.out.size (.cells #[.string (bs p)] 9)) hG4 HO3.out (by simp; exact Nat.le_succ_of_le HBk3.out.size)); have HO4 : Hid (∀ k, g4 = some k → w2.heap.size ≤ k) := Lib.hid (fun k hk => by rcases ho4 with h | h; (rw [h] at hk; exact HO3.out k hk); (rw [h] at hk; cases hk; simp; exact Nat.le_succ_of_le HBk3.out.size)); have l1 : w4.cell? ⟨w.heap.size, 1, none⟩ = some (.slice A1 n1 c1) := (HD2.out.keep HBk4.out).cell 1; obtain ⟨A4, n4, c4, rfl, -⟩ := hX4.sl; clear hX4 hG4 ho4)
                | (at_builtin; refine wpList_appX _ uxS (.tmp 92) (.tmp 98) rfl rfl rfl HX4.out Ad nd cd rfl (DD.map stV) (by rw [List.length_map, HDL.out, Nat.mul_one]) HA1.out (HDA.out.below HBk4.out).news (oneS _) (by have := HND.out; have := HTL.out; simp; omega) ?_; intro v5 g5 w5 hX5 hG5 ho5; have HX5 := Lib.hid hX5; have HBk5 : Hid (Below w2.heap.size w2 w5) := Lib.hid (belowX HBk4.out hG5 HO4.out HBk4.out.size); have HO5 : Hid (∀ k, g5 = some k → w2.heap.size ≤ k) := Lib.hid (fun k hk => by rcases ho5 with h | h; (rw [h] at hk; exact HO4.out k hk); (rw [h] at hk; cases hk; exact HBk4.out.size)); have m1 : w5.cell? ⟨w.heap.size, 1, none⟩ = some (.slice A1 n1 c1) := (HD2.out.keep HBk5.out).cell 1; have mf : w5.frozen? ⟨w.heap.size, 1, none⟩ = false := (HD2.out.keep HBk5.out).frozen 1; obtain ⟨A5, n5, c5, rfl, -⟩ := hX5.sl; clear hX5 hG5 ho5))
              go_roundg (n - (i + 1))
              case rel =>
                have hgw : ∀ k, g5 = some k → w.heap.size < k := fun k e => by have := HO5.out k e; have := HD2.out.lt; omega
                refine ⟨i + 1, TT ++ p :: DD, g5, A5, n5, c5, by go_num, by have := HI2.out; have := HLT.out; omega, Lib.hid ((HD2.out.keep HBk5.out).set_ 1 _), Lib.hid ?_, Lib.hid hgw, HNX, Lib.hid ((HB2.out.trans (HBk5.out.mono HB2.out.size)).setCell (Nat.le_refl _) _)⟩
                have e1 : (TT ++ p :: DD).map stV = (TT.map stV ++ [.string (bs p)]) ++ DD.map stV := by simp [stV]
                rw [e1]
                exact HX5.out.same (by simp) fun k e => Below.heap_setCell w5 ⟨w.heap.size, 1, none⟩ _ k (by have := hgw k e; show k ≠ w.heap.size; omega)
              case measure => have := HI2.out; have := HLT.out; omega
    · have hlt1 : ¬ (i : Int) < (n : Int) := by omega
      obtain rfl : i = n := by omega
      clear hn1 hc1 hm1 hrs
      go_wp2_with fail
      go_ret2
      have h1 := HI.out
      rw [HN.out] at h1
      exact rnew_end HQ.out.1 HQ.out.2 h1 HD.out HX.out HG.out HB.out
end Go.Proofs.YtbpooaicmjkemaaGreatDoor
