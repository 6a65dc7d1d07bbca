/-
  Several texts in one (merge.py): SfRng, SfPath, SfFn. Conditions: each part names its own.
-/
import Derived.Test.YtbpooaicmjkemaaGreatDoorRun6
/-! Ranging over a map of entries; the walk of the program's path. Conditions: the lengths. -/
namespace Go.Proofs.YtbpooaicmjkemaaGreatDoor
open Go.RowKit Go.Maps
set_option linter.unusedVariables false
def mkP : Option Nat → Value
  | none => .pointer none
  | some b => .pointer (some ⟨b, 0, none⟩)
theorem inv_mkP (v : Value) (y : DataW Unit × List MemPlace) (h : ptrElem v = some y) : ∃ c, v = mkP c := by
  rcases ptrElem_inv h with ⟨rfl, _⟩ | ⟨b, rfl, _⟩
  · exact ⟨none, rfl⟩
  · exact ⟨some b, rfl⟩
theorem keyS_inv {key : Value} {kl : Lit} (h : keyOf Tryz.prog 9 key = some kl) : ∃ p : Tx, key = stV p ∧ p.length ≤ maxLen ∧ kl = kL p := by
  cases key <;> simp [keyOf, Tryz.underlying9, mapKey] at h
  rename_i s
  refine ⟨s.data.toList, by unfold stV; rw [bs_of], ?_, h.2.symm⟩
  have := h.1
  rw [size_len] at this
  exact this
theorem inv_mkS (key : Value) (kl : Lit) (h : keyOf Tryz.prog 9 key = some kl) : ∃ x, key = stV x := by
  obtain ⟨p, h1, -⟩ := keyS_inv h
  exact ⟨p, h1⟩
theorem stV_inj {p q : Tx} (h : stV p = stV q) : p = q := by unfold stV at h; injection h with h; exact bs_inj h
theorem ptr_at {c : Option Nat} {b : Nat} {D : DataW Unit} {y : DataW Unit × List MemPlace} (hv : ptrElem (mkP c) = some y) (h : y.1 = .lit (.int .i64 (b : Int))) : c = some b := by
  cases c with
  | none =>
    have : y = (.nil, []) := (Option.some.inj hv).symm
    rw [this] at h
    cases h
  | some c =>
    have : y = (.lit (.int .i64 (c : Int)), []) := (Option.some.inj hv).symm
    rw [this] at h
    simp only [DataW.lit.injEq, Lit.int.injEq, true_and] at h
    congr 1
    omega
/-- an entry that a range comes to -/
theorem ent_of {D : DataW Unit} {L : Es} {bl : List Nat} (he : MapE D L bl) (hil : ∀ e ∈ L, e.2 < bl.length) {p : Tx} {c : Option Nat} {kl : Lit} {y : DataW Unit × List MemPlace} (hk : keyOf Tryz.prog 9 (stV p) = some kl) (hh : Maps.has D kl = true) (hv : ptrElem (mkP c) = some y) (hat : ∀ zd, D.atKey kl zd = y.1) :
    ∃ i b, getE L p = some i ∧ bl[i]? = some b ∧ c = some b ∧ kl = kL p ∧ p.length ≤ maxLen := by
  obtain ⟨p', e1, hp, rfl⟩ := keyS_inv hk
  obtain rfl := stV_inj e1
  cases hg : getE L p with
  | none => rw [he.no p hp hg] at hh; cases hh
  | some i =>
    have hi := hil _ (getE_some hg)
    have hb : bl[i]? = some bl[i] := List.getElem?_eq_getElem hi
    have h2 := (he.ya p i _ hp hg hb).2 .nil
    rw [hat .nil] at h2
    exact ⟨i, bl[i], rfl, hb, ptr_at (D := D) hv h2, rfl, hp⟩
theorem infoF : ∃ j, Tryz.prog.info? 75 = some j ∧ j.size ≠ 0 := by
  obtain ⟨i, h1, h2, h3, h4⟩ := info_parts (show (Tryz.prog.info? 75).map (fun i => (i.zero, i.size, i.bytes)) = some (some (.agg #[.slice none 0 0, .slice none 0 0, .slice none 0 0]), 3, 72) by kernel_rfl)
  exact ⟨i, h1, by omega⟩
theorem ptr_same (w : World) (b : Nat) : (binOp .eql 70 (.pointer (some ⟨b, 0, none⟩)) (.pointer (some ⟨b, 0, none⟩))).run Tryz.prog w = .ok (.bool true) w := by
  obtain ⟨j, hj, -⟩ := infoF
  exact run_eql_ptr_same w _ Tryz.underlying70 hj
theorem ptr_other (w : World) {a b : Nat} {ca cb : Array Value} (h : a ≠ b) (ha : Blk w a 75 ca) (hb : Blk w b 75 cb) : (binOp .eql 70 (.pointer (some ⟨a, 0, none⟩)) (.pointer (some ⟨b, 0, none⟩))).run Tryz.prog w = .ok (.bool false) w := by
  obtain ⟨j, hj, hs⟩ := infoF
  exact run_eql_ptr_other w Tryz.underlying70 hj hs (fun e => h (by injection e)) ha hb
theorem path_hit {L : Es} (hj : InjE L) {p : Tx} {n : Nat} (h : (p, n) ∈ L) : pathM L n = p := by
  unfold pathM
  cases hf : L.find? fun e => decide (e.2 = n) with
  | none =>
    have := List.find?_eq_none.1 hf _ h
    simp at this
  | some e =>
    have h1 := List.find?_some hf
    have h2 := List.mem_of_find?_eq_some hf
    simp at h1
    exact hj e.1 p n (by rw [← h1]; exact h2) h
theorem path_miss {L : Es} {n : Nat} (h : ∀ e ∈ L, e.2 ≠ n) : pathM L n = [] := by
  unfold pathM
  rw [List.find?_eq_none.2 fun e he => by simpa using h e he]
/-- different files lie in different blocks -/
theorem bl_inj {z db : Nat} {w : World} {own : Nat → Nat × Nat} {d : Dk} {q : DParts} (h : DRest z w own d q) {i j b : Nat} (hi : q.bl[i]? = some b) (hj : q.bl[j]? = some b) : i = j := by
  have li : i < d.nodes.length := by rw [← h.len]; exact (List.getElem?_eq_some_iff.1 hi).1
  have lj : j < d.nodes.length := by rw [← h.len]; exact (List.getElem?_eq_some_iff.1 hj).1
  have h1 := (h.fs i b _ hi (List.getElem?_eq_getElem li)).mark
  have h2 := (h.fs j b _ hj (List.getElem?_eq_getElem lj)).mark
  rw [h1] at h2
  injection h2
set_option maxRecDepth 100000 in
set_option maxHeartbeats 2000000 in
theorem path_walk {z db i b K : Nat} {w : World} {own : Nat → Nat × Nat} {d : Dk} {q : DParts} (h : DSt z w own db d q) (hw : Wf d K) (hb : q.bl[i]? = some b) :
    Calls Tryz.prog 109 #[ptrV db, ptrV b] w fun e w' => Below w.heap.size w w' ∧ e = .returned (stV (pathM d.now i)) := by
  have k4 : w.cell? ⟨db, 4, none⟩ = some (.map (some q.mn)) := h.blk.cell 4
  have HO := Lib.hid h.rest.on
  have HE := Lib.hid (fun (p : Tx) (c : Option Nat) (kl : Lit) (y : DataW Unit × List MemPlace) => ent_of (p := p) (c := c) (kl := kl) (y := y) h.rest.en (fun e he => by rw [h.rest.len]; exact hw.iln e he))
  have HI := Lib.hid (fun (j : Nat) (hj : q.bl[j]? = some b) => bl_inj (db := db) h.rest hj hb)
  have HB0 := Lib.hid hb
  have HY := Lib.hid (fun (p : Tx) (j : Nat) (hp : getE d.now p = some j) => (path_hit hw.ijn (getE_some hp) : pathM d.now j = p))
  have HAS : Hid (∀ (p : Tx) (j : Nat), (p, j) ∈ d.now → p.length ≤ maxLen ∧ Maps.has q.Dn (kL p) = true) := Lib.hid fun p j hp => by
    have hl : p.length ≤ maxLen := Nat.le_trans (hw.size (hw.mn _ hp)) (by unfold maxLen; omega)
    have hi := hw.iln _ hp
    exact ⟨hl, (h.rest.en.ya p j _ hl ((getE_mem hw.sn).2 hp) (List.getElem?_eq_getElem (by rw [h.rest.len]; exact hi))).1⟩
  have HS := Lib.hid hw.sn
  have HK : Hid (∀ (j b : Nat), q.bl[j]? = some b → ∃ cs, Blk w b 75 cs) := Lib.hid fun j b hb => by
    have lj : j < d.nodes.length := by rw [← h.rest.len]; exact (List.getElem?_eq_some_iff.1 hb).1
    obtain ⟨_, _, _, _, _, _, _, hB, -⟩ := (h.rest.fs j b _ hb (List.getElem?_eq_getElem lj)).ex
    exact ⟨_, hB⟩
  unfold ptrV
  clear h hw hb
  go_enter Tryz.func109, Tryz.ntmps109
  go_wp2_with (at_range; refine wpList_range_own _ rfl _ 65 rfl 9 70 lawS Tryz.underlying65 ptrElem q.mn q.nn q.Dn rfl HO.out ?_; intro w0 hrg0 hg0 hs0)
  go_frame
  have HR0 := Lib.hid hrg0
  have HB0' : Hid (Below w.heap.size w w0) := Lib.hid ⟨hg0.os, hg0.tape, hg0.output, hg0.size, fun k hk => hg0.block k hk (by simp)⟩
  clear hrg0 hg0 hs0 k4
  go_loopg [5, 6, 12] (Maps.size q.Dn) (fun k s5 s6 s12 wr => ∃ (left : Lit → Bool), Hid (wr.ranges Tryz.prog 9 ptrElem q.mn w.heap.size q.nn q.Dn left k) ∧ Hid (Below w.heap.size w wr) ∧ Hid (∀ (p : Tx) (j : Nat), (p, j) ∈ d.now → left (kL p) = false → j ≠ i) ∧ Hid (∀ z, left z = true → Maps.has q.Dn z = true))
  case atStart => exact ⟨Maps.has q.Dn, HR0, HB0', Lib.hid (fun p j hp hl => by rw [(HAS.out p j hp).2] at hl; cases hl), Lib.hid fun z h => h⟩
  case round =>
    obtain ⟨left, HR, HB, HV, HL⟩ := hrel
    clear HR0 HB0'
    go_wp2_with (at_next; refine wpList_next_ranges _ rfl _ rfl 9 lawS ptrElem stV mkP inv_mkS inv_mkP q.mn w.heap.size q.nn q.Dn left gk rfl HR.out ?_ ?_)
    · intro hc0 hl0
      have HM : Hid (pathM d.now i = []) := Lib.hid (path_miss fun e he => HV.out e.1 e.2 he (hl0 _))
      clear hc0 hl0
      go_wp2_with fail
      go_ret
      exact ⟨HB.out, by rw [HM.out]; rfl⟩
    · intro p c kl y1 y2 w1 cnt1 hkey hlk hv hat hrg1 hlt hg1 hs1 hen
      obtain ⟨j, bj, hgj, hbj, rfl, rfl, hpl⟩ := HE.out p c kl (y1, y2) hkey (HL.out _ hlk) hv hat
      have HB1 : Hid (Below w.heap.size w w1) := Lib.hid (HB.out.grown hg1 HB.out.size (fun k hk => by cases hk; exact Nat.le_refl _))
      have HR1 := Lib.hid hrg1
      have HLT := Lib.hid hlt
      dsimp only [mkP] at hen ⊢
      by_cases hji : bj = b
      · subst hji
        have hij := HI.out j hbj
        subst hij
        have HP : Hid (pathM d.now j = p) := Lib.hid (HY.out p j hgj)
        clear hkey hlk hv hat hrg1 hlt hg1 hs1 hgj hbj hpl
        have heq := ptr_same w1 bj
        unfold stV at *
        go_wp2_with fail
        go_ret
        exact ⟨HB1.out, by rw [HP.out]; rfl⟩
      · have hij : ¬ j = i := fun e => hji (by subst e; rw [HB0.out] at hbj; exact (Option.some.inj hbj).symm)
        have HV1 : Hid (∀ (p' : Tx) (j' : Nat), (p', j') ∈ d.now → (left (kL p') && !(kL p').sameKey (kL p)) = false → j' ≠ i) := Lib.hid fun p' j' hp' hl' => by
          rw [Bool.and_eq_false_iff] at hl'
          rcases hl' with hl' | hl'
          · exact HV.out p' j' hp' hl'
          · have hs : (kL p').sameKey (kL p) = true := by simpa using hl'
            have := kL_inj (WideAt.sameKey_eq hs)
            subst this
            rw [(getE_mem HS.out).2 hp'] at hgj
            rw [Option.some.inj hgj]
            exact hij
        have HL1 : Hid (∀ z, (left z && !z.sameKey (kL p)) = true → Maps.has q.Dn z = true) := Lib.hid fun z h => HL.out z (by simp only [Bool.and_eq_true] at h; exact h.1)
        obtain ⟨ca, hca⟩ := HK.out i b HB0.out
        obtain ⟨cb, hcb⟩ := HK.out j bj hbj
        have heq := ptr_other w1 (a := b) (b := bj) (fun e => hji e.symm) ((hca.keep (HB1.out))) (hcb.keep HB1.out)
        clear hkey hlk hv hat hrg1 hlt hg1 hs1 hgj hbj hpl hij hca hcb hji
        unfold stV at *
        go_wp2_with fail
        go_roundg cnt1
        case rel => exact ⟨_, HR1, HB1, HV1, HL1⟩
        case measure => exact HLT.out
end Go.Proofs.YtbpooaicmjkemaaGreatDoor

/-! The walks of a change's paths and leans; slices.ContainsFunc at a predicate that may lay blocks. Conditions: the lengths. -/
namespace Go.Proofs.YtbpooaicmjkemaaGreatDoor
open Go.RowKit Go.Maps Go.Sort
set_option linter.unusedVariables false
def pathsC (c : Ch) : List Tx := [c.fr, c.tt].filter fun p => !decide (p = [])
theorem empty_walk (p : Tx) (w : World) : Calls Tryz.prog 88 #[.string (bs p)] w fun e w' => e = .returned (.bool (decide (p = []))) ∧ w' = w := by
  have he : (bs p).toList = p := bs_nil p
  go_enter Tryz.func88, Tryz.ntmps88
  by_cases hp : p = []
  · subst hp
    rw [show decide (([] : Tx) = []) = true from rfl]
    go_wp2
    go_ret
    exact ⟨rfl, rfl⟩
  · rw [show decide (p = []) = false from decide_eq_false hp]
    have h1 : p.isEmpty = false := by cases p; exact absurd rfl hp; rfl
    go_wp2
    go_ret
    exact ⟨rfl, rfl⟩
theorem grown_putRow {α : Type} [Inhabited α] (enc : α → Value) (w : World) (n g off : Nat) (d : Array α) : w.grownBy (putRow enc (Sort.ahead w n) g off d) (some g) := by
  refine ⟨rfl, rfl, rfl, by simp, fun k hk hne => ?_⟩
  have : g ≠ k := fun e => hne (by rw [e])
  simp [putRow, mapBlock, Sort.ahead, Array.getElem?_modify, this]
theorem grown_below {w w' : World} {g B : Nat} (h : w.grownBy w' (some g)) (hB : B ≤ g) (hs : B ≤ w.heap.size) : Below B w w' := ⟨h.os, h.tape, h.output, h.size, fun k hk => h.block k (by omega) (fun e => by injection e; omega)⟩
theorem cell_putA {α : Type} [Inhabited α] (enc : α → Value) (w : World) (n blk off : Nat) (d0 d : Array α) (h0 : Holds enc w blk off d0) (hs : d.size = d0.size) (j : Nat) (hj : j < d.size) : (putRow enc (Sort.ahead w n) blk off d).cell? ⟨blk, off + j, none⟩ = some (enc d[j]!) :=
  cell?_putRow enc (Sort.ahead w n) blk off d0 d h0 hs j hj
def chV (k : Int) (fr tt : Tx) (pv : Value) : Value := .agg #[.int .i64 k, .string (bs fr), .string (bs tt), pv]
/-- paths, in new memory -/
def PathsPost (w : World) (L : List Tx) (e : Ending) (w' : World) : Prop := Below w.heap.size w w' ∧ ∃ A c, e = .returned (.slice A L.length c) ∧ RSx w' A L
theorem paths_walk (w : World) (c : Ch) (pv : Value) (hp : pv = .pointer none ∨ ∃ b, pv = .pointer (some b)) :
    Calls Tryz.prog 39 #[.agg #[.int .i64 c.kind, .string (bs c.fr), .string (bs c.tt), pv]] w (PathsPost w (pathsC c)) := by
  have HB0 := Lib.hid (((Below.refl w.heap.size w).alloc (Nat.le_refl _) (.cells #[.int .i64 c.kind, .string (bs c.fr), .string (bs c.tt), pv] 80)).alloc (by simp) (.cells #[.string (bs c.fr), .string (bs c.tt)] 9))
  have HX := Lib.hid (Blk.new (w.alloc (.cells #[.int .i64 c.kind, .string (bs c.fr), .string (bs c.tt), pv] 80)) 9 #[.string (bs c.fr), .string (bs c.tt)])
  have hs1 : (w.alloc (.cells #[.int .i64 c.kind, .string (bs c.fr), .string (bs c.tt), pv] 80)).heap.size = w.heap.size + 1 := by simp
  have hH : Holds stV ((w.alloc (.cells #[.int .i64 c.kind, .string (bs c.fr), .string (bs c.tt), pv] 80)).alloc (.cells #[.string (bs c.fr), .string (bs c.tt)] 9)) (w.heap.size + 1) 0 #[c.fr, c.tt] := fun j hj => by
    have h1 := HX.out.cell j
    have h2 := HX.out.frozen j
    rw [hs1] at h1 h2
    rw [Nat.zero_add, h1]
    refine ⟨?_, h2⟩
    match j, hj with
    | 0, _ => rfl
    | 1, _ => rfl
  have KD := Lib.hid (Tryz.slices_DeleteFunc stV (fun _ => rfl) (fun p : Tx => decide (p = [])) 88 #[] (enters_of Tryz.func88 (by kernel_rfl) rfl) [] (fun w => by kernel_rfl) (w.heap.size + 1) 0 2 #[c.fr, c.tt]
    ((w.alloc (.cells #[.int .i64 c.kind, .string (bs c.fr), .string (bs c.tt), pv] 80)).alloc (.cells #[.string (bs c.fr), .string (bs c.tt)] 9))
    (fun W x _ => (empty_walk x W).mono fun e w' h => ⟨h.1, 0, h.2⟩) (fun n os dk x _ => (empty_walk x _).mono fun e w' h => ⟨h.1, 0, h.2⟩) hH (by simp) (by simp))
  have HH := Lib.hid hH
  have hL : (#[c.fr, c.tt].toList.filter fun x => !(fun p : Tx => decide (p = [])) x) = pathsC c := rfl
  rw [hL] at KD
  have hle : (pathsC c).length ≤ 2 := List.length_filter_le _ _
  obtain ⟨kind, fr, tt, node⟩ := c
  simp only [] at *
  generalize pathsC ⟨kind, fr, tt, node⟩ = L at *
  have HLE := Lib.hid hle
  clear hH hL hle
  rcases hp with rfl | ⟨b, rfl⟩
  all_goals
    go_enter Tryz.func39, Tryz.ntmps39
    go_wp2_with fail
    refine KD.out.mono ?_
    rintro e w' ⟨rfl, qn, rfl⟩
    go_wp2_with fail
    go_ret
    refine ⟨HB0.out.trans ((grown_below (grown_putRow stV _ qn (w.heap.size + 1) 0 _) (by omega) (by simp; omega))), _, _, rfl, ?_⟩
    rcases Nat.eq_zero_or_pos L.length with h0 | h0
    · exact .inl (List.eq_nil_of_length_eq_zero h0)
    · refine .inr ⟨w.heap.size + 1, 0, rfl, by simp, fun j l hl => ?_⟩
      have hj := (List.getElem?_eq_some_iff.1 hl).1
      have hsz : (L ++ List.replicate (#[fr, tt].size - L.length) ([] : Tx)).toArray.size = #[fr, tt].size := by
        have := HLE.out
        simp
        omega
      have hc := cell_putA stV _ qn (w.heap.size + 1) 0 #[fr, tt] (L ++ List.replicate (#[fr, tt].size - L.length) ([] : Tx)).toArray HH.out hsz j (by rw [hsz]; have := HLE.out; show j < 2; omega)
      refine hc.trans ?_
      congr 1
      show stV _ = stV l
      congr 1
      rw [List.getElem!_toArray, List.getElem!_eq_getElem?_getD, List.getElem?_append_left hj, hl]
      rfl
end Go.Proofs.YtbpooaicmjkemaaGreatDoor

/-! The walks of slices.IndexFunc and ContainsFunc at the program's three predicates (printed by gen_fn.py). Conditions: the lengths. -/
namespace Go.Proofs.YtbpooaicmjkemaaGreatDoor
open Go.RowKit Go.Maps Go.Sort
set_option linter.unusedVariables false
def IdxPost (w : World) (b : Bool) (e : Ending) (w' : World) : Prop := Below w.heap.size w w' ∧ ∃ r : Int, e = .returned (.int .i64 r) ∧ decide (0 ≤ r) = b ∧ r ≤ 9223372036854775807
theorem any_drop {L : List Tx} {P : Tx → Bool} {j : Nat} {l : Tx} (h : L[j]? = some l) : (L.drop j).any P = (P l || (L.drop (j + 1)).any P) := by
  obtain ⟨h1, rfl⟩ := List.getElem?_eq_some_iff.1 h
  rw [List.drop_eq_getElem_cons h1, List.any_cons]
set_option maxHeartbeats 1000000 in
theorem index_leans (w : World) (A : Option Addr) (n c : Nat) (L : List Tx) (P : Tx → Bool) (eb : Nat) (hr : RSx w A L) (hn : n = L.length) (hm : n ≤ 1000000)
    (HP : ∀ (W : World) (p : Tx), Below w.heap.size w W → p ∈ L → Calls Tryz.prog 90 #[.string (bs p), .pointer (some ⟨eb, 0, none⟩)] W fun e w' => e = .returned (.bool (P p)) ∧ Below W.heap.size W w') :
    Calls Tryz.prog 82 #[.slice A n c, .func (.func 90) #[] #[.pointer (some ⟨eb, 0, none⟩)]] w (IdxPost w (L.any P)) := by
  have HR := Lib.hid hr
  have HN := Lib.hid hn
  have HPP := Lib.hid HP
  have HA : Hid (L.any P = (L.drop 0).any P) := Lib.hid rfl
  generalize L.any P = F at *
  clear hr hn HP
  go_enter Tryz.func82, Tryz.ntmps82
  go_wp2_with fail
  go_loopg [5, 8] n (fun k s5 s8 wr => ∃ j : Nat, s8 = .int .i64 (j : Int) ∧ j + k = n ∧ Hid (Below w.heap.size w wr) ∧ Hid (F = (L.drop j).any P))
  case atStart => exact ⟨0, rfl, by omega, Lib.hid (Below.refl _ _), HA⟩
  case round =>
    clear HA
    obtain ⟨j, rfl, hj, HB, HA⟩ := hrel
    by_cases hlt : j < n
    · have hlt1 : (j : Int) < (n : Int) := by omega
      obtain ⟨l, hl⟩ : ∃ l, L[j]? = some l := ⟨_, List.getElem?_eq_getElem (by rw [← HN.out]; exact hlt)⟩
      obtain ⟨b, off, rfl, hbl, hc⟩ : ∃ b off, A = some ⟨b, off, none⟩ ∧ b < w.heap.size ∧ w.cell? ⟨b, off + j, none⟩ = some (.string (bs l)) := by
        rcases HR.out with h | ⟨b, off, h1, h2, h3⟩
        · rw [h] at hl; simp at hl
        · exact ⟨b, off, h1, h2, h3 j l hl⟩
      have k0 := (HB.out.cell (p := ⟨b, off + j, none⟩) hbl).trans hc
      have KK := Lib.hid (HPP.out wr l HB.out (List.mem_of_getElem? hl))
      have HD := Lib.hid (HA.out.trans (any_drop hl))
      clear hl hbl hc HA
      generalize P l = pl at *
      cases pl with
      | true =>
        go_wp2_with fail
        refine KK.out.mono ?_
        rintro e w2 ⟨rfl, hb2⟩
        have HB2 := Lib.hid (HB.out.trans (hb2.mono HB.out.size))
        clear hb2
        go_wp2_with fail
        go_ret
        exact ⟨HB2.out, (j : Int), rfl, by rw [HD.out]; simp, by omega⟩
      | false =>
        have HD2 : Hid (F = (L.drop (j + 1)).any P) := Lib.hid (by rw [HD.out]; simp)
        clear HD
        go_wp2_with fail
        refine KK.out.mono ?_
        rintro e w2 ⟨rfl, hb2⟩
        have HB2 := Lib.hid (HB.out.trans (hb2.mono HB.out.size))
        clear hb2
        go_wp2_with fail
        go_roundg (gk - 1)
        case rel => exact ⟨j + 1, by go_num, by omega, HB2, HD2⟩
        case measure => omega
    · have hlt1 : ¬ (j : Int) < (n : Int) := by omega
      have HF : Hid (F = false) := Lib.hid (by rw [HA.out, List.drop_of_length_le (by rw [← HN.out]; omega)]; rfl)
      clear HA
      go_wp2_with fail
      go_ret
      exact ⟨HB.out, -1, rfl, by rw [HF.out]; rfl, by omega⟩
theorem contains_leans (w : World) (A : Option Addr) (n c : Nat) (L : List Tx) (P : Tx → Bool) (eb : Nat) (hr : RSx w A L) (hn : n = L.length) (hm : n ≤ 1000000)
    (HP : ∀ (W : World) (p : Tx), Below w.heap.size w W → p ∈ L → Calls Tryz.prog 90 #[.string (bs p), .pointer (some ⟨eb, 0, none⟩)] W fun e w' => e = .returned (.bool (P p)) ∧ Below W.heap.size W w') :
    Calls Tryz.prog 29 #[.slice A n c, .func (.func 90) #[] #[.pointer (some ⟨eb, 0, none⟩)]] w fun e w' => Below w.heap.size w w' ∧ e = .returned (.bool (L.any P)) := by
  have K := Lib.hid (index_leans w A n c L P eb hr hn hm HP)
  generalize L.any P = F at *
  clear hr hn HP
  go_enter Tryz.func29, Tryz.ntmps29
  go_wp2_with fail
  refine K.out.mono ?_
  rintro e w2 ⟨hb2, r, rfl, hr, hr2⟩
  have HB2 := Lib.hid hb2
  clear hb2
  go_wp2_with fail
  go_ret
  exact ⟨HB2.out, by first | (rw [← hr]; rfl) | (rw [← hr])⟩
set_option maxHeartbeats 1000000 in
theorem index_sync (w : World) (A : Option Addr) (n c : Nat) (L : List Tx) (P : Tx → Bool) (eb : Nat) (hr : RSx w A L) (hn : n = L.length) (hm : n ≤ 1000000)
    (HP : ∀ (W : World) (p : Tx), Below w.heap.size w W → p ∈ L → Calls Tryz.prog 40 #[.string (bs p), .pointer (some ⟨eb, 0, none⟩)] W fun e w' => e = .returned (.bool (P p)) ∧ Below W.heap.size W w') :
    Calls Tryz.prog 82 #[.slice A n c, .func (.func 40) #[] #[.pointer (some ⟨eb, 0, none⟩)]] w (IdxPost w (L.any P)) := by
  have HR := Lib.hid hr
  have HN := Lib.hid hn
  have HPP := Lib.hid HP
  have HA : Hid (L.any P = (L.drop 0).any P) := Lib.hid rfl
  generalize L.any P = F at *
  clear hr hn HP
  go_enter Tryz.func82, Tryz.ntmps82
  go_wp2_with fail
  go_loopg [5, 8] n (fun k s5 s8 wr => ∃ j : Nat, s8 = .int .i64 (j : Int) ∧ j + k = n ∧ Hid (Below w.heap.size w wr) ∧ Hid (F = (L.drop j).any P))
  case atStart => exact ⟨0, rfl, by omega, Lib.hid (Below.refl _ _), HA⟩
  case round =>
    clear HA
    obtain ⟨j, rfl, hj, HB, HA⟩ := hrel
    by_cases hlt : j < n
    · have hlt1 : (j : Int) < (n : Int) := by omega
      obtain ⟨l, hl⟩ : ∃ l, L[j]? = some l := ⟨_, List.getElem?_eq_getElem (by rw [← HN.out]; exact hlt)⟩
      obtain ⟨b, off, rfl, hbl, hc⟩ : ∃ b off, A = some ⟨b, off, none⟩ ∧ b < w.heap.size ∧ w.cell? ⟨b, off + j, none⟩ = some (.string (bs l)) := by
        rcases HR.out with h | ⟨b, off, h1, h2, h3⟩
        · rw [h] at hl; simp at hl
        · exact ⟨b, off, h1, h2, h3 j l hl⟩
      have k0 := (HB.out.cell (p := ⟨b, off + j, none⟩) hbl).trans hc
      have KK := Lib.hid (HPP.out wr l HB.out (List.mem_of_getElem? hl))
      have HD := Lib.hid (HA.out.trans (any_drop hl))
      clear hl hbl hc HA
      generalize P l = pl at *
      cases pl with
      | true =>
        go_wp2_with fail
        refine KK.out.mono ?_
        rintro e w2 ⟨rfl, hb2⟩
        have HB2 := Lib.hid (HB.out.trans (hb2.mono HB.out.size))
        clear hb2
        go_wp2_with fail
        go_ret
        exact ⟨HB2.out, (j : Int), rfl, by rw [HD.out]; simp, by omega⟩
      | false =>
        have HD2 : Hid (F = (L.drop (j + 1)).any P) := Lib.hid (by rw [HD.out]; simp)
        clear HD
        go_wp2_with fail
        refine KK.out.mono ?_
        rintro e w2 ⟨rfl, hb2⟩
        have HB2 := Lib.hid (HB.out.trans (hb2.mono HB.out.size))
        clear hb2
        go_wp2_with fail
        go_roundg (gk - 1)
        case rel => exact ⟨j + 1, by go_num, by omega, HB2, HD2⟩
        case measure => omega
    · have hlt1 : ¬ (j : Int) < (n : Int) := by omega
      have HF : Hid (F = false) := Lib.hid (by rw [HA.out, List.drop_of_length_le (by rw [← HN.out]; omega)]; rfl)
      clear HA
      go_wp2_with fail
      go_ret
      exact ⟨HB.out, -1, rfl, by rw [HF.out]; rfl, by omega⟩
theorem contains_sync (w : World) (A : Option Addr) (n c : Nat) (L : List Tx) (P : Tx → Bool) (eb : Nat) (hr : RSx w A L) (hn : n = L.length) (hm : n ≤ 1000000)
    (HP : ∀ (W : World) (p : Tx), Below w.heap.size w W → p ∈ L → Calls Tryz.prog 40 #[.string (bs p), .pointer (some ⟨eb, 0, none⟩)] W fun e w' => e = .returned (.bool (P p)) ∧ Below W.heap.size W w') :
    Calls Tryz.prog 29 #[.slice A n c, .func (.func 40) #[] #[.pointer (some ⟨eb, 0, none⟩)]] w fun e w' => Below w.heap.size w w' ∧ e = .returned (.bool (L.any P)) := by
  have K := Lib.hid (index_sync w A n c L P eb hr hn hm HP)
  generalize L.any P = F at *
  clear hr hn HP
  go_enter Tryz.func29, Tryz.ntmps29
  go_wp2_with fail
  refine K.out.mono ?_
  rintro e w2 ⟨hb2, r, rfl, hr, hr2⟩
  have HB2 := Lib.hid hb2
  clear hb2
  go_wp2_with fail
  go_ret
  exact ⟨HB2.out, by first | (rw [← hr]; rfl) | (rw [← hr])⟩
set_option maxHeartbeats 1000000 in
theorem index_new (w : World) (A : Option Addr) (n c : Nat) (L : List Tx) (P : Tx → Bool) (hr : RSx w A L) (hn : n = L.length) (hm : n ≤ 1000000)
    (HP : ∀ (W : World) (p : Tx), Below w.heap.size w W → p ∈ L → Calls Tryz.prog 27 #[.string (bs p)] W fun e w' => e = .returned (.bool (P p)) ∧ Below W.heap.size W w') :
    Calls Tryz.prog 82 #[.slice A n c, .func (.func 27) #[] #[]] w (IdxPost w (L.any P)) := by
  have HR := Lib.hid hr
  have HN := Lib.hid hn
  have HPP := Lib.hid HP
  have HA : Hid (L.any P = (L.drop 0).any P) := Lib.hid rfl
  generalize L.any P = F at *
  clear hr hn HP
  go_enter Tryz.func82, Tryz.ntmps82
  go_wp2_with fail
  go_loopg [5, 8] n (fun k s5 s8 wr => ∃ j : Nat, s8 = .int .i64 (j : Int) ∧ j + k = n ∧ Hid (Below w.heap.size w wr) ∧ Hid (F = (L.drop j).any P))
  case atStart => exact ⟨0, rfl, by omega, Lib.hid (Below.refl _ _), HA⟩
  case round =>
    clear HA
    obtain ⟨j, rfl, hj, HB, HA⟩ := hrel
    by_cases hlt : j < n
    · have hlt1 : (j : Int) < (n : Int) := by omega
      obtain ⟨l, hl⟩ : ∃ l, L[j]? = some l := ⟨_, List.getElem?_eq_getElem (by rw [← HN.out]; exact hlt)⟩
      obtain ⟨b, off, rfl, hbl, hc⟩ : ∃ b off, A = some ⟨b, off, none⟩ ∧ b < w.heap.size ∧ w.cell? ⟨b, off + j, none⟩ = some (.string (bs l)) := by
        rcases HR.out with h | ⟨b, off, h1, h2, h3⟩
        · rw [h] at hl; simp at hl
        · exact ⟨b, off, h1, h2, h3 j l hl⟩
      have k0 := (HB.out.cell (p := ⟨b, off + j, none⟩) hbl).trans hc
      have KK := Lib.hid (HPP.out wr l HB.out (List.mem_of_getElem? hl))
      have HD := Lib.hid (HA.out.trans (any_drop hl))
      clear hl hbl hc HA
      generalize P l = pl at *
      cases pl with
      | true =>
        go_wp2_with fail
        refine KK.out.mono ?_
        rintro e w2 ⟨rfl, hb2⟩
        have HB2 := Lib.hid (HB.out.trans (hb2.mono HB.out.size))
        clear hb2
        go_wp2_with fail
        go_ret
        exact ⟨HB2.out, (j : Int), rfl, by rw [HD.out]; simp, by omega⟩
      | false =>
        have HD2 : Hid (F = (L.drop (j + 1)).any P) := Lib.hid (by rw [HD.out]; simp)
        clear HD
        go_wp2_with fail
        refine KK.out.mono ?_
        rintro e w2 ⟨rfl, hb2⟩
        have HB2 := Lib.hid (HB.out.trans (hb2.mono HB.out.size))
        clear hb2
        go_wp2_with fail
        go_roundg (gk - 1)
        case rel => exact ⟨j + 1, by go_num, by omega, HB2, HD2⟩
        case measure => omega
    · have hlt1 : ¬ (j : Int) < (n : Int) := by omega
      have HF : Hid (F = false) := Lib.hid (by rw [HA.out, List.drop_of_length_le (by rw [← HN.out]; omega)]; rfl)
      clear HA
      go_wp2_with fail
      go_ret
      exact ⟨HB.out, -1, rfl, by rw [HF.out]; rfl, by omega⟩
theorem contains_new (w : World) (A : Option Addr) (n c : Nat) (L : List Tx) (P : Tx → Bool) (hr : RSx w A L) (hn : n = L.length) (hm : n ≤ 1000000)
    (HP : ∀ (W : World) (p : Tx), Below w.heap.size w W → p ∈ L → Calls Tryz.prog 27 #[.string (bs p)] W fun e w' => e = .returned (.bool (P p)) ∧ Below W.heap.size W w') :
    Calls Tryz.prog 29 #[.slice A n c, .func (.func 27) #[] #[]] w fun e w' => Below w.heap.size w w' ∧ e = .returned (.bool (L.any P)) := by
  have K := Lib.hid (index_new w A n c L P hr hn hm HP)
  generalize L.any P = F at *
  clear hr hn HP
  go_enter Tryz.func29, Tryz.ntmps29
  go_wp2_with fail
  refine K.out.mono ?_
  rintro e w2 ⟨hb2, r, rfl, hr, hr2⟩
  have HB2 := Lib.hid hb2
  clear hb2
  go_wp2_with fail
  go_ret
  exact ⟨HB2.out, by first | (rw [← hr]; rfl) | (rw [← hr])⟩
end Go.Proofs.YtbpooaicmjkemaaGreatDoor
