/-
  Ranging over a map of entries; the walk of the program's path. Conditions: the lengths.
-/
import Derived.Test.YtbpooaicmjkemaaGreatDoorSfWait
namespace Go.Proofs.YtbpooaicmjkemaaGreatDoor
open Go.RowKit Go.Maps
set_option linter.unusedVariables false
def mkP : Option Nat → Value
  | none => .pointer none
  | some b => .pointer (some ⟨b, 0, none⟩)
theorem inv_mkP (v : Value) (y : DataW Unit × List MemPlace) (h : ptrElem v = some y) : ∃ c, v = mkP c := by
  rcases ptrElem_inv h with ⟨rfl, _⟩ | ⟨b, rfl, _⟩
  · exact ⟨none, rfl⟩
  · exact ⟨some b, rfl⟩
theorem keyS_inv {key : Value} {kl : Lit} (h : keyOf Tryz.prog 9 key = some kl) : ∃ p : Tx, key = stV p ∧ p.length ≤ maxLen ∧ kl = kL p := by
  cases key <;> simp [keyOf, Tryz.underlying9, mapKey] at h
  rename_i s
  refine ⟨s.data.toList, by unfold stV; rw [bs_of], ?_, h.2.symm⟩
  have := h.1
  rw [size_len] at this
  exact this
theorem inv_mkS (key : Value) (kl : Lit) (h : keyOf Tryz.prog 9 key = some kl) : ∃ x, key = stV x := by
  obtain ⟨p, h1, -⟩ := keyS_inv h
  exact ⟨p, h1⟩
theorem stV_inj {p q : Tx} (h : stV p = stV q) : p = q := by unfold stV at h; injection h with h; exact bs_inj h
theorem ptr_at {c : Option Nat} {b : Nat} {D : DataW Unit} {y : DataW Unit × List MemPlace} (hv : ptrElem (mkP c) = some y) (h : y.1 = .lit (.int .i64 (b : Int))) : c = some b := by
  cases c with
  | none =>
    have : y = (.nil, []) := (Option.some.inj hv).symm
    rw [this] at h
    cases h
  | some c =>
    have : y = (.lit (.int .i64 (c : Int)), []) := (Option.some.inj hv).symm
    rw [this] at h
    simp only [DataW.lit.injEq, Lit.int.injEq, true_and] at h
    congr 1
    omega
/-- an entry that a range comes to -/
theorem ent_of {D : DataW Unit} {L : Es} {bl : List Nat} (he : MapE D L bl) (hil : ∀ e ∈ L, e.2 < bl.length) {p : Tx} {c : Option Nat} {kl : Lit} {y : DataW Unit × List MemPlace} (hk : keyOf Tryz.prog 9 (stV p) = some kl) (hh : Maps.has D kl = true) (hv : ptrElem (mkP c) = some y) (hat : ∀ zd, D.atKey kl zd = y.1) :
    ∃ i b, getE L p = some i ∧ bl[i]? = some b ∧ c = some b ∧ kl = kL p ∧ p.length ≤ maxLen := by
  obtain ⟨p', e1, hp, rfl⟩ := keyS_inv hk
  obtain rfl := stV_inj e1
  cases hg : getE L p with
  | none => rw [he.no p hp hg] at hh; cases hh
  | some i =>
    have hi := hil _ (getE_some hg)
    have hb : bl[i]? = some bl[i] := List.getElem?_eq_getElem hi
    have h2 := (he.ya p i _ hp hg hb).2 .nil
    rw [hat .nil] at h2
    exact ⟨i, bl[i], rfl, hb, ptr_at (D := D) hv h2, rfl, hp⟩
theorem infoF : ∃ j, Tryz.prog.info? 75 = some j ∧ j.size ≠ 0 := by
  obtain ⟨i, h1, h2, h3, h4⟩ := info_parts (show (Tryz.prog.info? 75).map (fun i => (i.zero, i.size, i.bytes)) = some (some (.agg #[.slice none 0 0, .slice none 0 0, .slice none 0 0]), 3, 72) by kernel_rfl)
  exact ⟨i, h1, by omega⟩
theorem ptr_same (w : World) (b : Nat) : (binOp .eql 70 (.pointer (some ⟨b, 0, none⟩)) (.pointer (some ⟨b, 0, none⟩))).run Tryz.prog w = .ok (.bool true) w := by
  obtain ⟨j, hj, -⟩ := infoF
  exact run_eql_ptr_same w _ Tryz.underlying70 hj
theorem ptr_other (w : World) {a b : Nat} {ca cb : Array Value} (h : a ≠ b) (ha : Blk w a 75 ca) (hb : Blk w b 75 cb) : (binOp .eql 70 (.pointer (some ⟨a, 0, none⟩)) (.pointer (some ⟨b, 0, none⟩))).run Tryz.prog w = .ok (.bool false) w := by
  obtain ⟨j, hj, hs⟩ := infoF
  exact run_eql_ptr_other w Tryz.underlying70 hj hs (fun e => h (by injection e)) ha hb
theorem path_hit {L : Es} (hj : InjE L) {p : Tx} {n : Nat} (h : (p, n) ∈ L) : pathM L n = p := by
  unfold pathM
  cases hf : L.find? fun e => decide (e.2 = n) with
  | none =>
    have := List.find?_eq_none.1 hf _ h
    simp at this
  | some e =>
    have h1 := List.find?_some hf
    have h2 := List.mem_of_find?_eq_some hf
    simp at h1
    exact hj e.1 p n (by rw [← h1]; exact h2) h
theorem path_miss {L : Es} {n : Nat} (h : ∀ e ∈ L, e.2 ≠ n) : pathM L n = [] := by
  unfold pathM
  rw [List.find?_eq_none.2 fun e he => by simpa using h e he]
/-- different files lie in different blocks -/
theorem bl_inj {z db : Nat} {w : World} {own : Nat → Nat × Nat} {d : Dk} {q : DParts} (h : DRest z w own d q) {i j b : Nat} (hi : q.bl[i]? = some b) (hj : q.bl[j]? = some b) : i = j := by
  have li : i < d.nodes.length := by rw [← h.len]; exact (List.getElem?_eq_some_iff.1 hi).1
  have lj : j < d.nodes.length := by rw [← h.len]; exact (List.getElem?_eq_some_iff.1 hj).1
  have h1 := (h.fs i b _ hi (List.getElem?_eq_getElem li)).mark
  have h2 := (h.fs j b _ hj (List.getElem?_eq_getElem lj)).mark
  rw [h1] at h2
  injection h2
set_option maxRecDepth 100000 in
set_option maxHeartbeats 2000000 in
theorem path_walk {z db i b K : Nat} {w : World} {own : Nat → Nat × Nat} {d : Dk} {q : DParts} (h : DSt z w own db d q) (hw : Wf d K) (hb : q.bl[i]? = some b) :
    Calls Tryz.prog 109 #[ptrV db, ptrV b] w fun e w' => Below w.heap.size w w' ∧ e = .returned (stV (pathM d.now i)) := by
  have k4 : w.cell? ⟨db, 4, none⟩ = some (.map (some q.mn)) := h.blk.cell 4
  have HO := Lib.hid h.rest.on
  have HE := Lib.hid (fun (p : Tx) (c : Option Nat) (kl : Lit) (y : DataW Unit × List MemPlace) => ent_of (p := p) (c := c) (kl := kl) (y := y) h.rest.en (fun e he => by rw [h.rest.len]; exact hw.iln e he))
  have HI := Lib.hid (fun (j : Nat) (hj : q.bl[j]? = some b) => bl_inj (db := db) h.rest hj hb)
  have HB0 := Lib.hid hb
  have HY := Lib.hid (fun (p : Tx) (j : Nat) (hp : getE d.now p = some j) => (path_hit hw.ijn (getE_some hp) : pathM d.now j = p))
  have HAS : Hid (∀ (p : Tx) (j : Nat), (p, j) ∈ d.now → p.length ≤ maxLen ∧ Maps.has q.Dn (kL p) = true) := Lib.hid fun p j hp => by
    have hl : p.length ≤ maxLen := Nat.le_trans (hw.size (hw.mn _ hp)) (by unfold maxLen; omega)
    have hi := hw.iln _ hp
    exact ⟨hl, (h.rest.en.ya p j _ hl ((getE_mem hw.sn).2 hp) (List.getElem?_eq_getElem (by rw [h.rest.len]; exact hi))).1⟩
  have HS := Lib.hid hw.sn
  have HK : Hid (∀ (j b : Nat), q.bl[j]? = some b → ∃ cs, Blk w b 75 cs) := Lib.hid fun j b hb => by
    have lj : j < d.nodes.length := by rw [← h.rest.len]; exact (List.getElem?_eq_some_iff.1 hb).1
    obtain ⟨_, _, _, _, _, _, _, hB, -⟩ := (h.rest.fs j b _ hb (List.getElem?_eq_getElem lj)).ex
    exact ⟨_, hB⟩
  unfold ptrV
  clear h hw hb
  go_enter Tryz.func109, Tryz.ntmps109
  go_wp2_with (at_range; refine wpList_range_own _ rfl _ 65 rfl 9 70 lawS Tryz.underlying65 ptrElem q.mn q.nn q.Dn rfl HO.out ?_; intro w0 hrg0 hg0 hs0)
  go_frame
  have HR0 := Lib.hid hrg0
  have HB0' : Hid (Below w.heap.size w w0) := Lib.hid ⟨hg0.os, hg0.tape, hg0.output, hg0.size, fun k hk => hg0.block k hk (by simp)⟩
  clear hrg0 hg0 hs0 k4
  go_loopg [5, 6, 12] (Maps.size q.Dn) (fun k s5 s6 s12 wr => ∃ (left : Lit → Bool), Hid (wr.ranges Tryz.prog 9 ptrElem q.mn w.heap.size q.nn q.Dn left k) ∧ Hid (Below w.heap.size w wr) ∧ Hid (∀ (p : Tx) (j : Nat), (p, j) ∈ d.now → left (kL p) = false → j ≠ i) ∧ Hid (∀ z, left z = true → Maps.has q.Dn z = true))
  case atStart => exact ⟨Maps.has q.Dn, HR0, HB0', Lib.hid (fun p j hp hl => by rw [(HAS.out p j hp).2] at hl; cases hl), Lib.hid fun z h => h⟩
  case round =>
    obtain ⟨left, HR, HB, HV, HL⟩ := hrel
    clear HR0 HB0'
    go_wp2_with (at_next; refine wpList_next_ranges _ rfl _ rfl 9 lawS ptrElem stV mkP inv_mkS inv_mkP q.mn w.heap.size q.nn q.Dn left gk rfl HR.out ?_ ?_)
    · intro hc0 hl0
      have HM : Hid (pathM d.now i = []) := Lib.hid (path_miss fun e he => HV.out e.1 e.2 he (hl0 _))
      clear hc0 hl0
      go_wp2_with fail
      go_ret
      exact ⟨HB.out, by rw [HM.out]; rfl⟩
    · intro p c kl y1 y2 w1 cnt1 hkey hlk hv hat hrg1 hlt hg1 hs1 hen
      obtain ⟨j, bj, hgj, hbj, rfl, rfl, hpl⟩ := HE.out p c kl (y1, y2) hkey (HL.out _ hlk) hv hat
      have HB1 : Hid (Below w.heap.size w w1) := Lib.hid (HB.out.grown hg1 HB.out.size (fun k hk => by cases hk; exact Nat.le_refl _))
      have HR1 := Lib.hid hrg1
      have HLT := Lib.hid hlt
      dsimp only [mkP] at hen ⊢
      by_cases hji : bj = b
      · subst hji
        have hij := HI.out j hbj
        subst hij
        have HP : Hid (pathM d.now j = p) := Lib.hid (HY.out p j hgj)
        clear hkey hlk hv hat hrg1 hlt hg1 hs1 hgj hbj hpl
        have heq := ptr_same w1 bj
        unfold stV at *
        go_wp2_with fail
        go_ret
        exact ⟨HB1.out, by rw [HP.out]; rfl⟩
      · have hij : ¬ j = i := fun e => hji (by subst e; rw [HB0.out] at hbj; exact (Option.some.inj hbj).symm)
        have HV1 : Hid (∀ (p' : Tx) (j' : Nat), (p', j') ∈ d.now → (left (kL p') && !(kL p').sameKey (kL p)) = false → j' ≠ i) := Lib.hid fun p' j' hp' hl' => by
          rw [Bool.and_eq_false_iff] at hl'
          rcases hl' with hl' | hl'
          · exact HV.out p' j' hp' hl'
          · have hs : (kL p').sameKey (kL p) = true := by simpa using hl'
            have := kL_inj (WideAt.sameKey_eq hs)
            subst this
            rw [(getE_mem HS.out).2 hp'] at hgj
            rw [Option.some.inj hgj]
            exact hij
        have HL1 : Hid (∀ z, (left z && !z.sameKey (kL p)) = true → Maps.has q.Dn z = true) := Lib.hid fun z h => HL.out z (by simp only [Bool.and_eq_true] at h; exact h.1)
        obtain ⟨ca, hca⟩ := HK.out i b HB0.out
        obtain ⟨cb, hcb⟩ := HK.out j bj hbj
        have heq := ptr_other w1 (a := b) (b := bj) (fun e => hji e.symm) ((hca.keep (HB1.out))) (hcb.keep HB1.out)
        clear hkey hlk hv hat hrg1 hlt hg1 hs1 hgj hbj hpl hij hca hcb hji
        unfold stV at *
        go_wp2_with fail
        go_roundg cnt1
        case rel => exact ⟨_, HR1, HB1, HV1, HL1⟩
        case measure => exact HLT.out
end Go.Proofs.YtbpooaicmjkemaaGreatDoor
