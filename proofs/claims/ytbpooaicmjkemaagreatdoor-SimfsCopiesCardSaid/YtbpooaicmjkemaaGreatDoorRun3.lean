/-
  Several texts in one (merge.py): SfMay, SfFind, SfGet. Conditions: each part names its own.
-/
import Derived.Test.YtbpooaicmjkemaaGreatDoorRun2
/-! The walks of strings.Cut at one byte, and of the program's may. Condition: the text's length. -/
namespace Go.Proofs.YtbpooaicmjkemaaGreatDoor
open Go.RowKit Go.Maps
set_option linter.unusedVariables false
theorem idx_slash : ∀ p : Tx, Lib.indexByte p 47 = if hasSlash p = true then (slash p : Int) else -1
  | [] => rfl
  | b :: r => by
    have ih := idx_slash r
    have hge := Lib.indexByte_ge r 47
    unfold Lib.indexByte hasSlash slash
    unfold hasSlash slash at ih
    rw [List.findIdx_cons, List.contains_cons]
    cases hb : b == 47 with
    | true =>
      have : ((47 : UInt8) == b) = true := by rw [beq_iff_eq] at hb ⊢; exact hb.symm
      simp [this]
    | false =>
      have : ((47 : UInt8) == b) = false := by rw [beq_eq_false_iff_ne] at hb ⊢; exact fun e => hb e.symm
      rw [this, Bool.false_or, ih]
      simp only [Bool.false_eq_true, if_false, cond_false]
      split
      · rename_i h
        rw [if_neg (by simp)]
        omega
      · rfl
theorem bs_take (l : Tx) (i : Nat) : (bs l).extract 0 i = bs (l.take i) := by rw [bs_extract]; simp
theorem bs_drop (l : Tx) (i : Nat) : (bs l).extract i (bs l).size = bs (l.drop i) := by
  rw [bs_extract, bs_size, List.take_of_length_le (by simp)]
theorem cut_walk0 (p : Tx) (w : World) (hp : p.length ≤ maxLen) :
    Calls Tryz.prog 120 #[.string (bs p), .string ⟨#[47]⟩] w fun e w' => e = .returned (.tuple #[.string (bs (if hasSlash p = true then dirOf p else p)), .string (bs (nameOf p)), .bool (hasSlash p)]) ∧ ∃ n, w' = w.drewN n := by
  unfold maxLen at hp
  have K := fun w => Tryz.stringslite_Index_one (bs p) 47 w
  rw [bs_list, idx_slash] at K
  have hsz := bs_size p
  cases hs : hasSlash p with
  | true =>
    have hl := slash_lt hs
    have ed : dirOf p = p.take (slash p) := by unfold dirOf; rw [if_pos hs]
    have en : nameOf p = p.drop (slash p + 1) := by unfold nameOf; rw [if_pos hs]
    rw [hs, if_pos rfl] at K
    rw [if_pos rfl, ed, en]
    have HT := Lib.hid (bs_take p (slash p))
    have HD := Lib.hid (bs_drop p (slash p + 1))
    have HK := Lib.hid K
    have h1 : (slash p : Int) ≤ ((bs p).size : Int) := by rw [hsz]; omega
    have h2 : (slash p : Int) + 1 ≤ ((bs p).size : Int) := by rw [hsz]; omega
    have h3 : ((bs p).size : Int) ≤ 9223372036854775807 := by rw [hsz]; omega
    clear K ed en hl hs hsz hp
    generalize slash p = k at *
    go_enter Tryz.func120, Tryz.ntmps120
    go_wp2_with fail
    refine (HK.out _).mono ?_
    rintro e w1 ⟨rfl, rfl⟩
    go_wp2_with fail
    go_quiet (fail)
    go_wp2
    go_ret3
    exact ⟨by rw [HT.out, HD.out]; rfl, _, rfl⟩
  | false =>
    have en : nameOf p = [] := by unfold nameOf; rw [if_neg (by rw [hs]; decide)]
    rw [hs, if_neg (by decide)] at K
    rw [if_neg (by decide), en]
    have HK := Lib.hid K
    clear K en hs hsz hp
    go_enter Tryz.func120, Tryz.ntmps120
    go_wp2_with fail
    refine (HK.out _).mono ?_
    rintro e w1 ⟨rfl, rfl⟩
    go_wp2_with fail
    go_ret3
    exact ⟨rfl, 0, rfl⟩
theorem cut_walk (p : Tx) (w : World) (hp : p.length ≤ maxLen) :
    Calls Tryz.prog 83 #[.string (bs p), .string ⟨#[47]⟩] w fun e w' => e = .returned (.tuple #[.string (bs (if hasSlash p = true then dirOf p else p)), .string (bs (nameOf p)), .bool (hasSlash p)]) ∧ ∃ n, w' = w.drewN n := by
  have HK := Lib.hid (cut_walk0 p w hp)
  generalize bs (if hasSlash p = true then dirOf p else p) = s1 at *
  generalize bs (nameOf p) = s2 at *
  generalize hasSlash p = s3 at *
  go_enter Tryz.func83, Tryz.ntmps83
  go_wp2_with fail
  refine HK.out.mono ?_
  rintro e w1 ⟨rfl, n, rfl⟩
  go_wp2_with fail
  go_ret3
  exact ⟨rfl, n, rfl⟩
/-- a slice's address reads as strings -/
def RSx (w : World) (A : Option Addr) (L : List Tx) : Prop := L = [] ∨ ∃ b off, A = some ⟨b, off, none⟩ ∧ b < w.heap.size ∧ ∀ i l, L[i]? = some l → w.cell? ⟨b, off + i, none⟩ = some (.string (bs l))
theorem RSx.below {w w' : World} {A : Option Addr} {L : List Tx} (h : RSx w A L) (hb : Below w.heap.size w w') : RSx w' A L := by
  rcases h with h | ⟨b, off, rfl, hl, hc⟩
  · exact .inl h
  · exact .inr ⟨b, off, rfl, Nat.lt_of_lt_of_le hl hb.size, fun i l hi => (hb.cell (p := ⟨b, off + i, none⟩) hl).trans (hc i l hi)⟩
theorem FzS.sx {w : World} {own : Nat → Nat × Nat} {v : Value} {L : List Tx} (h : FzS w own v L) : ∃ A c, v = .slice A L.length c ∧ L.length ≤ c ∧ c ≤ maxLen ∧ RSx w A L := by
  obtain ⟨A, c, h1, h2, h3, h4⟩ := h
  refine ⟨A, c, h1, h2, h3, ?_⟩
  rcases h4 with h4 | ⟨b, off, rfl, -, hb, hc⟩
  · exact .inl h4
  · exact .inr ⟨b, off, rfl, hb, hc⟩
theorem containsS_bs (L : List Tx) (x : Tx) : Lib.containsS (L.map bs) (bs x) = L.contains x := by
  rw [Bool.eq_iff_iff, Lib.containsS_iff, List.contains_iff_mem]
  constructor
  · intro h
    obtain ⟨y, hy, e⟩ := List.mem_map.1 h
    rw [← bs_inj e]; exact hy
  · exact fun h => List.mem_map.2 ⟨x, h, rfl⟩
theorem contains_walk (w : World) (A : Option Addr) (n c : Nat) (L : List Tx) (x : Tx) (h : RSx w A L) (hn : n = L.length) (hm : n ≤ 9223372036854775807) :
    Calls Tryz.prog 38 #[.slice A n c, .string (bs x)] w fun e w' => e = .returned (.bool (L.contains x)) ∧ w' = w := by
  subst hn
  rcases h with rfl | ⟨b, off, rfl, hb, hc⟩
  · exact Tryz.slices_Contains_string_empty A c (bs x) w
  · have h := Tryz.slices_Contains_string b off L.length c (L.map bs) (bs x) w (by simp) hm (fun j hj => by
      rw [List.length_map] at hj
      rw [hc j _ (List.getElem?_eq_getElem hj), List.getD_eq_getElem?_getD, List.getElem?_map, List.getElem?_eq_getElem hj]
      rfl)
    rw [List.take_of_length_le (by simp), containsS_bs] at h
    exact h
theorem may_cut (dirs : List Tx) (p : Tx) : mayB dirs p = (hasSlash p && (dirs.contains (dirOf p) && nameB (nameOf p))) := by
  unfold mayB
  cases h : hasSlash p with
  | true => rfl
  | false =>
    have en : nameOf p = [] := by unfold nameOf; rw [if_neg (by rw [h]; decide)]
    rw [en]
    simp [nameB]
theorem dirOf_le (p : Tx) : (dirOf p).length ≤ p.length := by
  unfold dirOf
  split
  · rw [List.length_take]; omega
  · simp
theorem nameOf_le (p : Tx) : (nameOf p).length ≤ p.length := by
  unfold nameOf
  split
  · rw [List.length_drop]; omega
  · simp
theorem may_walk (w : World) (db : Nat) (A : Option Addr) (n c : Nat) (dirs : List Tx) (hB : w.cell? ⟨db, 2, none⟩ = some (.slice A n c)) (hn : n = dirs.length) (hm : n ≤ c ∧ c ≤ maxLen) (hr : RSx w A dirs) (p : Tx) (hp : p.length ≤ maxLen) :
    Calls Tryz.prog 32 #[ptrV db, .string (bs p)] w fun e w' => e = .returned (.bool (mayB dirs p)) ∧ Below w.heap.size w w' := by
  have KC := Lib.hid (cut_walk p w hp)
  have KD := Lib.hid (fun k => contains_walk (w.drewN k) A n c dirs (dirOf p) hr hn (by unfold maxLen at hm; omega))
  have KN := Lib.hid (fun k => named_walk (nameOf p) (w.drewN k) (Nat.le_trans (nameOf_le p) hp))
  have k2 := fun k => show (w.drewN k).cell? ⟨db, 2, none⟩ = some (.slice A n c) from hB
  rw [may_cut]
  unfold ptrV
  clear hB hn hr hm hp
  generalize dirs.contains (dirOf p) = s1 at *
  generalize nameB (nameOf p) = s3 at *
  cases hs : hasSlash p with
  | false =>
    rw [hs, if_neg (by decide)] at KC
    rw [Bool.false_and]
    clear hs KD KN
    go_enter Tryz.func32, Tryz.ntmps32
    go_wp2_with fail
    refine KC.out.mono ?_
    rintro e w1 ⟨rfl, nd, rfl⟩
    go_wp2_with fail
    go_ret
    exact ⟨rfl, bdrewN (Below.refl _ _) nd⟩
  | true =>
    rw [hs, if_pos rfl] at KC
    rw [Bool.true_and]
    clear hs
    generalize dirOf p = d1 at *
    generalize nameOf p = n1 at *
    cases s1 with
    | false =>
      rw [Bool.false_and]
      clear KN
      go_enter Tryz.func32, Tryz.ntmps32
      go_wp2_with fail
      refine KC.out.mono ?_
      rintro e w1 ⟨rfl, nd, rfl⟩
      go_wp2_with fail
      refine (KD.out nd).mono ?_
      rintro e w1 ⟨rfl, rfl⟩
      go_wp2_with fail
      go_ret
      exact ⟨rfl, bdrewN (Below.refl _ _) nd⟩
    | true =>
      rw [Bool.true_and]
      go_enter Tryz.func32, Tryz.ntmps32
      go_wp2_with fail
      refine KC.out.mono ?_
      rintro e w1 ⟨rfl, nd, rfl⟩
      go_wp2_with fail
      refine (KD.out nd).mono ?_
      rintro e w1 ⟨rfl, rfl⟩
      go_wp2_with fail
      refine (KN.out nd).mono ?_
      rintro e w1 ⟨rfl, hb⟩
      have HB := Lib.hid hb
      clear hb
      go_wp2_with fail
      go_ret
      exact ⟨rfl, (bdrewN (Below.refl _ _) nd).trans HB.out⟩
end Go.Proofs.YtbpooaicmjkemaaGreatDoor

/-! The walk of the program's find; looking into a map of entries. Conditions: the sizes. -/
namespace Go.Proofs.YtbpooaicmjkemaaGreatDoor
open Go.RowKit Go.Maps
set_option linter.unusedVariables false
theorem drewN0 (w : World) : w.drewN 0 = w := rfl
section
variable {w : World} {mb n : Nat} {D : DataW Unit} {L : Es} {bl : List Nat} {p : Tx}
/-- 'v, ok := m[k]' where the path is -/
theorem look_yes (h : w.ownsMap Tryz.prog 9 ptrElem mb n D) (he : MapE D L bl) (hp : p.length ≤ maxLen) {i b : Nat} (hi : getE L p = some i) (hb : bl[i]? = some b) (k : Nat) :
    (Instr.lookup 65 (.map (some mb)) (.string (bs p)) true).run Tryz.prog (w.drewN k) = .ok (.tuple #[.pointer (some ⟨b, 0, none⟩), .bool true]) (w.drewN k) := by
  have h' : (w.drewN k).ownsMap Tryz.prog 9 ptrElem mb n D := h
  obtain ⟨v, ps, hrun, hv⟩ := h'.look_ok lawS Tryz.underlying65 (zeroF _) (zd := .nil) (zp := []) rfl (keyS hp)
  obtain ⟨h1, h2⟩ := he.ya p i b hp hi hb
  rw [h2] at hv
  rw [hrun, h1]
  rcases ptrElem_inv hv with ⟨_, h3⟩ | ⟨b', rfl, h3⟩
  · cases h3
  · simp only [DataW.lit.injEq, Lit.int.injEq, true_and] at h3
    obtain rfl : b' = b := by omega
    rfl
/-- 'v, ok := m[k]' where the path is not -/
theorem look_no (h : w.ownsMap Tryz.prog 9 ptrElem mb n D) (he : MapE D L bl) (hp : p.length ≤ maxLen) (hi : getE L p = none) (k : Nat) :
    (Instr.lookup 65 (.map (some mb)) (.string (bs p)) true).run Tryz.prog (w.drewN k) = .ok (.tuple #[.pointer none, .bool false]) (w.drewN k) := by
  have h' : (w.drewN k).ownsMap Tryz.prog 9 ptrElem mb n D := h
  obtain ⟨v, ps, hrun, hv⟩ := h'.look_ok lawS Tryz.underlying65 (zeroF _) (zd := .nil) (zp := []) rfl (keyS hp)
  have h1 := he.no p hp hi
  rw [Maps.atKey_of_not_has h1] at hv
  rw [hrun, h1]
  rcases ptrElem_inv hv with ⟨rfl, _⟩ | ⟨b, rfl, h3⟩
  · rfl
  · cases h3
/-- 'm[k]' where the path is -/
theorem look1_yes (h : w.ownsMap Tryz.prog 9 ptrElem mb n D) (he : MapE D L bl) (hp : p.length ≤ maxLen) {i b : Nat} (hi : getE L p = some i) (hb : bl[i]? = some b) (k : Nat) :
    (Instr.lookup 65 (.map (some mb)) (.string (bs p)) false).run Tryz.prog (w.drewN k) = .ok (.pointer (some ⟨b, 0, none⟩)) (w.drewN k) := by
  have h' : (w.drewN k).ownsMap Tryz.prog 9 ptrElem mb n D := h
  obtain ⟨v, ps, hrun, hv⟩ := h'.lookup lawS Tryz.underlying65 (zeroF _) (zd := .nil) (zp := []) rfl (keyS hp)
  obtain ⟨h1, h2⟩ := he.ya p i b hp hi hb
  rw [h2] at hv
  rw [hrun]
  rcases ptrElem_inv hv with ⟨_, h3⟩ | ⟨b', rfl, h3⟩
  · cases h3
  · simp only [DataW.lit.injEq, Lit.int.injEq, true_and] at h3
    obtain rfl : b' = b := by omega
    rfl
end
/-- what find answers -/
def findV (d : Dk) (bl : List Nat) (p : Tx) : Value := if missM d p = 0 then .pointer ((bl[fileM d p]?).map fun b => ⟨b, 0, none⟩) else .pointer none
theorem found_at {z db K : Nat} {w : World} {own : Nat → Nat × Nat} {d : Dk} {q : DParts} (h : DSt z w own db d q) (hw : Wf d K) {p : Tx} (hm : missM d p = 0) : ∃ i b x, getE d.now p = some i ∧ fileM d p = i ∧ q.bl[i]? = some b ∧ d.nodes[i]? = some x ∧ nodeM d i = x ∧ d.off = false ∧ FSt z w own i b x := by
  unfold missM at hm
  split at hm
  · cases hm
  · rename_i ho
    split at hm
    · cases hm
    · rename_i hg
      obtain ⟨i, hi⟩ := Option.ne_none_iff_exists'.1 hg
      have hl := hw.iln _ (getE_some hi)
      have hx : d.nodes[i]? = some d.nodes[i] := List.getElem?_eq_getElem hl
      have hb : q.bl[i]? = some (q.bl[i]'(by rw [h.rest.len]; exact hl)) := List.getElem?_eq_getElem _
      exact ⟨i, _, _, hi, by unfold fileM; rw [hi]; rfl, hb, hx, by unfold nodeM; rw [List.getD_eq_getElem?_getD, hx]; rfl, by simpa using ho, h.rest.fs i _ _ hb hx⟩
theorem find_walk (z : Nat) (w : World) (own : Nat → Nat × Nat) (db : Nat) (d : Dk) (q : DParts) (h : DSt z w own db d q) {K : Nat} (hw : Wf d K) (p : Tx) (hp : p.length ≤ maxLen) :
    Calls Tryz.prog 35 #[ptrV db, .string (bs p)] w fun e w' => e = .returned (.tuple #[findV d q.bl p, .int .i64 (missM d p)]) ∧ w' = w := by
  have k7 : w.cell? ⟨db, 7, none⟩ = some (.bool d.off) := h.blk.cell 7
  have k4 : w.cell? ⟨db, 4, none⟩ = some (.map (some q.mn)) := h.blk.cell 4
  unfold ptrV
  cases ho : d.off with
  | true =>
    have e1 : missM d p = 10 := by unfold missM; rw [if_pos ho]
    have e2 : findV d q.bl p = .pointer none := by unfold findV; rw [e1]; rfl
    rw [ho] at k7
    rw [e1, e2]
    clear h hw hp ho e1 e2
    go_enter Tryz.func35, Tryz.ntmps35
    go_wp2
    go_ret2
    exact ⟨rfl, rfl⟩
  | false =>
    rw [ho] at k7
    cases hg : getE d.now p with
    | none =>
      have e1 : missM d p = 12 := by unfold missM; rw [if_neg (by rw [ho]; decide), if_pos hg]
      have e2 : findV d q.bl p = .pointer none := by unfold findV; rw [e1]; rfl
      have hL := look_no h.rest.on h.rest.en hp hg 0
      rw [drewN0] at hL
      rw [e1, e2]
      clear h hw hp ho e1 e2 hg
      go_enter Tryz.func35, Tryz.ntmps35
      go_wp2
      go_ret2
      exact ⟨rfl, rfl⟩
    | some i =>
      have e1 : missM d p = 0 := by unfold missM; rw [if_neg (by rw [ho]; decide), if_neg (by rw [hg]; simp)]
      obtain ⟨i', b, x, e3, e4, hb, -⟩ := found_at h hw e1
      rw [hg] at e3
      obtain rfl := Option.some.inj e3
      have e2 : findV d q.bl p = .pointer (some ⟨b, 0, none⟩) := by unfold findV; rw [if_pos e1, e4, hb]; rfl
      have hL := look_yes h.rest.on h.rest.en hp hg hb 0
      rw [drewN0] at hL
      rw [e1, e2]
      clear h hw hp ho e1 e2 hg e3 e4 hb
      go_enter Tryz.func35, Tryz.ntmps35
      go_wp2
      go_ret2
      exact ⟨rfl, rfl⟩
end Go.Proofs.YtbpooaicmjkemaaGreatDoor

/-! The walks of the program's Used, Count, Off, Len, Fail, Arm. Conditions: the sizes. -/
namespace Go.Proofs.YtbpooaicmjkemaaGreatDoor
open Go.RowKit Go.Maps
set_option linter.unusedVariables false
section
variable {z : Nat} {w : World} {own : Nat → Nat × Nat} {db : Nat} {d : Dk} {q : DParts}
theorem used_walk (h : DSt z w own db d q) : Calls Tryz.prog 63 #[ptrV db] w fun e w' => e = .returned (.int .i64 (if d.off = true then 0 else (usedM d : Int))) ∧ w' = w := by
  have k7 : w.cell? ⟨db, 7, none⟩ = some (.bool d.off) := h.blk.cell 7
  have k1 : w.cell? ⟨db, 1, none⟩ = some (.int .i64 (usedM d : Int)) := h.blk.cell 1
  unfold ptrV
  generalize usedM d = u at *
  clear h
  cases ho : d.off with
  | true =>
    rw [ho] at k7
    rw [if_pos rfl]
    clear ho
    go_enter Tryz.func63, Tryz.ntmps63
    go_wp2
    go_ret
    exact ⟨rfl, rfl⟩
  | false =>
    rw [ho] at k7
    rw [if_neg (by decide)]
    clear ho
    go_enter Tryz.func63, Tryz.ntmps63
    go_wp2
    go_ret
    exact ⟨rfl, rfl⟩
theorem count_walk (h : DSt z w own db d q) : Calls Tryz.prog 65 #[ptrV db] w fun e w' => e = .returned (.int .i64 d.done) ∧ w' = w := by
  have k8 : w.cell? ⟨db, 8, none⟩ = some (.int .i64 d.done) := h.blk.cell 8
  unfold ptrV
  generalize d.done = u at *
  clear h
  go_enter Tryz.func65, Tryz.ntmps65
  go_wp2
  go_ret
  exact ⟨rfl, rfl⟩
theorem off_walk (h : DSt z w own db d q) : Calls Tryz.prog 67 #[ptrV db] w fun e w' => e = .returned (.bool d.off) ∧ w' = w := by
  have k7 : w.cell? ⟨db, 7, none⟩ = some (.bool d.off) := h.blk.cell 7
  unfold ptrV
  generalize d.off = u at *
  clear h
  go_enter Tryz.func67, Tryz.ntmps67
  go_wp2
  go_ret
  exact ⟨rfl, rfl⟩
def lenM (d : Dk) (p : Tx) : Nat := if missM d p = 0 then (nodeM d (fileM d p)).now.length else 0
theorem len_walk (h : DSt z w own db d q) {K : Nat} (hw : Wf d K) (p : Tx) (hp : p.length ≤ maxLen) : Calls Tryz.prog 15 #[ptrV db, .string (bs p)] w fun e w' => e = .returned (.tuple #[.int .i64 (lenM d p : Int), .bool (missM d p == 0)]) ∧ w' = w := by
  have KF := Lib.hid (find_walk z w own db d q h hw p hp)
  by_cases hm : missM d p = 0
  · obtain ⟨i, b, x, e3, e4, hb, hx, hn, -, hF⟩ := found_at h hw hm
    obtain ⟨-, vn, gn, vl, gl, vw, gw, vs, hB, hO, -⟩ := hF
    obtain ⟨A, c, rfl, -⟩ := hO
    have k0 : w.cell? ⟨b, 0, none⟩ = some (.slice A x.now.length c) := hB.cell 0
    have e2 : findV d q.bl p = .pointer (some ⟨b, 0, none⟩) := by unfold findV; rw [if_pos hm, e4, hb]; rfl
    have e5 : lenM d p = x.now.length := by unfold lenM; rw [if_pos hm, e4, hn]
    rw [e2, hm] at KF
    rw [e5, hm]
    clear h hw hp hm e2 e3 e4 e5 hb hx hn hB
    generalize x.now.length = n at *
    unfold ptrV at *
    go_enter Tryz.func15, Tryz.ntmps15
    go_wp2_with fail
    refine KF.out.mono ?_
    rintro e w1 ⟨rfl, rfl⟩
    go_wp2_with fail
    go_ret2
    exact ⟨rfl, rfl⟩
  · have e2 : findV d q.bl p = .pointer none := by unfold findV; rw [if_neg hm]
    have e5 : lenM d p = 0 := by unfold lenM; rw [if_neg hm]
    have hm1 : (missM d p == 0) = false := by simpa using hm
    have hm2 : (missM d p != 0) = true := by simpa using hm
    rw [e2] at KF
    rw [e5, hm1]
    clear h hw hp e2 e5 hm
    generalize missM d p = m at *
    unfold ptrV at *
    go_enter Tryz.func15, Tryz.ntmps15
    go_wp2_with fail
    refine KF.out.mono ?_
    rintro e w1 ⟨rfl, rfl⟩
    go_wp2_with fail
    go_ret2
    exact ⟨rfl, rfl⟩
set_option maxHeartbeats 1000000 in
theorem fail_walk (h : DSt z w own db d q) (n e0 : Int) (hn : n ≤ 9223372036854775807) : Calls Tryz.prog 59 #[ptrV db, .int .i64 n, .int .i64 e0] w (SwPost z w own db q (failM d n e0)) := by
  have k7 : w.cell? ⟨db, 7, none⟩ = some (.bool d.off) := h.blk.cell 7
  have k10 : w.cell? ⟨db, 10, none⟩ = some (.int .i64 (d.fail : Int)) := h.blk.cell 10
  have k11 : w.cell? ⟨db, 11, none⟩ = some (.int .i64 d.failed) := h.blk.cell 11
  have f10 := h.blk.frozen 10
  have f11 := h.blk.frozen 11
  have H := Lib.hid h
  unfold ptrV
  cases ho : d.off with
  | true =>
    have E : Hid (failM d n e0 = (d, 10)) := Lib.hid (by unfold failM; rw [if_pos ho])
    rw [ho] at k7
    clear ho h
    go_enter Tryz.func59, Tryz.ntmps59
    go_wp2
    go_ret
    unfold SwPost
    rw [E.out]
    exact ⟨H.out, Only.refl _, rfl⟩
  | false =>
    rw [ho] at k7
    by_cases hb : n < 0 ∨ (e0 ≠ 16 ∧ e0 ≠ 15)
    · have E : Hid (failM d n e0 = (d, 1)) := Lib.hid (by unfold failM; rw [if_neg (by rw [ho]; decide), if_pos hb])
      clear ho h
      by_cases h0 : n < 0
      · have h1 : decide (n < 0) = true := decide_eq_true h0
        clear hb
        go_enter Tryz.func59, Tryz.ntmps59
        go_wp2
        all_goals
          go_ret
          unfold SwPost
          rw [E.out]
          exact ⟨H.out, Only.refl _, rfl⟩
      · have h1 : decide (n < 0) = false := decide_eq_false h0
        have h2 : (e0 != 16) = true := by simpa using (hb.resolve_left h0).1
        have h3 : (e0 != 15) = true := by simpa using (hb.resolve_left h0).2
        clear hb
        go_enter Tryz.func59, Tryz.ntmps59
        go_wp2
        all_goals
          go_ret
          unfold SwPost
          rw [E.out]
          exact ⟨H.out, Only.refl _, rfl⟩
    · have h0 : ¬ n < 0 := fun h => hb (.inl h)
      have E : Hid (failM d n e0 = ({ d with fail := n.toNat, failed := e0 }, 0)) := Lib.hid (by unfold failM; rw [if_neg (by rw [ho]; decide), if_neg hb])
      have h1 : decide (n < 0) = false := decide_eq_false h0
      obtain ⟨m, rfl⟩ : ∃ m : Nat, n = (m : Int) := ⟨n.toNat, by omega⟩
      rw [show ((m : Int)).toNat = m by omega] at E
      have hd : SameD d { d with fail := m, failed := e0 } := ⟨rfl, rfl, rfl, rfl, rfl, rfl⟩
      by_cases h6 : e0 = 16
      · subst h6
        clear ho h hb
        go_enter Tryz.func59, Tryz.ntmps59
        go_wp2
        all_goals
          go_ret
          unfold SwPost
          rw [E.out]
          have hb := ((show Blk w db _ _ from H.out.blk).set_ 10 (.int .i64 (m : Int))).set_ 11 (.int .i64 16)
          have hn := ((Only.refl (g := db) w).set_ 10 (.int .i64 (m : Int))).set_ 11 (.int .i64 16)
          exact ⟨H.out.switch hn hb hd, hn, rfl⟩
      · have h5 : e0 = 15 := by
          rcases Int.lt_trichotomy e0 15 with h | h | h
          · exact absurd (.inr ⟨h6, by omega⟩) hb
          · exact h
          · exact absurd (.inr ⟨h6, by omega⟩) hb
        subst h5
        clear ho h hb h6
        go_enter Tryz.func59, Tryz.ntmps59
        go_wp2
        all_goals
          go_ret
          unfold SwPost
          rw [E.out]
          have hb := ((show Blk w db _ _ from H.out.blk).set_ 10 (.int .i64 (m : Int))).set_ 11 (.int .i64 15)
          have hn := ((Only.refl (g := db) w).set_ 10 (.int .i64 (m : Int))).set_ 11 (.int .i64 15)
          exact ⟨H.out.switch hn hb hd, hn, rfl⟩
theorem arm_walk (h : DSt z w own db d q) (n : Int) (hn : n ≤ 9223372036854775807) : Calls Tryz.prog 60 #[ptrV db, .int .i64 n] w (SwPost z w own db q (armM d n)) := by
  have k7 : w.cell? ⟨db, 7, none⟩ = some (.bool d.off) := h.blk.cell 7
  have k9 : w.cell? ⟨db, 9, none⟩ = some (.int .i64 (d.arm : Int)) := h.blk.cell 9
  have f9 := h.blk.frozen 9
  have H := Lib.hid h
  unfold ptrV
  cases ho : d.off with
  | true =>
    have E : Hid (armM d n = (d, 10)) := Lib.hid (by unfold armM; rw [if_pos ho])
    rw [ho] at k7
    clear ho h
    go_enter Tryz.func60, Tryz.ntmps60
    go_wp2
    go_ret
    unfold SwPost
    rw [E.out]
    exact ⟨H.out, Only.refl _, rfl⟩
  | false =>
    rw [ho] at k7
    by_cases h0 : n < 0
    · have E : Hid (armM d n = (d, 1)) := Lib.hid (by unfold armM; rw [if_neg (by rw [ho]; decide), if_pos h0])
      clear ho h
      go_enter Tryz.func60, Tryz.ntmps60
      go_wp2
      go_ret
      unfold SwPost
      rw [E.out]
      exact ⟨H.out, Only.refl _, rfl⟩
    · have E : Hid (armM d n = ({ d with arm := n.toNat }, 0)) := Lib.hid (by unfold armM; rw [if_neg (by rw [ho]; decide), if_neg h0])
      obtain ⟨m, rfl⟩ : ∃ m : Nat, n = (m : Int) := ⟨n.toNat, by omega⟩
      rw [show ((m : Int)).toNat = m by omega] at E
      have hd : SameD d { d with arm := m } := ⟨rfl, rfl, rfl, rfl, rfl, rfl⟩
      clear ho h
      go_enter Tryz.func60, Tryz.ntmps60
      go_wp2
      all_goals
        go_ret
        unfold SwPost
        rw [E.out]
        have hb := (show Blk w db _ _ from H.out.blk).set_ 9 (.int .i64 (m : Int))
        have hn := (Only.refl (g := db) w).set_ 9 (.int .i64 (m : Int))
        exact ⟨H.out.switch hn hb hd, hn, rfl⟩
end
end Go.Proofs.YtbpooaicmjkemaaGreatDoor
