/-
  The walk of the program's find; looking into a map of entries. Conditions: the sizes.
-/
import Derived.Test.YtbpooaicmjkemaaDoorSfMay
namespace Go.Proofs.YtbpooaicmjkemaaDoor
open Go.RowKit Go.Maps
set_option linter.unusedVariables false
theorem drewN0 (w : World) : w.drewN 0 = w := rfl
section
variable {w : World} {mb n : Nat} {D : DataW Unit} {L : Es} {bl : List Nat} {p : Tx}
/-- 'v, ok := m[k]' where the path is -/
theorem look_yes (h : w.ownsMap Tryd.prog 9 ptrElem mb n D) (he : MapE D L bl) (hp : p.length ≤ maxLen) {i b : Nat} (hi : getE L p = some i) (hb : bl[i]? = some b) (k : Nat) :
    (Instr.lookup 52 (.map (some mb)) (.string (bs p)) true).run Tryd.prog (w.drewN k) = .ok (.tuple #[.pointer (some ⟨b, 0, none⟩), .bool true]) (w.drewN k) := by
  have h' : (w.drewN k).ownsMap Tryd.prog 9 ptrElem mb n D := h
  obtain ⟨v, ps, hrun, hv⟩ := h'.look_ok lawS Tryd.underlying52 (zeroF _) (zd := .nil) (zp := []) rfl (keyS hp)
  obtain ⟨h1, h2⟩ := he.ya p i b hp hi hb
  rw [h2] at hv
  rw [hrun, h1]
  rcases ptrElem_inv hv with ⟨_, h3⟩ | ⟨b', rfl, h3⟩
  · cases h3
  · simp only [DataW.lit.injEq, Lit.int.injEq, true_and] at h3
    obtain rfl : b' = b := by omega
    rfl
/-- 'v, ok := m[k]' where the path is not -/
theorem look_no (h : w.ownsMap Tryd.prog 9 ptrElem mb n D) (he : MapE D L bl) (hp : p.length ≤ maxLen) (hi : getE L p = none) (k : Nat) :
    (Instr.lookup 52 (.map (some mb)) (.string (bs p)) true).run Tryd.prog (w.drewN k) = .ok (.tuple #[.pointer none, .bool false]) (w.drewN k) := by
  have h' : (w.drewN k).ownsMap Tryd.prog 9 ptrElem mb n D := h
  obtain ⟨v, ps, hrun, hv⟩ := h'.look_ok lawS Tryd.underlying52 (zeroF _) (zd := .nil) (zp := []) rfl (keyS hp)
  have h1 := he.no p hp hi
  rw [Maps.atKey_of_not_has h1] at hv
  rw [hrun, h1]
  rcases ptrElem_inv hv with ⟨rfl, _⟩ | ⟨b, rfl, h3⟩
  · rfl
  · cases h3
/-- 'm[k]' where the path is -/
theorem look1_yes (h : w.ownsMap Tryd.prog 9 ptrElem mb n D) (he : MapE D L bl) (hp : p.length ≤ maxLen) {i b : Nat} (hi : getE L p = some i) (hb : bl[i]? = some b) (k : Nat) :
    (Instr.lookup 52 (.map (some mb)) (.string (bs p)) false).run Tryd.prog (w.drewN k) = .ok (.pointer (some ⟨b, 0, none⟩)) (w.drewN k) := by
  have h' : (w.drewN k).ownsMap Tryd.prog 9 ptrElem mb n D := h
  obtain ⟨v, ps, hrun, hv⟩ := h'.lookup lawS Tryd.underlying52 (zeroF _) (zd := .nil) (zp := []) rfl (keyS hp)
  obtain ⟨h1, h2⟩ := he.ya p i b hp hi hb
  rw [h2] at hv
  rw [hrun]
  rcases ptrElem_inv hv with ⟨_, h3⟩ | ⟨b', rfl, h3⟩
  · cases h3
  · simp only [DataW.lit.injEq, Lit.int.injEq, true_and] at h3
    obtain rfl : b' = b := by omega
    rfl
end
/-- what find answers -/
def findV (d : Dk) (bl : List Nat) (p : Tx) : Value := if missM d p = 0 then .pointer ((bl[fileM d p]?).map fun b => ⟨b, 0, none⟩) else .pointer none
theorem found_at {z db K : Nat} {w : World} {own : Nat → Nat × Nat} {d : Dk} {q : DParts} (h : DSt z w own db d q) (hw : Wf d K) {p : Tx} (hm : missM d p = 0) : ∃ i b x, getE d.now p = some i ∧ fileM d p = i ∧ q.bl[i]? = some b ∧ d.nodes[i]? = some x ∧ nodeM d i = x ∧ d.off = false ∧ FSt z w own i b x := by
  unfold missM at hm
  split at hm
  · cases hm
  · rename_i ho
    split at hm
    · cases hm
    · rename_i hg
      obtain ⟨i, hi⟩ := Option.ne_none_iff_exists'.1 hg
      have hl := hw.iln _ (getE_some hi)
      have hx : d.nodes[i]? = some d.nodes[i] := List.getElem?_eq_getElem hl
      have hb : q.bl[i]? = some (q.bl[i]'(by rw [h.rest.len]; exact hl)) := List.getElem?_eq_getElem _
      exact ⟨i, _, _, hi, by unfold fileM; rw [hi]; rfl, hb, hx, by unfold nodeM; rw [List.getD_eq_getElem?_getD, hx]; rfl, by simpa using ho, h.rest.fs i _ _ hb hx⟩
theorem find_walk (z : Nat) (w : World) (own : Nat → Nat × Nat) (db : Nat) (d : Dk) (q : DParts) (h : DSt z w own db d q) {K : Nat} (hw : Wf d K) (p : Tx) (hp : p.length ≤ maxLen) :
    Calls Tryd.prog 26 #[ptrV db, .string (bs p)] w fun e w' => e = .returned (.tuple #[findV d q.bl p, .int .i64 (missM d p)]) ∧ w' = w := by
  have k7 : w.cell? ⟨db, 7, none⟩ = some (.bool d.off) := h.blk.cell 7
  have k4 : w.cell? ⟨db, 4, none⟩ = some (.map (some q.mn)) := h.blk.cell 4
  unfold ptrV
  cases ho : d.off with
  | true =>
    have e1 : missM d p = 10 := by unfold missM; rw [if_pos ho]
    have e2 : findV d q.bl p = .pointer none := by unfold findV; rw [e1]; rfl
    rw [ho] at k7
    rw [e1, e2]
    clear h hw hp ho e1 e2
    go_enter Tryd.func26, Tryd.ntmps26
    go_wp2
    go_ret2
    exact ⟨rfl, rfl⟩
  | false =>
    rw [ho] at k7
    cases hg : getE d.now p with
    | none =>
      have e1 : missM d p = 12 := by unfold missM; rw [if_neg (by rw [ho]; decide), if_pos hg]
      have e2 : findV d q.bl p = .pointer none := by unfold findV; rw [e1]; rfl
      have hL := look_no h.rest.on h.rest.en hp hg 0
      rw [drewN0] at hL
      rw [e1, e2]
      clear h hw hp ho e1 e2 hg
      go_enter Tryd.func26, Tryd.ntmps26
      go_wp2
      go_ret2
      exact ⟨rfl, rfl⟩
    | some i =>
      have e1 : missM d p = 0 := by unfold missM; rw [if_neg (by rw [ho]; decide), if_neg (by rw [hg]; simp)]
      obtain ⟨i', b, x, e3, e4, hb, -⟩ := found_at h hw e1
      rw [hg] at e3
      obtain rfl := Option.some.inj e3
      have e2 : findV d q.bl p = .pointer (some ⟨b, 0, none⟩) := by unfold findV; rw [if_pos e1, e4, hb]; rfl
      have hL := look_yes h.rest.on h.rest.en hp hg hb 0
      rw [drewN0] at hL
      rw [e1, e2]
      clear h hw hp ho e1 e2 hg e3 e4 hb
      go_enter Tryd.func26, Tryd.ntmps26
      go_wp2
      go_ret2
      exact ⟨rfl, rfl⟩
end Go.Proofs.YtbpooaicmjkemaaDoor
