/-
  The keys and the elements of the pipes' map. Conditions: the texts' lengths.
-/
import Derived.Test.YtihhadgkcdkemaaDoorShelf
import Derived.Test.YtihhadgkcdkemaaDoorRowX
import Derived.Maps.RangeWalk
import Derived.Maps.Ext
import Derived.Maps.OwnOps
import Derived.DeepKeys4
namespace Go.Proofs.YtihhadgkcdkemaaDoor
open Go.RowKit Go.Maps
set_option linter.unusedVariables false

theorem laidOutP : laidOutB Tryd.prog = true := by kernel_rfl
theorem rowE : (46 : TypeId) < Tryd.prog.types.size := of_decide_eq_true (by kernel_rfl)
theorem ktaE : Tryd.prog.keyTypeAt 3 46 = true := by kernel_rfl
theorem lawE : Keyed Tryd.prog 46 := Keyed.of_law (deep_law_laid laidOutP (m := 3) (by omega) rowE ktaE (by rw [Tryd.underlying46]))
theorem lawS : Keyed Tryd.prog 9 := string_keyed Tryd.underlying9
def kE (s t : ByteArray) : Lit := .string (keyBytes [.string s.data.toList, .string t.data.toList])
def mkE (x : ByteArray × ByteArray) : Value := .agg #[.string x.1, .string x.2]
theorem cellsE : Tryd.prog.cellsOf 46 = 2 := by kernel_rfl
theorem cellsS : Tryd.prog.cellsOf 9 = 1 := by kernel_rfl
theorem ktE : Tryd.prog.keyType 46 = true := by kernel_rfl
theorem szE : ∃ m, Tryd.prog.types.size = m + 1 := ⟨Tryd.prog.types.size - 1, by have : 0 < Tryd.prog.types.size := of_decide_eq_true (by kernel_rfl); omega⟩
theorem keyLits_two (m : Nat) (c0 c1 : Value) : Tryd.prog.keyLits (m + 2) 46 [c0, c1] = (Tryd.prog.keyLits (m + 1) 9 [c0]).bind fun x => (Tryd.prog.keyLits (m + 1) 9 [c1]).map fun y => x ++ y := by
  conv => lhs; unfold Program.keyLits
  simp only [Tryd.underlying46]
  rw [if_pos (by simp [cellsE])]
  simp only [List.mapM_cons, List.mapM_nil, cellsS, bind, pure, List.drop_zero, List.drop_succ_cons, List.take_succ_cons, List.take_zero]
  cases Tryd.prog.keyLits (m + 1) 9 [c0] <;> simp
  cases Tryd.prog.keyLits (m + 1) 9 [c1] <;> simp
theorem keyLits_str (m : Nat) {c : Value} {x : List Lit} (h : Tryd.prog.keyLits (m + 1) 9 [c] = some x) : ∃ s : ByteArray, c = .string s ∧ s.size ≤ maxLen ∧ x = [.string s.data.toList] := by
  unfold Program.keyLits at h
  simp only [Tryd.underlying9] at h
  cases c <;> simp at h
  obtain ⟨h1, rfl⟩ := h
  exact ⟨_, rfl, h1, rfl⟩
theorem keyE {s t : ByteArray} (hs : s.size ≤ maxLen) (ht : t.size ≤ maxLen) : keyOf Tryd.prog 46 (.agg #[.string s, .string t]) = some (kE s t) := by
  obtain ⟨m, hm⟩ := szE
  unfold keyOf
  simp only [Tryd.underlying46]
  rw [if_pos (by simp [ktE, Value.formed, Tryd.underlying46, cellsE]), hm]
  simp only [Value.cells]
  rw [keyLits_two]
  simp [Program.keyLits, Tryd.underlying9, hs, ht, kE]
theorem two_of : ∀ (l : List Value), l.length = 2 → ∃ c0 c1, l = [c0, c1]
  | [c0, c1], _ => ⟨c0, c1, rfl⟩
  | [], h => by simp at h
  | [_], h => by simp at h
  | _ :: _ :: _ :: _, h => by simp at h
theorem keyE_inv {key : Value} {kl : Lit} (h : keyOf Tryd.prog 46 key = some kl) : ∃ s t : ByteArray, key = mkE (s, t) ∧ s.size ≤ maxLen ∧ t.size ≤ maxLen ∧ kl = kE s t := by
  obtain ⟨m, hm⟩ := szE
  unfold keyOf at h
  simp only [Tryd.underlying46] at h
  split at h
  · rename_i hc
    rw [Bool.and_eq_true] at hc
    obtain ⟨-, hf⟩ := hc
    unfold Value.formed at hf
    simp only [Tryd.underlying46] at hf
    cases key <;> simp at hf
    rename_i cs
    rw [cellsE] at hf
    obtain ⟨l⟩ := cs
    obtain ⟨c0, c1, rfl⟩ := two_of l hf
    rw [hm] at h
    simp only [Value.cells] at h
    rw [keyLits_two] at h
    simp only [Option.map_eq_some_iff, Option.bind_eq_some_iff] at h
    obtain ⟨z, ⟨x, hx, y, hy, rfl⟩, rfl⟩ := h
    obtain ⟨s, rfl, hs, rfl⟩ := keyLits_str m hx
    obtain ⟨t, rfl, ht, rfl⟩ := keyLits_str m hy
    exact ⟨s, t, rfl, hs, ht, rfl⟩
  · cases h
theorem kE_inj {s t s' t' : ByteArray} (hs : s.size ≤ maxLen) (ht : t.size ≤ maxLen) (hs' : s'.size ≤ maxLen) (ht' : t'.size ≤ maxLen) (h : kE s t = kE s' t') : s = s' ∧ t = t' := by
  have h1 := keyE hs ht
  have h2 := keyE hs' ht'
  rw [← h] at h2
  have := lawE.inj h1 h2
  simpa using this
theorem kE_key {s t : ByteArray} (hs : s.size ≤ maxLen) (ht : t.size ≤ maxLen) : WideAt.IsKeyLit (kE s t) := lawE.key (keyE hs ht)
/-- an element: a pointer to a whole block, or nil -/
def ptrElem : Value → Option (DataW Unit × List MemPlace)
  | .pointer none => some (.nil, [])
  | .pointer (some ⟨b, 0, none⟩) => some (.lit (.int .i64 (b : Int)), [])
  | _ => none
theorem ptrElem_mk (b : Nat) : ptrElem (.pointer (some ⟨b, 0, none⟩)) = some (.lit (.int .i64 (b : Int)), []) := rfl
theorem ptrElem_inv {v : Value} {y : DataW Unit × List MemPlace} (h : ptrElem v = some y) : (v = .pointer none ∧ y.1 = .nil) ∨ ∃ b : Nat, v = .pointer (some ⟨b, 0, none⟩) ∧ y.1 = .lit (.int .i64 (b : Int)) := by
  unfold ptrElem at h
  split at h
  · cases h; exact .inl ⟨rfl, rfl⟩
  · cases h; exact .inr ⟨_, rfl, rfl⟩
  · cases h
theorem zeroQ (w : World) : (zeroValue 49).run Tryd.prog w = .ok (.pointer none) w := by kernel_rfl
section
variable {w : World} {mb n : Nat} {D : DataW Unit}
/-- 'v, ok := m[k]' where the key is -/
theorem look_yes (h : w.ownsMap Tryd.prog 46 ptrElem mb n D) {s t : ByteArray} (hs : s.size ≤ maxLen) (ht : t.size ≤ maxLen) {q : Nat} (h1 : Maps.has D (kE s t) = true) (h2 : D.atKey (kE s t) .nil = .lit (.int .i64 (q : Int))) (k : Nat) :
    (Instr.lookup 42 (.map (some mb)) (.agg #[.string s, .string t]) true).run Tryd.prog (w.drewN k) = .ok (.tuple #[.pointer (some ⟨q, 0, none⟩), .bool true]) (w.drewN k) := by
  have h' : (w.drewN k).ownsMap Tryd.prog 46 ptrElem mb n D := h
  obtain ⟨v, ps, hrun, hv⟩ := h'.look_ok lawE Tryd.underlying42 (zeroQ _) (zd := .nil) (zp := []) rfl (keyE hs ht)
  rw [h2] at hv
  rw [hrun, h1]
  rcases ptrElem_inv hv with ⟨_, h3⟩ | ⟨b, rfl, h3⟩
  · cases h3
  · simp only [DataW.lit.injEq, Lit.int.injEq, true_and] at h3
    obtain rfl : b = q := by omega
    rfl
/-- 'v, ok := m[k]' where the key is not -/
theorem look_no (h : w.ownsMap Tryd.prog 46 ptrElem mb n D) {s t : ByteArray} (hs : s.size ≤ maxLen) (ht : t.size ≤ maxLen) (h1 : Maps.has D (kE s t) = false) (k : Nat) :
    (Instr.lookup 42 (.map (some mb)) (.agg #[.string s, .string t]) true).run Tryd.prog (w.drewN k) = .ok (.tuple #[.pointer none, .bool false]) (w.drewN k) := by
  have h' : (w.drewN k).ownsMap Tryd.prog 46 ptrElem mb n D := h
  obtain ⟨v, ps, hrun, hv⟩ := h'.look_ok lawE Tryd.underlying42 (zeroQ _) (zd := .nil) (zp := []) rfl (keyE hs ht)
  rw [Maps.atKey_of_not_has h1] at hv
  rw [hrun, h1]
  rcases ptrElem_inv hv with ⟨rfl, _⟩ | ⟨b, rfl, h3⟩
  · rfl
  · cases h3
end
end Go.Proofs.YtihhadgkcdkemaaDoor
