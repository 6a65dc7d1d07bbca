/-
  The chain, the tables, the document's row, behind Join. No condition.
-/
import Derived.Test.YtlknclkkhincfaaDoorTbCi
namespace Go.Proofs.YtlknclkkhincfaaDoor
open Go.RowKit
set_option linter.unusedVariables false
theorem filter_fst : ∀ LT : List OT, (LT.map pOf).filterMap id = (LT.filterMap id).map (·.1)
  | [] => rfl
  | none :: r => by
    show (r.map pOf).filterMap id = _
    rw [filter_fst r]; rfl
  | some p :: r => by
    show p.1 :: (r.map pOf).filterMap id = _
    rw [filter_fst r]; rfl
theorem filter_snd : ∀ LT : List OT, (LT.map tOf).filterMap id = (LT.filterMap id).map (·.2)
  | [] => rfl
  | none :: r => by
    show (r.map tOf).filterMap id = _
    rw [filter_snd r]; rfl
  | some p :: r => by
    show p.2 :: (r.map tOf).filterMap id = _
    rw [filter_snd r]; rfl
theorem mem_filter {LT : List OT} {p : Nat × List En} (h : p ∈ LT.filterMap id) : some p ∈ LT := by
  obtain ⟨o, ho, e⟩ := List.mem_filterMap.1 h
  simp at e
  rw [← e]; exact ho
structure Fin2 (w : World) (S : Nat) (g6 g7 : Option Nat) (v7 : Value) (ch : Nat) (LT LR : List OT) : Prop where
  ch : ChStB S w ch ((LT.filterMap id).map (·.1))
  t6 : ∀ p, some p ∈ LT → TabF (Nn g6 g7) w p.1 p.2
  r7 : OwnX 1 w g7 v7 ((LR.map pOf).map ptV)
  t7 : ∀ p, some p ∈ LR → RTabF (Nn g6 g7) w p.1 p.2
  ne : ∀ k, g6 = some k → g7 ≠ some k
  lt : ∀ k, g6 = some k → k < S
theorem Fin2.of {w w2 : World} {B : Nat} {g6 g7 : Option Nat} {v6 v7 : Value} {LT LR : List OT} {ch : Nat} (h : ChI w B g6 g7 v6 v7 LT LR) (hb : Below w.heap.size w w2) (hc : ChStB w.heap.size w2 ch ((LT.map pOf).filterMap id)) : Fin2 w2 w.heap.size g6 g7 v7 ch LT LR :=
  ⟨by rw [← filter_fst]; exact hc, (h.below hb).t6, (h.below hb).r7, (h.below hb).t7, h.ne, fun k hk => h.r6.lt hk⟩
theorem Fin2.set_ {w : World} {S : Nat} {g6 g7 : Option Nat} {v7 : Value} {LT LR : List OT} {ch : Nat} (h : Fin2 w S g6 g7 v7 ch LT LR) {p : Addr} (hp : g6 = some p.block) (u : Value) : Fin2 (w.setCell p u) S g6 g7 v7 ch LT LR := by
  have hk : ∀ k, Nn g6 g7 k → (w.setCell p u).heap[k]? = w.heap[k]? := fun k hn => Below.heap_setCell w p u k (fun e => hn.1 (by rw [hp, e]))
  exact ⟨h.ch.far (h.lt _ hp) u, fun q hq => (h.t6 q hq).keep (by simp) fun k _ hn => ⟨hk k hn, hn⟩, h.r7.same (by simp) fun k e => Below.heap_setCell w p u k (fun q => h.ne _ hp (by rw [e, q])), fun q hq => (h.t7 q hq).keep (by simp) fun k _ hn => ⟨hk k hn, hn⟩, h.ne, h.lt⟩
theorem Fin2.tabs {w : World} {S : Nat} {g6 g7 : Option Nat} {v7 : Value} {LT LR : List OT} {ch : Nat} (h : Fin2 w S g6 g7 v7 ch LT LR) (hok : ∀ T, some T ∈ LT.map tOf → AsciiT T ∧ sortE T ∧ T.length ≤ 2000) : Tabs2 w ch (LT.filterMap id) :=
  ⟨h.ch.st, fun p hp => by
    have hm := mem_filter hp
    obtain ⟨_, h2, h3⟩ := hok p.2 (List.mem_map.2 ⟨some p, hm, rfl⟩)
    exact ⟨(h.t6 p hm).st, h2, h3⟩⟩
theorem Fin2.rtabs {w : World} {S : Nat} {g6 g7 : Option Nat} {v7 : Value} {LT LR : List OT} {ch : Nat} (h : Fin2 w S g6 g7 v7 ch LT LR) (hs : LT.map tOf = LR.map tOf) (hok : ∀ T, some T ∈ LT.map tOf → AsciiT T ∧ sortE T ∧ T.length ≤ 2000) : RTabs w g7 v7 LR :=
  ⟨h.r7, fun p hp => by
    obtain ⟨_, h2, h3⟩ := hok p.2 (by rw [hs]; exact List.mem_map.2 ⟨some p, hp, rfl⟩)
    exact ⟨(h.t7 p hp).st, h2, h3⟩⟩
end Go.Proofs.YtlknclkkhincfaaDoor
