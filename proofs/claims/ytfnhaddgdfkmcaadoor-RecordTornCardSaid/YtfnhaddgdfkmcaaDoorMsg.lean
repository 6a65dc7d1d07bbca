/-
  Messages, in plain words and in memory. No condition.
-/
import Derived.Test.YtfnhaddgdfkmcaaDoorAddr
import Derived.Test.YtfnhaddgdfkmcaaDoorOwn
import Derived.Test.YtfnhaddgdfkmcaaDoorOnly
import Derived.Test.YtfnhaddgdfkmcaaDoorNum
namespace Go.Proofs.YtfnhaddgdfkmcaaDoor
open Go.RowKit
set_option linter.unusedVariables false

structure Rc where
  to : ByteArray
  mark : UInt8
structure Msg where
  time : Int
  frm : ByteArray
  rcpts : List Rc
  data : List UInt8
def rcCells (L : List Rc) : List Value := L.flatMap fun r => [.string r.to, .int .u8 (r.mark.toNat : Int)]
theorem rcCells_len (L : List Rc) : (rcCells L).length = L.length * 2 := by
  induction L with
  | nil => rfl
  | cons r L ih => unfold rcCells at *; rw [List.flatMap_cons, List.length_append, ih]; simp; omega
theorem rcCells_app (L M : List Rc) : rcCells (L ++ M) = rcCells L ++ rcCells M := by unfold rcCells; rw [List.flatMap_append]
theorem rcCells_at : ∀ (L : List Rc) (i : Nat) (h : i < L.length), (rcCells L)[i * 2]? = some (.string L[i].to) ∧ (rcCells L)[i * 2 + 1]? = some (.int .u8 (L[i].mark.toNat : Int))
  | [], i, h => by simp at h
  | r :: L, 0, h => ⟨rfl, rfl⟩
  | r :: L, i + 1, h => by
    have ih := rcCells_at L i (by simpa using h)
    have e : rcCells (r :: L) = .string r.to :: .int .u8 (r.mark.toNat : Int) :: rcCells L := rfl
    rw [e, show (i + 1) * 2 = i * 2 + 1 + 1 by omega, List.getElem?_cons_succ, List.getElem?_cons_succ, List.getElem?_cons_succ, List.getElem?_cons_succ]
    exact ih
/-- a slice's address reads as recipients, below block B -/
def RR (w : World) (B : Nat) (A : Option Addr) (L : List Rc) : Prop :=
  L = [] ∨ ∃ b off, A = some ⟨b, off, none⟩ ∧ b < B ∧ ∀ i (h : i < L.length), w.cell? ⟨b, off + i * 2, none⟩ = some (.string L[i].to) ∧ w.cell? ⟨b, off + i * 2 + 1, none⟩ = some (.int .u8 (L[i].mark.toNat : Int))
theorem RR.at_ {w : World} {B : Nat} {A : Option Addr} {L : List Rc} (h : RR w B A L) {j : Nat} (hj : j < L.length) :
    ∃ b off, A = some ⟨b, off, none⟩ ∧ b < B ∧ ∀ i (h : i < L.length), w.cell? ⟨b, off + i * 2, none⟩ = some (.string L[i].to) ∧ w.cell? ⟨b, off + i * 2 + 1, none⟩ = some (.int .u8 (L[i].mark.toNat : Int)) := by
  rcases h with h | h
  · subst h; simp at hj
  · exact h
theorem RR.keep {w w' : World} {B B' : Nat} {A : Option Addr} {L : List Rc} (h : RR w B A L) (hB : B ≤ B') (hk : ∀ p : Addr, p.block < B → w'.cell? p = w.cell? p) : RR w' B' A L := by
  rcases h with h | ⟨b, off, hA, hb, hc⟩
  · exact .inl h
  · exact .inr ⟨b, off, hA, by omega, fun i hi => ⟨(hk _ hb).trans (hc i hi).1, (hk _ hb).trans (hc i hi).2⟩⟩
theorem RR.below {w w' : World} {B : Nat} {A : Option Addr} {L : List Rc} (h : RR w B A L) (hb : Below B w w') : RR w' B A L := h.keep (Nat.le_refl _) fun _ hp => hb.cell hp
theorem RR.mono {w : World} {B B' : Nat} {A : Option Addr} {L : List Rc} (h : RR w B A L) (hB : B ≤ B') : RR w B' A L := h.keep hB fun _ _ => rfl
/-- v owns a row of recipients, from block base on -/
def OwnR (w : World) (base E : Nat) (v : Value) (L : List Rc) : Prop := w.ownsRow base E 2 v L.length (rcCells L)
theorem OwnR.nil (w : World) (base E : Nat) : OwnR w base E (.slice none 0 0) [] := World.ownsRow_nil w base E 2
theorem OwnR.alloc {w : World} {base E : Nat} {v : Value} {L : List Rc} (h : OwnR w base E v L) (o : Obj) : OwnR (w.alloc o) base E v L := World.ownsRow.alloc h o
theorem OwnR.kept {w w' : World} {base E : Nat} {v : Value} {L : List Rc} {row : Option Nat} (h : OwnR w base E v L) (hg : w.grownBy w' row) (hne : v.ownBlock = none ∨ v.ownBlock ≠ row) : OwnR w' base E v L := World.ownsRow.kept h hg hne
theorem OwnR.below {w w' : World} {base E : Nat} {v : Value} {L : List Rc} (h : OwnR w base E v L) (hb : Below w.heap.size w w') : OwnR w' base E v L :=
  h.kept (grownBy_of_below hb none) (by cases v.ownBlock <;> simp)
theorem OwnR.only {g : Nat} {w w' : World} {base E : Nat} {v : Value} {L : List Rc} (h : OwnR w base E v L) (ho : Only g w w') (hg : g < base) : OwnR w' base E v L := by
  refine h.kept ho (.inr fun e => ?_)
  have := (World.ownsRow.lt h _ e).1
  omega
theorem OwnR.out {w : World} {base E : Nat} {v : Value} {L : List Rc} (h : OwnR w base E v L) : ∃ A c, v = .slice A L.length c ∧ L.length ≤ c ∧ c ≤ maxLen ∧ RR w w.heap.size A L := by
  rcases h.2 with ⟨rfl, h0⟩ | ⟨g, cap, cur, rfl, hb, hg, hc, hm, hs, ht⟩
  · have : L = [] := List.eq_nil_of_length_eq_zero (by have := rcCells_len L; rw [h0] at this; simp at this; omega)
    subst this
    exact ⟨none, 0, rfl, Nat.le_refl _, by simp [maxLen], .inl rfl⟩
  · refine ⟨some ⟨g, 0, none⟩, cap, rfl, hc, hm, .inr ⟨g, 0, rfl, (Array.getElem?_eq_some_iff.1 hg).1, fun i hi => ?_⟩⟩
    obtain ⟨e1, e2⟩ := rcCells_at L i hi
    have a1 := World.ownsRow.cells h (g := g) rfl _ _ e1
    have a2 := World.ownsRow.cells h (g := g) rfl _ _ e2
    rw [Addr.add_lit] at a1 a2
    rw [← Nat.add_assoc] at a2
    exact ⟨a1, a2⟩
/-- a message in memory, below block B -/
structure MsgAt (w : World) (B : Nat) (m : Msg) (A1 : Option Addr) (c1 : Nat) (A2 : Option Addr) (c2 : Nat) : Prop where
  rr : RR w B A1 m.rcpts
  rb : RB w B A2 m.data
  l1 : m.rcpts.length ≤ c1
  m1 : m.rcpts.length ≤ 6000000000000
  x1 : c1 ≤ maxLen
  l2 : m.data.length ≤ c2
  m2 : m.data.length ≤ 140737488351232
  x2 : c2 ≤ maxLen
  t0 : -9223372036854775808 ≤ m.time
  t1 : m.time ≤ 9223372036854775807
  sf : m.frm.size ≤ maxLen
  st : ∀ r ∈ m.rcpts, r.to.size ≤ maxLen
def mCells (m : Msg) (A1 : Option Addr) (c1 : Nat) (A2 : Option Addr) (c2 : Nat) : Array Value := #[.int .i64 m.time, .string m.frm, .slice A1 m.rcpts.length c1, .slice A2 m.data.length c2]
theorem MsgAt.below {w w' : World} {B : Nat} {m : Msg} {A1 A2 : Option Addr} {c1 c2 : Nat} (h : MsgAt w B m A1 c1 A2 c2) (hb : Below B w w') : MsgAt w' B m A1 c1 A2 c2 :=
  ⟨h.rr.below hb, h.rb.below hb, h.l1, h.m1, h.x1, h.l2, h.m2, h.x2, h.t0, h.t1, h.sf, h.st⟩
theorem MsgAt.mono {w : World} {B B' : Nat} {m : Msg} {A1 A2 : Option Addr} {c1 c2 : Nat} (h : MsgAt w B m A1 c1 A2 c2) (hB : B ≤ B') : MsgAt w B' m A1 c1 A2 c2 :=
  ⟨h.rr.mono hB, h.rb.mono hB, h.l1, h.m1, h.x1, h.l2, h.m2, h.x2, h.t0, h.t1, h.sf, h.st⟩
/-- may a message be? -/
def longS (m : Msg) : Bool := decide (1048576 < m.data.length ∨ 200 < m.rcpts.length ∨ 320 < m.frm.size)
def longR (r : Rc) : Bool := decide (320 < r.to.size)
def mayS (m : Msg) : Bool := decide (0 ≤ m.time ∧ m.time ≤ 9007199254740992) && ((decide (m.frm = ⟨#[]⟩) || addrOk m.frm.data.toList) && decide (0 < m.rcpts.length))
def mayR (r : Rc) : Bool := addrOk r.to.data.toList && markOk (r.mark.toNat : Int)
def longM (m : Msg) : Bool := longS m || m.rcpts.any longR
def mayM (m : Msg) : Bool := mayS m && m.rcpts.all mayR
def rightE (m : Msg) : Int := if longM m = true then 31 else if mayM m = true then 0 else 30
end Go.Proofs.YtfnhaddgdfkmcaaDoor
