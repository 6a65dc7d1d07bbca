/-
  The states of a reader, in plain words and in memory. No condition.
-/
import Derived.Test.YtfnhaddgdfkmcaaDoorTT
import Derived.Test.YtfnhaddgdfkmcaaDoorOnly
import Derived.Test.YtfnhaddgdfkmcaaDoorMore
namespace Go.Proofs.YtfnhaddgdfkmcaaDoor
open Go.RowKit
set_option linter.unusedVariables false

/-- a reader: the bytes that are left, or the first error -/
inductive St where
  | ok (l : List UInt8)
  | bad (e : Int)
def stOf (l : List UInt8) (e : Int) : St := if e = 0 then .ok l else .bad e
theorem stOf_ok (l : List UInt8) : stOf l 0 = .ok l := if_pos rfl
theorem stOf_bad (l : List UInt8) {e : Int} (h : e ≠ 0) : stOf l e = .bad e := if_neg h
def needS (is : Bool) : St → St
  | .ok l => if is then .ok l else .bad 30
  | .bad e => .bad e
def fixS : List UInt8 → St → St
  | [], st => st
  | c :: r, .ok (b :: l) => if b = c then fixS r (.ok l) else .bad 30
  | _ :: _, .ok [] => .bad 32
  | _ :: _, .bad e => .bad e
def wentS (n e : Int) : St → St
  | .ok l => if e = 20 then .bad 32 else if e = 0 then .ok (l.drop n.toNat) else .bad 30
  | .bad x => .bad x
theorem wentS_20 (n : Int) {x : Int} (l : List UInt8) (h : x = 20) : wentS n x (.ok l) = .bad 32 := if_pos h
theorem wentS_0 (n : Int) {x : Int} (l : List UInt8) (h : x = 0) : wentS n x (.ok l) = .ok (l.drop n.toNat) := by subst h; rfl
theorem wentS_x (n : Int) {x : Int} (l : List UInt8) (h : ¬ x = 20) (h' : ¬ x = 0) : wentS n x (.ok l) = .bad 30 := (if_neg h).trans (if_neg h')
def tkN (l : List UInt8) : Int × Int × Int := tk 59 16 9007199254740992 (bt l 0) l 0 0
def numS (kind : List UInt8) (st : St) : St :=
  match fixS kind st with
  | .ok l => wentS (tkN l).2.1 (tkN l).2.2 (.ok l)
  | .bad e => .bad e
def numV (kind : List UInt8) (st : St) : Int :=
  match fixS kind st with
  | .ok l => (tkN l).1
  | .bad _ => 0
def textS (kind : List UInt8) (st : St) : St :=
  match fixS kind st with
  | .ok l => wentS (ttN l) (ttE l) (.ok l)
  | .bad e => .bad e
def textV (kind : List UInt8) (st : St) : List UInt8 :=
  match fixS kind st with
  | .ok l => ttS l
  | .bad _ => []
def byteS : St → St
  | .ok [] => .bad 32
  | .ok (_ :: l) => .ok l
  | .bad e => .bad e
theorem fixS_bad (s : List UInt8) (e : Int) : fixS s (.bad e) = .bad e := by cases s <;> rfl
theorem fixS_app : ∀ (s t : List UInt8) (st : St), fixS (s ++ t) st = fixS t (fixS s st)
  | [], _, _ => rfl
  | c :: s, t, .bad e => by rw [fixS_bad, fixS_bad, fixS_bad]
  | c :: s, t, .ok [] => by
    show St.bad 32 = fixS t (.bad 32)
    rw [fixS_bad]
  | c :: s, t, .ok (b :: l) => by
    show (if b = c then fixS (s ++ t) (.ok l) else .bad 30) = fixS t (if b = c then fixS s (.ok l) else .bad 30)
    split
    · exact fixS_app s t _
    · rw [fixS_bad]
theorem fixS_cons (c : UInt8) (s : List UInt8) (st : St) : fixS (c :: s) st = fixS s (fixS [c] st) := fixS_app [c] s st
/-- a reader in memory: block g of type T holds what is left, its bytes below block B, and the error -/
structure Rdr (w : World) (g T B : Nat) (A : Option Addr) (c : Nat) (l : List UInt8) (e : Int) : Prop where
  blk : Blk w g T #[.slice A l.length c, .int .i64 e]
  rb : RB w B A l
  cap : l.length ≤ c
  max : c ≤ maxLen
  hB : B ≤ g
/-- .. whose state is st -/
def RdAt (w : World) (g T B : Nat) (st : St) : Prop := ∃ A c l e, Rdr w g T B A c l e ∧ stOf l e = st
section
variable {w w' : World} {g T B : Nat} {A : Option Addr} {c : Nat} {l : List UInt8} {e : Int}
theorem Rdr.c0 (h : Rdr w g T B A c l e) : w.cell? ⟨g, 0, none⟩ = some (.slice A l.length c) := h.blk.cell 0
theorem Rdr.c1 (h : Rdr w g T B A c l e) : w.cell? ⟨g, 1, none⟩ = some (.int .i64 e) := h.blk.cell 1
theorem Rdr.setE (h : Rdr w g T B A c l e) (e' : Int) : Rdr (w.setCell ⟨g, 1, none⟩ (.int .i64 e')) g T B A c l e' :=
  ⟨h.blk.set_ 1 (.int .i64 e'), h.rb.below ((Below.refl _ _).setCell h.hB _), h.cap, h.max, h.hB⟩
theorem Rdr.setL (h : Rdr w g T B A c l e) {A' : Option Addr} {c' : Nat} {l' : List UInt8} (hr : RB w B A' l') (hc : l'.length ≤ c') (hm : c' ≤ maxLen) :
    Rdr (w.setCell ⟨g, 0, none⟩ (.slice A' l'.length c')) g T B A' c' l' e :=
  ⟨h.blk.set_ 0 (.slice A' l'.length c'), hr.below ((Below.refl _ _).setCell h.hB _), hc, hm, h.hB⟩
theorem Rdr.drew (h : Rdr w g T B A c l e) (n : Nat) : Rdr (w.drewN n) g T B A c l e := ⟨h.blk, h.rb, h.cap, h.max, h.hB⟩
theorem Rdr.keep (h : Rdr w g T B A c l e) (hb : Below w.heap.size w w') : Rdr w' g T B A c l e :=
  ⟨h.blk.keep hb, h.rb.below (hb.mono (Nat.le_trans h.hB (Nat.le_of_lt h.blk.lt))), h.cap, h.max, h.hB⟩
theorem Rdr.at_ (h : Rdr w g T B A c l e) : RdAt w g T B (stOf l e) := ⟨A, c, l, e, h, rfl⟩
theorem RB.heap {l : List UInt8} (h : RB w B A l) (e : w'.heap = w.heap) : RB w' B A l := h.keep (Nat.le_refl _) fun p _ => by simp [World.cell?, e]
theorem RdAt.heap {st : St} (h : RdAt w g T B st) (e : w'.heap = w.heap) : RdAt w' g T B st := by
  obtain ⟨A, c, l, x, h, hs⟩ := h
  exact ⟨A, c, l, x, ⟨by unfold Blk; rw [e]; exact h.blk, h.rb.heap e, h.cap, h.max, h.hB⟩, hs⟩
theorem RdAt.cut (h : Rdr w g T B A c l 0) {A' : Option Addr} {c' n : Nat} {l' : List UInt8} (hr : RB w B A' l') (hn : l'.length = n) (hc : n ≤ c') (hm : c' ≤ maxLen) : RdAt (w.setCell ⟨g, 0, none⟩ (.slice A' n c')) g T B (.ok l') := by
  subst hn; exact ⟨_, _, _, _, h.setL hr hc hm, stOf_ok _⟩
theorem RdAt.keep {st : St} (h : RdAt w g T B st) (hb : Below w.heap.size w w') : RdAt w' g T B st := by
  obtain ⟨A, c, l, e, h, hs⟩ := h
  exact ⟨A, c, l, e, h.keep hb, hs⟩
end
end Go.Proofs.YtfnhaddgdfkmcaaDoor
