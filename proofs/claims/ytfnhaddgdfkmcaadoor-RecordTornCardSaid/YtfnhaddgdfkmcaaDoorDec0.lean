/-
  What Decode answers, in plain words. No condition.
-/
import Derived.Test.YtfnhaddgdfkmcaaDoorRMark
import Derived.Test.YtfnhaddgdfkmcaaDoorRd
import Derived.Test.YtfnhaddgdfkmcaaDoorPHex
import Derived.Test.YtfnhaddgdfkmcaaDoorEnc0
namespace Go.Proofs.YtfnhaddgdfkmcaaDoor
open Go.RowKit
set_option linter.unusedVariables false

inductive Res where
  | bad (e : Int)
  | ok (m : Msg)
def decSum (m : Msg) (s : Int) : St → Res
  | .bad e => .bad e
  | .ok [] => if s = (crc (layB m) : Int) then .ok m else .bad 33
  | .ok (_ :: _) => .bad 30
def decHex (m : Msg) : St → Res
  | .bad e => .bad e
  | .ok l => decSum m (thV l) (fixS [10] (wentS 8 (thE l) (.ok l)))
def decData (t : Int) (f : List UInt8) (L : List Rc) (st : St) : Res := decHex ⟨t, ⟨f.toArray⟩, L, textV [100] st⟩ (fixS [101] (textS [100] st))
def recS (st : St) : St := needS (addrOk (textV [] (mrkS st))) (textS [] (mrkS st))
def recV (st : St) : Rc := ⟨⟨(textV [] (mrkS st)).toArray⟩, UInt8.ofNat (mrkV st).toNat⟩
def decRec (t : Int) (f : List UInt8) : Nat → List Rc → St → Res
  | _, _, .bad e => .bad e
  | 0, L, .ok l => decData t f L (.ok l)
  | n + 1, L, .ok l => decRec t f n (L ++ [recV (.ok l)]) (recS (.ok l))
def manyOk (z : Int) : Bool := decide (0 < z ∧ z ≤ 200)
def decN (t : Int) (f : List UInt8) (st : St) : Res := decRec t f (numV [110] st).toNat [] (needS (manyOk (numV [110] st)) (numS [110] st))
def fromOk (f : List UInt8) : Bool := f.isEmpty || addrOk f
def decF (t : Int) (st : St) : Res := decN t (textV [102] st) (needS (fromOk (textV [102] st)) (textS [102] st))
def decR (l : List UInt8) : Res := decF (numV [87, 49, 59, 116] (.ok l)) (numS [87, 49, 59, 116] (.ok l))
/-! ### an error stays -/
theorem needS_bad (b : Bool) (e : Int) : needS b (.bad e) = .bad e := rfl
theorem numS_bad (k : List UInt8) (e : Int) : numS k (.bad e) = .bad e := by unfold numS; rw [fixS_bad]
theorem textS_bad (k : List UInt8) (e : Int) : textS k (.bad e) = .bad e := by unfold textS; rw [fixS_bad]
theorem wentS_bad (n x e : Int) : wentS n x (.bad e) = .bad e := rfl
theorem mrkS_bad (e : Int) : mrkS (.bad e) = .bad e := by unfold mrkS; rw [fixS_bad]
theorem recS_bad (e : Int) : recS (.bad e) = .bad e := by unfold recS; rw [mrkS_bad, textS_bad, needS_bad]
theorem decHex_bad (m : Msg) (e : Int) : decHex m (.bad e) = .bad e := rfl
theorem decData_bad (t : Int) (f : List UInt8) (L : List Rc) (e : Int) : decData t f L (.bad e) = .bad e := by unfold decData; rw [textS_bad, fixS_bad]; rfl
theorem decRec_bad (t : Int) (f : List UInt8) (n : Nat) (L : List Rc) (e : Int) : decRec t f n L (.bad e) = .bad e := by cases n <;> rfl
theorem decN_bad (t : Int) (f : List UInt8) (e : Int) : decN t f (.bad e) = .bad e := by unfold decN; rw [numS_bad, needS_bad, decRec_bad]
theorem decF_bad (t : Int) (e : Int) : decF t (.bad e) = .bad e := by unfold decF; rw [textS_bad, needS_bad, decN_bad]
/-! ### values that count only where there is no error -/
theorem needS_val {α : Type} {S : St} {x v : α} (f : α → Bool) (h : ∀ l, S = .ok l → x = v) : needS (f x) S = needS (f v) S := by
  cases S with
  | bad e => rfl
  | ok l => rw [h l rfl]
theorem needS_ok {b : Bool} {S : St} {l : List UInt8} (h : needS b S = .ok l) : b = true ∧ S = .ok l := by
  cases S with
  | bad e => cases h
  | ok l' =>
    cases b with
    | false => exact absurd (show St.bad 30 = .ok l from h) (fun e => by cases e)
    | true => exact ⟨rfl, h⟩
theorem textS_ok {k : List UInt8} {S : St} {l : List UInt8} (h : textS k S = .ok l) : ∃ l', S = .ok l' := by
  cases S with
  | bad e => rw [textS_bad] at h; cases h
  | ok l' => exact ⟨l', rfl⟩
theorem numS_ok {k : List UInt8} {S : St} {l : List UInt8} (h : numS k S = .ok l) : ∃ l', S = .ok l' := by
  cases S with
  | bad e => rw [numS_bad] at h; cases h
  | ok l' => exact ⟨l', rfl⟩
theorem fixS_ok {k : List UInt8} {S : St} {l : List UInt8} (h : fixS k S = .ok l) : ∃ l', S = .ok l' := by
  cases S with
  | bad e => rw [fixS_bad] at h; cases h
  | ok l' => exact ⟨l', rfl⟩
theorem mrkS_ok {S : St} {l : List UInt8} (h : mrkS S = .ok l) : ∃ l', S = .ok l' := by
  cases S with
  | bad e => rw [mrkS_bad] at h; cases h
  | ok l' => exact ⟨l', rfl⟩
/-- the mark, as record reads it -/
theorem mrkS_eq (st : St) (z : Int) (hz : ∀ l, byteS (fixS [114] st) = .ok l → z = mrkV st) : needS (markOk z) (byteS (fixS [114] st)) = mrkS st := by
  unfold mrkS mrkV at *
  cases h : fixS [114] st with
  | bad e => rfl
  | ok l =>
    cases l with
    | nil => rfl
    | cons c r =>
      rw [h] at hz
      have := hz r rfl
      simp only at this
      subst this
      show (if markOk (c.toNat : Int) = true then St.ok r else .bad 30) = _
      rfl
end Go.Proofs.YtfnhaddgdfkmcaaDoor
