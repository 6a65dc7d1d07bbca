/-
  What FieldsFunc makes of words of ASCII with one blank between them. No condition.
-/
import Derived.Test.YtdkhoiahmjadnaaGreatDoorParse0
namespace Go.Proofs.YtdkhoiahmjadnaaGreatDoor
open Go.RowKit Go.Sort
set_option linter.unusedVariables false

def joinW : List (List UInt8) → List UInt8
  | [] => []
  | w :: r => w ++ (match r with
    | [] => []
    | x :: t => 32 :: joinW (x :: t))
def spansW : Nat → List (List UInt8) → List (Nat × Nat)
  | _, [] => []
  | n, w :: r => (n, n + w.length) :: spansW (n + w.length + 1) r
def goodB (b : UInt8) : Prop := b.toNat < 128 ∧ b.toNat ≠ 32
theorem byte_at {s : ByteArray} {pre : List UInt8} {b : UInt8} {post : List UInt8} (h : s.data.toList = pre ++ b :: post) : ∃ hp : pre.length < s.size, s[pre.length]'hp = b := by
  have hs : s.size = s.data.toList.length := Lib.size_eq s
  have hp : pre.length < s.size := by rw [hs, h]; simp
  refine ⟨hp, ?_⟩
  have e : s[pre.length]'hp = s.data.toList[pre.length]'(by rw [← hs]; exact hp) := rfl
  rw [e]
  simp [h]
theorem dec_at {s : ByteArray} {pre : List UInt8} {b : UInt8} {post : List UInt8} (h : s.data.toList = pre ++ b :: post) (hb : b.toNat < 128) : pre.length < s.size ∧ Utf8.decode s pre.length = (b.toNat, 1) := by
  obtain ⟨hp, e⟩ := byte_at h
  refine ⟨hp, ?_⟩
  have := decode_ascii s pre.length hp (by rw [e]; exact hb)
  rw [e] at this
  exact this
theorem step_ns {s : ByteArray} {pre : List UInt8} {b : UInt8} {post : List UInt8} (h : s.data.toList = pre ++ b :: post) (hb : goodB b) (f : Nat) (st : Option Nat) (acc : List (Nat × Nat)) :
    Lib.spansFromP isSp s (f + 1) pre.length st acc = Lib.spansFromP isSp s f (pre.length + 1) (some (st.getD pre.length)) acc := by
  obtain ⟨hp, e⟩ := dec_at h hb.1
  have hn : isSp b.toNat = false := beq_eq_false_iff_ne.2 hb.2
  rw [Lib.spansFromP.eq_def]
  simp only [hp, if_true, e, hn]
  cases st <;> rfl
theorem step_sp {s : ByteArray} {pre post : List UInt8} (h : s.data.toList = pre ++ 32 :: post) (f a : Nat) (acc : List (Nat × Nat)) :
    Lib.spansFromP isSp s (f + 1) pre.length (some a) acc = Lib.spansFromP isSp s f (pre.length + 1) none (acc ++ [(a, pre.length)]) := by
  obtain ⟨hp, e⟩ := dec_at h (by decide)
  have hn : isSp (32 : UInt8).toNat = true := rfl
  rw [Lib.spansFromP.eq_def]
  simp only [hp, if_true, e, hn]
theorem span_run {s : ByteArray} : ∀ (w pre post : List UInt8) (a : Nat) (acc : List (Nat × Nat)) (f : Nat), s.data.toList = pre ++ w ++ post → (∀ b ∈ w, goodB b) →
    Lib.spansFromP isSp s (w.length + f) pre.length (some a) acc = Lib.spansFromP isSp s f (pre.length + w.length) (some a) acc
  | [], pre, post, a, acc, f, _, _ => by simp
  | b :: t, pre, post, a, acc, f, h, hg => by
    rw [show (b :: t).length + f = (t.length + f) + 1 by simp; omega, step_ns (post := t ++ post) (by rw [h]; simp) (hg b (by simp))]
    have ih := span_run (s := s) t (pre ++ [b]) post a acc f (by rw [h]; simp) (fun x hx => hg x (by simp [hx]))
    rw [show (pre ++ [b]).length = pre.length + 1 by simp] at ih
    rw [Option.getD_some, ih]
    congr 1
    simp; omega
theorem spans_words {s : ByteArray} : ∀ (ws : List (List UInt8)) (pre : List UInt8) (acc : List (Nat × Nat)) (f : Nat), s.data.toList = pre ++ joinW ws → ws ≠ [] → (∀ w ∈ ws, w ≠ [] ∧ ∀ b ∈ w, goodB b) → (joinW ws).length ≤ f →
    Lib.closeSpans s (Lib.spansFromP isSp s f pre.length none acc) = acc ++ spansW pre.length ws
  | [], _, _, _, _, h, _, _ => absurd rfl h
  | [w], pre, acc, f, h, _, hg, hf => by
    obtain ⟨hw, hb⟩ := hg w (by simp)
    have hj : joinW [w] = w := by simp [joinW]
    rw [hj] at h hf
    match w, hw with
    | b :: t, _ =>
      obtain ⟨g, rfl⟩ : ∃ g, f = (t.length + g) + 1 := ⟨f - (t.length + 1), by simp at hf; omega⟩
      rw [step_ns (post := t) h (hb b (by simp))]
      have hr := span_run (s := s) t (pre ++ [b]) [] pre.length acc g (by rw [h]; simp) (fun x hx => hb x (by simp [hx]))
      rw [show (pre ++ [b]).length = pre.length + 1 by simp] at hr
      rw [Option.getD_none, hr]
      have hs : s.size = pre.length + 1 + t.length := by rw [Lib.size_eq, h]; simp; omega
      rw [Lib.spansFromP_end _ _ _ _ _ _ (by omega)]
      show acc ++ [(pre.length, s.size)] = acc ++ [(pre.length, pre.length + (b :: t).length)]
      rw [hs]
      simp; omega
  | w :: x :: r, pre, acc, f, h, _, hg, hf => by
    obtain ⟨hw, hb⟩ := hg w (by simp)
    have hj : joinW (w :: x :: r) = w ++ 32 :: joinW (x :: r) := rfl
    rw [hj] at h hf
    match w, hw with
    | b :: t, _ =>
      obtain ⟨g, rfl⟩ : ∃ g, f = (t.length + (g + 1)) + 1 := ⟨f - (t.length + 2), by simp at hf; omega⟩
      rw [step_ns (post := t ++ 32 :: joinW (x :: r)) (by rw [h]; simp) (hb b (by simp))]
      have hr := span_run (s := s) t (pre ++ [b]) (32 :: joinW (x :: r)) pre.length acc (g + 1) (by rw [h]; simp) (fun y hy => hb y (by simp [hy]))
      rw [show (pre ++ [b]).length = pre.length + 1 by simp] at hr
      rw [Option.getD_none, hr]
      have hsp := step_sp (s := s) (pre := pre ++ b :: t) (post := joinW (x :: r)) (by rw [h]; simp) g pre.length acc
      rw [show (pre ++ b :: t).length = pre.length + 1 + t.length by simp; omega] at hsp
      rw [hsp]
      have ih := spans_words (s := s) (x :: r) (pre ++ b :: t ++ [32]) (acc ++ [(pre.length, pre.length + 1 + t.length)]) g (by rw [h]; simp) (by simp) (fun y hy => hg y (by simp [hy])) (by simp at hf; omega)
      rw [show (pre ++ b :: t ++ ([32] : List UInt8)).length = pre.length + 1 + t.length + 1 by simp; omega] at ih
      rw [ih]
      show _ = acc ++ (pre.length, pre.length + (b :: t).length) :: spansW (pre.length + (b :: t).length + 1) (x :: r)
      rw [show pre.length + (b :: t).length = pre.length + 1 + t.length by simp; omega]
      simp
theorem extract_mid {s : ByteArray} {pre w post : List UInt8} (h : s.data.toList = pre ++ w ++ post) : s.extract pre.length (pre.length + w.length) = ⟨w.toArray⟩ := by
  apply str_eq
  rw [ByteArray.data_extract, Array.toList_extract, h]
  simp [List.extract]
theorem cut_words {s : ByteArray} : ∀ (ws : List (List UInt8)) (pre : List UInt8), s.data.toList = pre ++ joinW ws → (spansW pre.length ws).map (fun x => s.extract x.1 x.2) = ws.map (fun w => (⟨w.toArray⟩ : ByteArray))
  | [], _, _ => rfl
  | [w], pre, h => by
    have hj : joinW [w] = w := by simp [joinW]
    rw [hj] at h
    show [s.extract pre.length (pre.length + w.length)] = _
    rw [extract_mid (post := []) (by rw [h]; simp)]
    rfl
  | w :: x :: r, pre, h => by
    have hj : joinW (w :: x :: r) = w ++ 32 :: joinW (x :: r) := rfl
    rw [hj] at h
    show s.extract pre.length (pre.length + w.length) :: (spansW (pre.length + w.length + 1) (x :: r)).map _ = _
    rw [extract_mid (post := 32 :: joinW (x :: r)) (by rw [h]; simp)]
    have ih := cut_words (s := s) (x :: r) (pre ++ w ++ [32]) (by rw [h]; simp)
    rw [show (pre ++ w ++ ([32] : List UInt8)).length = pre.length + w.length + 1 by simp; omega] at ih
    rw [ih]
    rfl
theorem fields_words (ws : List (List UInt8)) (h0 : ws ≠ []) (hg : ∀ w ∈ ws, w ≠ [] ∧ ∀ b ∈ w, goodB b) : Lib.goFieldsP isSp ⟨(joinW ws).toArray⟩ = ws.map (fun w => (⟨w.toArray⟩ : ByteArray)) := by
  unfold Lib.goFieldsP Lib.spansOfP
  have h : (⟨(joinW ws).toArray⟩ : ByteArray).data.toList = [] ++ joinW ws := by simp
  have hs : (joinW ws).length ≤ (⟨(joinW ws).toArray⟩ : ByteArray).size := by rw [Lib.size_eq]; simp
  have e := spans_words ws [] [] _ h h0 hg hs
  rw [show ([] : List UInt8).length = 0 from rfl] at e
  rw [e, List.nil_append]
  exact cut_words ws [] h
end Go.Proofs.YtdkhoiahmjadnaaGreatDoor
