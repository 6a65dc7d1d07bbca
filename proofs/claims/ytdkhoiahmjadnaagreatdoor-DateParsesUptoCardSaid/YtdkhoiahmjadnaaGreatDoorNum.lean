/-
  The walk of date's number. Conditions: a text's length, the bounds that its callers hand in.
-/
import Derived.Test.YtdkhoiahmjadnaaGreatDoorLow
import Derived.Shelf.Strings.SlTrimAscii
import Derived.Lib.Atoi
namespace Go.Proofs.YtdkhoiahmjadnaaGreatDoor
open Go.RowKit Go.Sort
set_option linter.unusedVariables false

/-- digits alone, so many at least and at most, up to a bound; -1: they are none -/
def numP (l : List UInt8) (lo hi b : Int) : Int := if (l.length : Int) < lo ∨ hi < l.length then -1 else
  match Lib.decNat l with
  | some n => if b < n then -1 else n
  | none => -1
def digs : List UInt8 := [48, 49, 50, 51, 52, 53, 54, 55, 56, 57]
theorem digs_has (b : UInt8) : digs.contains b = true ↔ (48 ≤ b.toNat ∧ b.toNat ≤ 57) := by
  unfold digs
  simp [← UInt8.toNat_inj]
  omega
theorem trimS_nil (l cs : List UInt8) : Lib.trimS l cs = [] ↔ ∀ b ∈ l, cs.contains b = true := by
  have key : ∀ l : List UInt8, l.dropWhile (cs.contains ·) = [] ↔ ∀ b ∈ l, cs.contains b = true := by
    intro l
    induction l with
    | nil => simp
    | cons a t ih =>
      rw [List.dropWhile_cons]
      cases h : cs.contains a
      · simp [h]
        intro h'
        simp [List.contains_iff_mem] at h
        exact absurd h' h
      · simp only [if_true, ih]
        constructor
        · intro hh b hb
          rcases List.mem_cons.1 hb with rfl | hb
          · exact h
          · exact hh b hb
        · exact fun hh b hb => hh b (List.mem_cons_of_mem _ hb)
  have head : ∀ (l : List UInt8) (a : UInt8) (t : List UInt8), l.dropWhile (cs.contains ·) = a :: t → ¬ cs.contains a = true := by
    intro l
    induction l with
    | nil => intro a t h; simp at h
    | cons x r ih =>
      intro a t h
      rw [List.dropWhile_cons] at h
      cases hx : cs.contains x
      · rw [hx] at h
        simp only [Bool.false_eq_true, if_false] at h
        injection h with h1 h2
        rw [← h1, hx]
        exact Bool.false_ne_true
      · rw [hx] at h
        exact ih a t h
  unfold Lib.trimS Lib.trimLeftS Lib.trimRightS
  rw [key]
  constructor
  · intro h b hb
    have hnil : l.reverse.dropWhile (cs.contains ·) = [] := by
      match e : l.reverse.dropWhile (cs.contains ·) with
      | [] => rfl
      | a :: t => exact absurd (h a (by rw [e]; simp)) (head _ a t e)
    exact (key _).1 hnil b (List.mem_reverse.2 hb)
  · intro h b hb
    rw [(key l.reverse).2 (fun b hb => h b (List.mem_reverse.1 hb))] at hb
    simp at hb
theorem decFrom_some : ∀ (l : List UInt8) (acc : Nat), (∀ b ∈ l, 48 ≤ b.toNat ∧ b.toNat ≤ 57) → ∃ n, Lib.decFrom acc l = some n ∧ n < (acc + 1) * 10 ^ l.length
  | [], acc, _ => ⟨acc, rfl, by simp⟩
  | b :: r, acc, h => by
    have hb := h b (by simp)
    obtain ⟨n, h1, h2⟩ := decFrom_some r (acc * 10 + (b.toNat - 48)) (fun x hx => h x (by simp [hx]))
    refine ⟨n, ?_, ?_⟩
    · unfold Lib.decFrom Lib.digitVal
      rw [if_pos hb]
      exact h1
    · have : (acc * 10 + (b.toNat - 48) + 1) * 10 ^ r.length ≤ ((acc + 1) * 10) * 10 ^ r.length := Nat.mul_le_mul_right _ (by omega)
      rw [List.length_cons, Nat.pow_succ, Nat.mul_comm (10 ^ r.length) 10, ← Nat.mul_assoc]
      omega
theorem decFrom_none : ∀ (l : List UInt8) (acc : Nat), ¬ (∀ b ∈ l, 48 ≤ b.toNat ∧ b.toNat ≤ 57) → Lib.decFrom acc l = none
  | [], acc, h => absurd (fun b hb => absurd hb (by simp)) h
  | b :: r, acc, h => by
    by_cases hb : 48 ≤ b.toNat ∧ b.toNat ≤ 57
    · unfold Lib.decFrom Lib.digitVal
      rw [if_pos hb]
      refine decFrom_none r _ fun hr => h fun x hx => ?_
      rcases List.mem_cons.1 hx with rfl | hx
      · exact hb
      · exact hr x hx
    · unfold Lib.decFrom Lib.digitVal
      rw [if_neg hb]
theorem decNat_some {l : List UInt8} (hl : l ≠ []) (h : ∀ b ∈ l, 48 ≤ b.toNat ∧ b.toNat ≤ 57) : ∃ n, Lib.decNat l = some n ∧ n < 10 ^ l.length ∧ Lib.atoi l = some (n : Int) := by
  obtain ⟨n, h1, h2⟩ := decFrom_some l 0 h
  match l, hl with
  | b :: r, _ =>
    have hb := h b (by simp)
    have e1 : Lib.decNat (b :: r) = some n := h1
    refine ⟨n, e1, by simpa using h2, ?_⟩
    have n1 : (b == 45) = false := by rw [beq_eq_false_iff_ne]; intro e; rw [e] at hb; exact absurd hb.1 (by decide)
    have n2 : (b == 43) = false := by rw [beq_eq_false_iff_ne]; intro e; rw [e] at hb; exact absurd hb.1 (by decide)
    show (if (b == 45) = true then _ else if (b == 43) = true then _ else (Lib.decNat (b :: r)).map fun (m : Nat) => (m : Int)) = _
    rw [n1, n2, e1]
    rfl
theorem decNat_none {l : List UInt8} (h : ¬ ∀ b ∈ l, 48 ≤ b.toNat ∧ b.toNat ≤ 57) : Lib.decNat l = none := by
  unfold Lib.decNat
  split
  · rfl
  · exact decFrom_none l 0 h
theorem trim_walk (s : ByteArray) (hs : s.size ≤ 9223372036854775807) (w : World) :
    Calls Tryz.prog 48 #[.string s, .string ⟨#[48, 49, 50, 51, 52, 53, 54, 55, 56, 57]⟩] w fun e w' => Below w.heap.size w w' ∧ e = .returned (.string ⟨(Lib.trimS s.data.toList digs).toArray⟩) :=
  (Any.strings_Trim_laid Tryz.lays160 (by kernel_rfl) s ⟨#[48, 49, 50, 51, 52, 53, 54, 55, 56, 57]⟩ w hs (by decide) (ascii_of (by decide +kernel))).mono fun _ _ ⟨a, b⟩ => ⟨b, a⟩
set_option maxRecDepth 100000 in
theorem number_walk (s : ByteArray) (lo hi b : Int) (h0 : 1 ≤ lo) (h1 : hi ≤ 4) (hb0 : -1 ≤ b) (hb1 : b ≤ 100000) (w : World) (hs : s.size ≤ 9223372036854775807) :
    Calls Tryz.prog 35 #[.string s, .int .i64 lo, .int .i64 hi, .int .i64 b] w fun e w' => Below w.heap.size w w' ∧ e = .returned (.int .i64 (numP s.data.toList lo hi b)) := by
  have HT := Lib.hid (trim_walk s hs w)
  have hsz : s.size = s.data.toList.length := by rw [← Lib.size_eq]
  have HSZ := Lib.hid hsz
  clear hsz
  by_cases hlo : (s.size : Int) < lo
  · have he : Hid (numP s.data.toList lo hi b = -1) := Lib.hid (if_pos (by rw [← HSZ.out]; exact .inl hlo))
    go_enter Tryz.func35, Tryz.ntmps35
    go_wp2
    go_ret
    exact ⟨Below.refl _ _, by rw [he.out]; rfl⟩
  by_cases hhi : hi < (s.size : Int)
  · have he : Hid (numP s.data.toList lo hi b = -1) := Lib.hid (if_pos (by rw [← HSZ.out]; exact .inr hhi))
    go_enter Tryz.func35, Tryz.ntmps35
    go_wp2
    go_ret
    exact ⟨Below.refl _ _, by rw [he.out]; rfl⟩
  have hne : s.data.toList ≠ [] := fun e => by
    have := HSZ.out
    rw [e] at this
    have h2 : s.size = 0 := this
    omega
  have hin : ¬ ((s.data.toList.length : Int) < lo ∨ hi < s.data.toList.length) := by rw [← HSZ.out]; omega
  by_cases had : ∀ x ∈ s.data.toList, 48 ≤ x.toNat ∧ x.toNat ≤ 57
  · obtain ⟨n, hn1, hn2, hn3⟩ := decNat_some hne had
    have hnb : n ≤ 9999 := by
      have : 10 ^ s.data.toList.length ≤ 10 ^ 4 := Nat.pow_le_pow_right (by omega) (by rw [← HSZ.out]; omega)
      omega
    have hnil : Lib.trimS s.data.toList digs = [] := (trimS_nil _ _).2 fun x hx => (digs_has x).2 (had x hx)
    rw [hnil] at HT
    have HA := Lib.hid (fun w' => Tryz.strconv_Atoi s n (by omega) hn3 w')
    have hval : numP s.data.toList lo hi b = if b < n then -1 else (n : Int) := by
      unfold numP
      rw [if_neg hin, hn1]
    have HV := Lib.hid hval
    clear hval hnil hn1 hn2 hn3 hin had hne
    by_cases hbn : b < (n : Int)
    · have he : Hid (numP s.data.toList lo hi b = -1) := Lib.hid (by rw [HV.out, if_pos hbn])
      go_enter Tryz.func35, Tryz.ntmps35
      go_wp2_with fail
      refine HT.out.mono ?_
      rintro e w2 ⟨hb2, rfl⟩
      go_wp2_with fail
      refine (HA.out w2).mono ?_
      rintro e w3 ⟨rfl, t, rfl⟩
      have HB := Lib.hid (hb2.trans ((below_bytesWorld w2 5 t).mono hb2.size))
      generalize Lib.bytesWorld w2 5 t = w3 at *
      clear hb2
      go_wp2
      go_ret
      exact ⟨HB.out, by rw [he.out]; rfl⟩
    · have he : Hid (numP s.data.toList lo hi b = n) := Lib.hid (by rw [HV.out, if_neg hbn])
      go_enter Tryz.func35, Tryz.ntmps35
      go_wp2_with fail
      refine HT.out.mono ?_
      rintro e w2 ⟨hb2, rfl⟩
      go_wp2_with fail
      refine (HA.out w2).mono ?_
      rintro e w3 ⟨rfl, t, rfl⟩
      have HB := Lib.hid (hb2.trans ((below_bytesWorld w2 5 t).mono hb2.size))
      generalize Lib.bytesWorld w2 5 t = w3 at *
      clear hb2
      go_wp2
      go_ret
      exact ⟨HB.out, by rw [he.out]; rfl⟩
  · have he : Hid (numP s.data.toList lo hi b = -1) := Lib.hid (by unfold numP; rw [if_neg hin, decNat_none had])
    have hz : Lib.trimS s.data.toList digs ≠ [] := fun e => had fun x hx => (digs_has x).1 ((trimS_nil _ _).1 e x hx)
    generalize Lib.trimS s.data.toList digs = z at *
    have hq : ¬ (⟨z.toArray⟩ : ByteArray) = ⟨#[]⟩ := by
      intro e
      injection e with e
      exact hz (by simpa using congrArg Array.toList e)
    have hq2 := str_ne hq
    generalize (⟨z.toArray⟩ : ByteArray) = Z at *
    have hq3 : Z.toList.isEmpty = false := by
      cases h : Z.toList.isEmpty
      · rfl
      · rw [List.isEmpty_iff] at h
        rw [h] at hq2
        exact absurd hq2 (by decide +kernel)
    have HQ := Lib.hid hq
    clear hq hq2
    clear hin hne had hz
    go_enter Tryz.func35, Tryz.ntmps35
    go_wp2_with fail
    refine HT.out.mono ?_
    rintro e w2 ⟨hb2, rfl⟩
    go_wp2
    go_ret
    exact ⟨hb2, by rw [he.out]; rfl⟩
end Go.Proofs.YtdkhoiahmjadnaaGreatDoor
