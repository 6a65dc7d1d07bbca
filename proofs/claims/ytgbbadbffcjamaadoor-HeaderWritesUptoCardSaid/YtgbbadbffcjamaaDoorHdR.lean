/-
  The walks of waybillref11's line and colon. Conditions: the size.
-/
import Derived.Test.YtgbbadbffcjamaaDoorHdS0
namespace Go.Proofs.YtgbbadbffcjamaaDoor
open Go.RowKit
set_option linter.unusedVariables false
theorem lnP_crlf (r : List UInt8) : lnP (13 :: 10 :: r) = ([], 2) := by
  unfold lnP
  rw [cutCR, if_pos ⟨rfl, rfl⟩]
  rfl
theorem lnP_cons {a : UInt8} {r : List UInt8} (h : ¬ (a = 13 ∧ r.head? = some 10)) : (lnP (a :: r)).1.length = (lnP r).1.length + 1 ∧ (lnP (a :: r)).2 = (lnP r).2 + 1 := by
  cases r with
  | nil => exact ⟨rfl, rfl⟩
  | cons b r =>
    have hab : ¬ (a = 13 ∧ b = 10) := fun e => h ⟨e.1, by rw [e.2]; rfl⟩
    unfold lnP
    rw [cutCR, if_neg hab]
    cases e : cutCR (b :: r) with
    | none => exact ⟨rfl, rfl⟩
    | some xy =>
      obtain ⟨x, y⟩ := xy
      exact ⟨by simp, by simp⟩
theorem lnP_one {d : List UInt8} (h : d.length ≤ 1) : (lnP d).1.length = d.length ∧ (lnP d).2 = d.length := by
  match d, h with
  | [], _ => exact ⟨rfl, rfl⟩
  | [a], _ => exact ⟨rfl, rfl⟩
/-- a line's end, and where the next one begins -/
def lnI (l : List UInt8) (at_ : Nat) : Nat × Nat := (at_ + (lnP (l.drop at_)).1.length, at_ + (lnP (l.drop at_)).2)
theorem lnI_step {l : List UInt8} {i : Nat} (h : i < l.length) (hn : ¬ (l[i] = 13 ∧ (l.drop (i + 1)).head? = some 10)) : lnI l i = lnI l (i + 1) := by
  unfold lnI
  rw [List.drop_eq_getElem_cons h]
  obtain ⟨h1, h2⟩ := lnP_cons hn
  rw [h1, h2]
  congr 1 <;> omega
theorem lnI_hit {l : List UInt8} {i : Nat} (h : i + 1 < l.length) (h1 : l[i] = 13) (h2 : l[i + 1] = 10) : lnI l i = (i, i + 2) := by
  unfold lnI
  rw [List.drop_eq_getElem_cons (show i < l.length by omega), List.drop_eq_getElem_cons h, h1, h2, lnP_crlf]
  rfl
theorem lnI_end {l : List UInt8} {i : Nat} (h : l.length ≤ i + 1) (hi : i ≤ l.length) : lnI l i = (l.length, l.length) := by
  unfold lnI
  obtain ⟨h1, h2⟩ := lnP_one (d := l.drop i) (by rw [List.length_drop]; omega)
  rw [h1, h2, List.length_drop]
  congr 1 <;> omega
theorem head_drop {l : List UInt8} {i : Nat} (h : i < l.length) : (l.drop i).head? = some l[i] := by
  rw [List.drop_eq_getElem_cons h]; rfl
theorem on_byte (x y : UInt8) (k : Int) (hk : k = (y.toNat : Int)) : (x = y → ((x.toNat : Int) == k) = true) ∧ (¬ x = y → ((x.toNat : Int) == k) = false) := by
  subst hk
  refine ⟨fun h => by rw [h]; simp, fun h => ?_⟩
  rw [beq_eq_false_iff_ne]
  intro e
  exact h (UInt8.toNat_inj.1 (by omega))
theorem name_walk2 (l : List UInt8) (w : World) (hl : l.length ≤ 9223372036854775807) : Calls Tryd.prog 33 #[.string ⟨l.toArray⟩] w fun e w' => w = w' ∧ e = .returned (.bool (nameB l)) := by
  have := rname_walk ⟨l.toArray⟩ w (by rw [sv_size]; exact hl)
  simpa using this
set_option maxHeartbeats 1000000 in
theorem rline_walk (w : World) {B : Nat} (A : Option Addr) (l : List UInt8) (n c at_ : Nat) (hn : n = l.length) (hr : RB w B A l) (hl : n ≤ 4611686018427387904) (ha : at_ ≤ n) :
    Calls Tryd.prog 25 #[.slice A n c, .int .i64 (at_ : Int)] w fun e w' => w = w' ∧ e = .returned (.tuple #[.int .i64 ((lnI l at_).1 : Int), .int .i64 ((lnI l at_).2 : Int)]) := by
  obtain ⟨F, hF⟩ : ∃ F, lnI l at_ = F := ⟨_, rfl⟩
  rw [hF]
  have HF := Lib.hid hF
  have HR := Lib.hid hr
  have HN := Lib.hid hn
  clear hF hr hn
  go_enter Tryd.func25, Tryd.ntmps25
  go_wp2_with fail
  go_loopg [6] (n - at_) (fun k i wr => w = wr ∧ ∃ j : Nat, k = n - j ∧ j ≤ n ∧ i = .int .i64 j ∧ Hid (lnI l j = F))
  case atStart => exact ⟨rfl, at_, rfl, ha, rfl, HF⟩
  case round =>
    obtain ⟨rfl, j, hk, hjn, rfl, H⟩ := hrel
    clear HF
    have e1 : IntKind.i64.wrap ((j : Int) + 1) = (j : Int) + 1 := IntWalk.i64_in _ (by omega)
    by_cases hlt : j + 1 < n
    · have hj1 : (j : Int) + 1 < (n : Int) := by omega
      have hj2 : j + 1 < l.length := by rw [← HN.out]; exact hlt
      obtain ⟨b, off, rfl, -, hc⟩ := HR.out.at_ (j := j) (by omega)
      have c0 := hc j (by omega)
      have c1 := hc (j + 1) hj2
      rw [bt_getElem (by omega)] at c0
      rw [bt_getElem hj2] at c1
      have HS := Lib.hid (lnI_step (l := l) (i := j) (by omega))
      have HH := Lib.hid (lnI_hit hj2)
      have HD := Lib.hid (head_drop hj2)
      have HQ0 := Lib.hid (on_byte l[j] 13 13 rfl)
      have HQ1 := Lib.hid (on_byte l[j + 1] 10 10 rfl)
      clear hc
      generalize l[j] = x at *
      generalize l[j + 1] = y at *
      by_cases h13 : x = 13
      · have q0 := HQ0.out.1 h13
        by_cases h10 : y = 10
        · have q1 := HQ1.out.1 h10
          have HE : Hid (F = (j, j + 2)) := Lib.hid (by rw [← H.out]; exact HH.out h13 h10)
          clear HS HH HD HQ0 HQ1 h13 h10 H
          go_wp2
          go_ret2
          exact ⟨rfl, by rw [HE.out]; rfl⟩
        · have q1 := HQ1.out.2 h10
          have HE : Hid (lnI l (j + 1) = F) := Lib.hid (by rw [← HS.out (fun e => h10 (by have := e.2; rw [HD.out] at this; simpa using this))]; exact H.out)
          clear HS HH HD HQ0 HQ1 h13 h10 H
          go_wp2
          go_roundg (gk - 1)
          case rel => exact ⟨rfl, j + 1, by omega, by omega, by go_num, HE⟩
          case measure => omega
      · have q0 := HQ0.out.2 h13
        have HE : Hid (lnI l (j + 1) = F) := Lib.hid (by rw [← HS.out (fun e => h13 e.1)]; exact H.out)
        clear HS HH HD HQ0 HQ1 h13 H
        go_wp2
        go_roundg (gk - 1)
        case rel => exact ⟨rfl, j + 1, by omega, by omega, by go_num, HE⟩
        case measure => omega
    · have hj1 : ¬ (j : Int) + 1 < (n : Int) := by omega
      have HE : Hid (F = (n, n)) := Lib.hid (by rw [← H.out, lnI_end (by rw [← HN.out]; omega) (by rw [← HN.out]; omega), HN.out])
      clear H
      go_wp2
      go_ret2
      exact ⟨rfl, by rw [HE.out]; rfl⟩
/-- where the name of a line that begins a field ends; -1: it begins none -/
def colI (x : List UInt8) : Int := match colP x with
  | some (nm, _) => (nm.length : Int)
  | none => -1
theorem colI_hit {x : List UInt8} {j : Nat} (h : j < x.length) (h1 : (58 : UInt8) ∉ x.take j) (h2 : x[j] = 58) : colI x = if nameB (x.take j) = true then (j : Int) else -1 := by
  have hx : x = x.take j ++ 58 :: x.drop (j + 1) := by
    rw [← h2, ← List.drop_eq_getElem_cons h, List.take_append_drop]
  have hc : cutAt 58 x = some (x.take j, x.drop (j + 1)) := by
    rw [hx]
    have := cutAt_app (c := 58) (x := x.take j) (x.drop (j + 1)) h1
    rw [← hx]
    rw [← hx] at this
    exact this
  unfold colI colP
  rw [hc]
  by_cases hn : nameB (x.take j) = true
  · simp only [hn, if_true]
    simp; omega
  · simp only [hn]
    simp
theorem colI_none {x : List UInt8} (h : (58 : UInt8) ∉ x) : colI x = -1 := by
  unfold colI colP
  rw [cutAt_not h]
set_option maxHeartbeats 1000000 in
theorem colon_walk (w : World) {B : Nat} (A : Option Addr) (l : List UInt8) (n c : Nat) (hn : n = l.length) (hr : RB w B A l) (hc : n ≤ c) (hl : n ≤ 4611686018427387904) :
    Calls Tryd.prog 26 #[.slice A n c] w fun e w' => w = w' ∧ e = .returned (.int .i64 (colI l)) := by
  obtain ⟨F, hF⟩ : ∃ F, colI l = F := ⟨_, rfl⟩
  rw [hF]
  have HF := Lib.hid hF
  have HR := Lib.hid hr
  have HN := Lib.hid hn
  clear hF hr hn
  go_enter Tryd.func26, Tryd.ntmps26
  go_wp2_with fail
  go_loopg [3] n (fun k i wr => w = wr ∧ ∃ j : Nat, j + k = n ∧ i = .int .i64 j ∧ Hid ((58 : UInt8) ∉ l.take j))
  case atStart => exact ⟨rfl, 0, by omega, rfl, Lib.hid (by simp)⟩
  case round =>
    obtain ⟨rfl, j, hk, rfl, H⟩ := hrel
    by_cases hlt : j < n
    · have hj1 : (j : Int) < (n : Int) := by omega
      have hj2 : j < l.length := by rw [← HN.out]; exact hlt
      have hjc : (j : Int) ≤ (c : Int) := by omega
      obtain ⟨b, off, hA, -, hcl⟩ := HR.out.at_ (j := j) hj2
      subst hA
      have c0 := hcl j hj2
      rw [bt_getElem hj2] at c0
      have HH := Lib.hid (colI_hit hj2 H.out)
      have HQ0 := Lib.hid (on_byte l[j] 58 58 rfl)
      have H2 : Hid (¬ l[j] = 58 → (58 : UInt8) ∉ l.take (j + 1)) := Lib.hid fun hne => by
        rw [List.take_succ_eq_append_getElem hj2]
        intro hm
        rcases List.mem_append.1 hm with hm | hm
        · exact H.out hm
        · simp at hm; exact hne hm.symm
      clear hcl
      generalize l[j] = x at *
      by_cases h58 : x = 58
      · have q0 := HQ0.out.1 h58
        have HE : Hid (F = if nameB (l.take j) = true then (j : Int) else -1) := Lib.hid (by rw [← HF.out]; exact HH.out h58)
        have hcv := conv_rb (HR.out.take j) j c (by rw [List.length_take]; omega)
        have KN := Lib.hid (name_walk2 (l.take j) w (by rw [List.length_take]; omega))
        obtain ⟨nb, hnb⟩ : ∃ nb, nameB (l.take j) = nb := ⟨_, rfl⟩
        rw [hnb] at KN HE
        generalize (⟨(l.take j).toArray⟩ : ByteArray) = sN at *
        clear HH HQ0 H2 h58 hnb H
        cases nb
        · have HE2 : Hid (F = -1) := Lib.hid (by rw [HE.out]; rfl)
          go_wp2_with (with_reducible refine KN.out.mono ?_; rintro e31 w31 ⟨rfl, rfl⟩)
          go_ret
          exact ⟨rfl, by rw [HE2.out]; rfl⟩
        · have HE2 : Hid (F = (j : Int)) := Lib.hid (by rw [HE.out]; rfl)
          go_wp2_with (with_reducible refine KN.out.mono ?_; rintro e31 w31 ⟨rfl, rfl⟩)
          go_ret
          exact ⟨rfl, by rw [HE2.out]; rfl⟩
      · have q0 := HQ0.out.2 h58
        have HE := Lib.hid (H2.out h58)
        clear HH HQ0 H2 h58 H
        go_wp2
        go_roundg (gk - 1)
        case rel => exact ⟨rfl, j + 1, by omega, by go_num, HE⟩
        case measure => omega
    · have hj1 : ¬ (j : Int) < (n : Int) := by omega
      have HE : Hid (F = -1) := Lib.hid (by rw [← HF.out]; exact colI_none (by have := H.out; rwa [List.take_of_length_le (by rw [← HN.out]; omega)] at this))
      clear H
      go_wp2
      go_ret
      exact ⟨rfl, by rw [HE.out]; rfl⟩
end Go.Proofs.YtgbbadbffcjamaaDoor
