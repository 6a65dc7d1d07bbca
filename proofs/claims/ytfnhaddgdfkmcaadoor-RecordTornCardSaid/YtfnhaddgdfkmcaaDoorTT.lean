/-
  The walks of TakeText of both. No condition but the sizes that the form gives.
-/
import Derived.Test.YtfnhaddgdfkmcaaDoorTake
import Derived.Test.YtfnhaddgdfkmcaaDoorNum
namespace Go.Proofs.YtfnhaddgdfkmcaaDoor
open Go.RowKit
set_option linter.unusedVariables false

theorem tk_ok {en dg mo z : Int} : ∀ {l : List UInt8} {i : Nat} {n : Int}, 0 ≤ n → (i : Int) ≤ dg → (tk en dg mo z l i n).2.2 = 0 →
    0 ≤ (tk en dg mo z l i n).1 ∧ (tk en dg mo z l i n).1 ≤ mo ∧ (i : Int) < (tk en dg mo z l i n).2.1 ∧ (tk en dg mo z l i n).2.1 ≤ (i : Int) + l.length ∧ (tk en dg mo z l i n).2.1 ≤ dg + 1 := by
  intro l
  induction l with
  | nil => intro i n _ _ h; simp [tk] at h
  | cons c r ih =>
    intro i n hn hi h
    unfold tk at h ⊢
    by_cases h1 : (c.toNat : Int) = en ∧ 0 < i
    · rw [if_pos h1] at h ⊢
      by_cases h2 : mo < n
      · rw [if_pos h2] at h; simp at h
      · rw [if_neg h2]
        simp
        omega
    · rw [if_neg h1] at h ⊢
      by_cases h2 : (c.toNat : Int) < 48 ∨ 57 < (c.toNat : Int) ∨ (i : Int) = dg ∨ (i = 1 ∧ z = 48)
      · rw [if_pos h2] at h; simp at h
      · rw [if_neg h2] at h ⊢
        have := ih (i := i + 1) (n := n * 10 + ((c.toNat : Int) - 48)) (by omega) (by omega) h
        simp only [List.length_cons]
        omega

/-- what 'TakeText' answers -/
def ttk (l : List UInt8) : Int × Int × Int := tk 58 7 1048576 (bt l 0) l 0 0
def ttE (l : List UInt8) : Int := if (ttk l).2.2 ≠ 0 then (ttk l).2.2 else if (l.length : Int) ≤ (ttk l).2.1 + (ttk l).1 then 20 else if bt l ((ttk l).2.1 + (ttk l).1).toNat ≠ 44 then 21 else 0
def ttN (l : List UInt8) : Int := if ttE l = 0 then (ttk l).2.1 + (ttk l).1 + 1 else 0
def ttS (l : List UInt8) : List UInt8 := if ttE l = 0 then (l.drop (ttk l).2.1.toNat).take (ttk l).1.toNat else []

set_option maxRecDepth 100000 in
set_option maxHeartbeats 1000000 in
theorem takeText_any (A : Option Addr) (l : List UInt8) (cp : Nat) (w : World) (B : Nat) (h : RB w B A l) (hl : l.length ≤ maxLen) (hcp : l.length ≤ cp) (hcm : cp ≤ maxLen) :
    Calls Tryd.prog 56 #[.slice A l.length cp] w fun e w' => w = w' ∧
      e = .returned (.tuple #[.string ⟨(ttS l).toArray⟩, .int .i64 (ttN l), .int .i64 (ttE l)]) := by
  have c := take_any A l cp 58 7 1048576 w B h hl (by omega) (by omega) (by omega)
  have hok := tk_ok (en := 58) (dg := 7) (mo := 1048576) (z := bt l 0) (l := l) (i := 0) (n := 0) (by omega) (by omega)
  change Calls _ _ _ _ fun e w' => w = w' ∧ e = .returned (.tuple #[.int .i64 (ttk l).1, .int .i64 (ttk l).2.1, .int .i64 (ttk l).2.2]) at c
  change (ttk l).2.2 = 0 → 0 ≤ (ttk l).1 ∧ (ttk l).1 ≤ 1048576 ∧ ((0 : Nat) : Int) < (ttk l).2.1 ∧ (ttk l).2.1 ≤ ((0 : Nat) : Int) + l.length ∧ (ttk l).2.1 ≤ 7 + 1 at hok
  obtain ⟨E, hE⟩ : ∃ E, E = ttE l := ⟨_, rfl⟩
  obtain ⟨N, hN⟩ : ∃ N, N = ttN l := ⟨_, rfl⟩
  obtain ⟨S, hS⟩ : ∃ S, S = ttS l := ⟨_, rfl⟩
  rw [← hE, ← hN, ← hS]
  unfold ttN at hN; unfold ttS at hS
  rw [← hE] at hN hS
  unfold ttE at hE
  generalize ttk l = T at *
  obtain ⟨n, at_, er⟩ := T
  simp only at c hok hE hN hS
  replace hE := Lib.hid hE; replace hN := Lib.hid hN; replace hS := Lib.hid hS
  unfold maxLen at hl hcm
  have C := Lib.hid c; clear c
  by_cases he : er = 0
  · subst he
    obtain ⟨h1, h2, h3, h4, h5⟩ := hok rfl
    clear hok
    obtain ⟨n, rfl⟩ := Int.eq_ofNat_of_zero_le h1
    obtain ⟨a, rfl⟩ := Int.eq_ofNat_of_zero_le (show 0 ≤ at_ by omega)
    by_cases hle : l.length ≤ a + n
    · have hle' : ¬ (l.length : Int) - (a : Int) ≥ (n : Int) + 1 := by omega
      go_enter Tryd.func56, Tryd.ntmps56
      go_wp2_with (go_at_call 66; refine C.out.mono ?_; rintro e w' ⟨rfl, rfl⟩)
      go_ret3
      go_light
      have e1 : E = 20 := by rw [hE.out, if_neg (by omega), if_pos (by omega)]
      rw [e1, hN.out, hS.out, if_neg (by omega), if_neg (by omega)]
      exact ⟨rfl, rfl⟩
    · obtain ⟨b, off, rfl, hb, hc⟩ := h.at_ (show a + n < l.length by omega)
      have hcell := hc (a + n) (by omega)
      have hsub := RB.sub hb hc a n (by omega)
      have hcv := run_convRB (P := Tryd.prog) 23 9 5 Tryd.underlying23 Tryd.underlying5 Tryd.underlying9 hsub n (cp - a) (take_drop_len (by omega))
      have hne : ¬ cp = a := by omega
      have hg : a + n < l.length := by omega
      have hx0 := bt_lo l (a + n)
      have hx1 := bt_hi l (a + n)
      have hX : Hid (bt l ((a : Int) + (n : Int)).toNat = bt l (a + n)) := Lib.hid (by congr 1)
      rw [hX.out] at hE
      generalize bt l (a + n) = x at *
      have hS' : Hid (S = if E = 0 then (l.drop a).take n else []) := Lib.hid (by rw [hS.out]; simp)
      clear hc hsub hle h hS
      generalize (l.drop a).take n = R at *
      refine on_eq x 44 (fun X1 X2 => ?_) (fun X1 X2 => ?_) <;> have X3 := X2.out <;> clear X2
      all_goals
        go_enter Tryd.func56, Tryd.ntmps56
        go_wp2_with (go_at_call 66; refine C.out.mono ?_; rintro e w' ⟨rfl, rfl⟩)
        go_ret3
        go_light
        have X4 := X1.out
        refine ⟨rfl, ?_⟩
      · have e1 : E = 0 := by rw [hE.out, if_neg (by omega), if_neg (by omega), if_neg (by omega)]
        have e2 : N = (a : Int) + n + 1 := by rw [hN.out, if_pos e1]
        have e3 : S = R := by rw [hS'.out, if_pos e1]
        rw [e1, e2, e3]
        rfl
      · have e1 : E = 21 := by rw [hE.out, if_neg (by omega), if_neg (by omega), if_pos (by omega)]
        have e2 : N = 0 := by rw [hN.out, if_neg (by omega)]
        have e3 : S = [] := by rw [hS'.out, if_neg (by omega)]
        rw [e1, e2, e3]
        rfl
  · have e0 : (er == 0) = false := by simpa using he
    have H0 := Lib.hid he; clear he hok
    have e1 : (er != 0) = true := by simpa using H0.out
    go_enter Tryd.func56, Tryd.ntmps56
    go_wp2_with (go_at_call 66; refine C.out.mono ?_; rintro e w' ⟨rfl, rfl⟩)
    go_ret3
    go_light
    have e1 : E = er := by rw [hE.out, if_pos H0.out]
    have e2 := H0.out
    rw [e1, hN.out, hS.out, if_neg (by rw [e1]; exact e2), if_neg (by rw [e1]; exact e2)]
    exact ⟨rfl, rfl⟩

set_option maxRecDepth 100000 in
set_option maxHeartbeats 1000000 in
theorem rtakeText_any (A : Option Addr) (l : List UInt8) (cp : Nat) (w : World) (B : Nat) (h : RB w B A l) (hl : l.length ≤ maxLen) (hcp : l.length ≤ cp) (hcm : cp ≤ maxLen) :
    Calls Tryd.prog 54 #[.slice A l.length cp] w fun e w' => w = w' ∧
      e = .returned (.tuple #[.string ⟨(ttS l).toArray⟩, .int .i64 (ttN l), .int .i64 (ttE l)]) := by
  have c := rtake_any A l cp 58 7 1048576 w B h hl (by omega) (by omega) (by omega)
  have hok := tk_ok (en := 58) (dg := 7) (mo := 1048576) (z := bt l 0) (l := l) (i := 0) (n := 0) (by omega) (by omega)
  change Calls _ _ _ _ fun e w' => w = w' ∧ e = .returned (.tuple #[.int .i64 (ttk l).1, .int .i64 (ttk l).2.1, .int .i64 (ttk l).2.2]) at c
  change (ttk l).2.2 = 0 → 0 ≤ (ttk l).1 ∧ (ttk l).1 ≤ 1048576 ∧ ((0 : Nat) : Int) < (ttk l).2.1 ∧ (ttk l).2.1 ≤ ((0 : Nat) : Int) + l.length ∧ (ttk l).2.1 ≤ 7 + 1 at hok
  obtain ⟨E, hE⟩ : ∃ E, E = ttE l := ⟨_, rfl⟩
  obtain ⟨N, hN⟩ : ∃ N, N = ttN l := ⟨_, rfl⟩
  obtain ⟨S, hS⟩ : ∃ S, S = ttS l := ⟨_, rfl⟩
  rw [← hE, ← hN, ← hS]
  unfold ttN at hN; unfold ttS at hS
  rw [← hE] at hN hS
  unfold ttE at hE
  generalize ttk l = T at *
  obtain ⟨n, at_, er⟩ := T
  simp only at c hok hE hN hS
  replace hE := Lib.hid hE; replace hN := Lib.hid hN; replace hS := Lib.hid hS
  unfold maxLen at hl hcm
  have C := Lib.hid c; clear c
  by_cases he : er = 0
  · subst he
    obtain ⟨h1, h2, h3, h4, h5⟩ := hok rfl
    clear hok
    obtain ⟨n, rfl⟩ := Int.eq_ofNat_of_zero_le h1
    obtain ⟨a, rfl⟩ := Int.eq_ofNat_of_zero_le (show 0 ≤ at_ by omega)
    by_cases hle : l.length ≤ a + n
    · have hle' : ¬ (l.length : Int) - (a : Int) ≥ (n : Int) + 1 := by omega
      go_enter Tryd.func54, Tryd.ntmps54
      go_wp2_with (go_at_call 65; refine C.out.mono ?_; rintro e w' ⟨rfl, rfl⟩)
      go_ret3
      go_light
      have e1 : E = 20 := by rw [hE.out, if_neg (by omega), if_pos (by omega)]
      rw [e1, hN.out, hS.out, if_neg (by omega), if_neg (by omega)]
      exact ⟨rfl, rfl⟩
    · obtain ⟨b, off, rfl, hb, hc⟩ := h.at_ (show a + n < l.length by omega)
      have hcell := hc (a + n) (by omega)
      have hsub := RB.sub hb hc a n (by omega)
      have hcv := run_convRB (P := Tryd.prog) 23 9 5 Tryd.underlying23 Tryd.underlying5 Tryd.underlying9 hsub n (cp - a) (take_drop_len (by omega))
      have hne : ¬ cp = a := by omega
      have hg : a + n < l.length := by omega
      have hx0 := bt_lo l (a + n)
      have hx1 := bt_hi l (a + n)
      have hX : Hid (bt l ((a : Int) + (n : Int)).toNat = bt l (a + n)) := Lib.hid (by congr 1)
      rw [hX.out] at hE
      generalize bt l (a + n) = x at *
      have hS' : Hid (S = if E = 0 then (l.drop a).take n else []) := Lib.hid (by rw [hS.out]; simp)
      clear hc hsub hle h hS
      generalize (l.drop a).take n = R at *
      refine on_eq x 44 (fun X1 X2 => ?_) (fun X1 X2 => ?_) <;> have X3 := X2.out <;> clear X2
      all_goals
        go_enter Tryd.func54, Tryd.ntmps54
        go_wp2_with (go_at_call 65; refine C.out.mono ?_; rintro e w' ⟨rfl, rfl⟩)
        go_ret3
        go_light
        have X4 := X1.out
        refine ⟨rfl, ?_⟩
      · have e1 : E = 0 := by rw [hE.out, if_neg (by omega), if_neg (by omega), if_neg (by omega)]
        have e2 : N = (a : Int) + n + 1 := by rw [hN.out, if_pos e1]
        have e3 : S = R := by rw [hS'.out, if_pos e1]
        rw [e1, e2, e3]
        rfl
      · have e1 : E = 21 := by rw [hE.out, if_neg (by omega), if_neg (by omega), if_pos (by omega)]
        have e2 : N = 0 := by rw [hN.out, if_neg (by omega)]
        have e3 : S = [] := by rw [hS'.out, if_neg (by omega)]
        rw [e1, e2, e3]
        rfl
  · have e0 : (er == 0) = false := by simpa using he
    have H0 := Lib.hid he; clear he hok
    have e1 : (er != 0) = true := by simpa using H0.out
    go_enter Tryd.func54, Tryd.ntmps54
    go_wp2_with (go_at_call 65; refine C.out.mono ?_; rintro e w' ⟨rfl, rfl⟩)
    go_ret3
    go_light
    have e1 : E = er := by rw [hE.out, if_pos H0.out]
    have e2 := H0.out
    rw [e1, hN.out, hS.out, if_neg (by rw [e1]; exact e2), if_neg (by rw [e1]; exact e2)]
    exact ⟨rfl, rfl⟩
end Go.Proofs.YtfnhaddgdfkmcaaDoor
