/-
  The walks of record's reader: fixed, number, text. No condition but what the reader holds.
-/
import Derived.Test.YtfnhaddgdfkmcaaDoorRdW
import Derived.Deep.RegionWith
namespace Go.Proofs.YtfnhaddgdfkmcaaDoor
open Go.RowKit Go.Sort
set_option linter.unusedVariables false

theorem fixS_step {c : UInt8} {r : List UInt8} {st : St} {z : Int} (h : ∀ x l, st = .ok (x :: l) → z = (x.toNat : Int)) : fixS (c :: r) st = fixS r (needS (z == (c.toNat : Int)) (byteS st)) := by
  match st with
  | .bad e => rw [fixS_bad]; show _ = fixS r (.bad e); rw [fixS_bad]
  | .ok [] => show St.bad 32 = fixS r (.bad 32); rw [fixS_bad]
  | .ok (x :: l) =>
    have hz := h x l rfl
    subst hz
    show (if x = c then fixS r (.ok l) else .bad 30) = fixS r (if ((x.toNat : Int) == (c.toNat : Int)) = true then .ok l else .bad 30)
    by_cases hx : x = c
    · subst hx; rw [if_pos rfl, if_pos (by simp)]
    · rw [if_neg hx, if_neg (by rw [beq_iff_eq]; intro e; exact hx (UInt8.toNat_inj.1 (by omega))), fixS_bad]

set_option maxHeartbeats 1000000 in
theorem fixed_walk (g B : Nat) (s : ByteArray) (st : St) (w : World) (h : RdAt w g 69 B st) (hs : s.size ≤ 1000) :
    Calls Tryd.prog 41 #[.pointer (some ⟨g, 0, none⟩), .string s] w fun e w' => Only g w w' ∧ RdAt w' g 69 B (fixS s.data.toList st) ∧ e = .returned (.tuple #[]) := by
  obtain ⟨F, hF⟩ : ∃ F, fixS s.data.toList st = F := ⟨_, rfl⟩
  have HF := Lib.hid hF
  rw [hF]
  clear hF
  go_enter Tryd.func41, Tryd.ntmps41
  go_wp2
  go_loopg [7] s.size (fun k i wr => Only g w wr ∧ ∃ (j : Nat) (st' : St), j + k = s.size ∧ i = .int .i64 j ∧ Hid (RdAt wr g 69 B st') ∧ Hid (fixS (s.data.toList.drop j) st' = F))
  case atStart => exact ⟨Only.refl w, 0, st, by omega, rfl, Lib.hid h, Lib.hid (by rw [List.drop_zero]; exact HF.out)⟩
  case round =>
    obtain ⟨ho, j, st', hj, rfl, HR, HE⟩ := hrel
    by_cases hlt : j < s.size
    · obtain ⟨c, hc1, hc2⟩ := drop_bt (l := s.data.toList) (j := j) (by rw [← size_len]; exact hlt)
      have hg : ((s[j]'hlt).toNat : Int) = (c.toNat : Int) := by
        rw [hc2, bt_getElem (by rw [← size_len]; exact hlt)]; rfl
      have hj1 : (j : Int) < (s.size : Int) := by omega
      rw [hc1] at HE
      have hc0 : 0 ≤ (c.toNat : Int) := by omega
      have hc255 : (c.toNat : Int) ≤ 255 := by have := c.toNat_lt; omega
      clear hc1 hc2 h HF
      go_wp2
      go_region_with (first | (go_at_call 42; refine (byte_walk g B st' _ (HR.out.heap (by rfl))).mono ?_; rintro e w1 ⟨ho1, hr1, z, hz0, hz1, rfl, hz⟩; have HR1 := Lib.hid hr1; clear hr1; have HZ := Lib.hid hz; clear hz) | (go_at_call 40; refine (need_walk g B _ _ _ HR1.out).mono ?_; rintro e w2 ⟨ho2, hr2, rfl⟩; have HR2 := Lib.hid hr2; clear hr2))
      all_goals
        go_wp2
        go_roundg (gk - 1)
        case rel =>
          refine ⟨Only.trans (Only.trans (w' := wr.drew) ⟨ho.os, ho.tape, ho.output, ho.size, ho.block⟩ ho1) ho2, j + 1, _, by omega, by go_num, HR2, Lib.hid ?_⟩
          rw [← HE.out, fixS_step HZ.out]
        case measure => omega
    · have hj1 : (s.size : Int) ≤ (j : Int) := by omega
      rw [List.drop_eq_nil_of_le (by rw [← size_len]; omega)] at HE
      go_wp2
      go_end0
      exact ⟨ho, by rw [← HE.out]; exact HR.out, rfl⟩

/-- what number, text answer -/
def NumAnsR (kind : List UInt8) (st : St) (e : Ending) : Prop := ∃ z : Int, 0 ≤ z ∧ z ≤ 9007199254740992 ∧ e = .returned (.int .i64 z) ∧ ∀ l, numS kind st = .ok l → z = numV kind st
def TextAnsR (kind : List UInt8) (st : St) (e : Ending) : Prop := ∃ t : List UInt8, t.length ≤ 1048576 ∧ e = .returned (.string ⟨t.toArray⟩) ∧ ∀ l, textS kind st = .ok l → t = textV kind st
theorem tkN_rng (l : List UInt8) : ((tkN l).2.2 = 0 → 0 ≤ (tkN l).1 ∧ (tkN l).1 ≤ 9007199254740992 ∧ 0 ≤ (tkN l).2.1 ∧ (tkN l).2.1 ≤ l.length) := fun h => by
  have := tk_ok (en := 59) (dg := 16) (mo := 9007199254740992) (z := bt l 0) (l := l) (i := 0) (n := 0) (by omega) (by omega) h
  unfold tkN; omega
theorem tk_zero {en dg mo z : Int} : ∀ {l : List UInt8} {i : Nat} {n : Int}, (tk en dg mo z l i n).2.2 ≠ 0 → (tk en dg mo z l i n).1 = 0 ∧ (tk en dg mo z l i n).2.1 = 0
  | [], _, _, _ => ⟨rfl, rfl⟩
  | c :: r, i, n, h => by
    unfold tk at h ⊢
    by_cases h1 : (c.toNat : Int) = en ∧ 0 < i
    · rw [if_pos h1] at h ⊢
      by_cases h2 : mo < n
      · rw [if_pos h2]; exact ⟨rfl, rfl⟩
      · rw [if_neg h2] at h; simp at h
    · rw [if_neg h1] at h ⊢
      by_cases h2 : (c.toNat : Int) < 48 ∨ 57 < (c.toNat : Int) ∨ (i : Int) = dg ∨ (i = 1 ∧ z = 48)
      · rw [if_pos h2]; exact ⟨rfl, rfl⟩
      · rw [if_neg h2] at h ⊢
        exact tk_zero h
theorem tkN_all (l : List UInt8) : 0 ≤ (tkN l).1 ∧ (tkN l).1 ≤ 9007199254740992 := by
  by_cases h : (tkN l).2.2 = 0
  · exact ⟨(tkN_rng l h).1, (tkN_rng l h).2.1⟩
  · have := tk_zero h; unfold tkN; omega

theorem ttS_rng (l : List UInt8) : (ttS l).length ≤ 1048576 ∧ (0 ≤ ttN l ∧ ttN l ≤ l.length) := by
  by_cases h : ttE l = 0
  · unfold ttS ttN
    rw [if_pos h, if_pos h]
    unfold ttE at h
    by_cases h1 : (ttk l).2.2 ≠ 0
    · rw [if_pos h1] at h; exact absurd h h1
    · rw [if_neg h1] at h
      have hk := tk_ok (en := 58) (dg := 7) (mo := 1048576) (z := bt l 0) (l := l) (i := 0) (n := 0) (by omega) (by omega) (by unfold ttk at h1; omega)
      by_cases h2 : (l.length : Int) ≤ (ttk l).2.1 + (ttk l).1
      · rw [if_pos h2] at h; cases h
      · unfold ttk at h2 ⊢
        rw [List.length_take]
        omega
  · unfold ttS ttN
    rw [if_neg h, if_neg h]
    simp

set_option maxHeartbeats 1000000 in
theorem number_walk (g B : Nat) (s : ByteArray) (st : St) (w : World) (h : RdAt w g 69 B st) (hs : s.size ≤ 1000) :
    Calls Tryd.prog 38 #[.pointer (some ⟨g, 0, none⟩), .string s] w fun e w' => Only g w w' ∧ RdAt w' g 69 B (numS s.data.toList st) ∧ NumAnsR s.data.toList st e := by
  have HF := Lib.hid (fixed_walk g B s st w h hs)
  clear h
  go_enter Tryd.func38, Tryd.ntmps38
  go_wp2_with fail
  refine HF.out.mono ?_
  rintro e w1 ⟨ho1, hr1, rfl⟩
  obtain ⟨A, c, l, x, hr, hx⟩ := hr1
  have hT := tkN_rng l
  obtain ⟨ha0, ha1⟩ := tkN_all l
  have hnum := takeNumber_any A l c w1 B hr.rb (Nat.le_trans hr.cap hr.max)
  change Calls _ _ _ _ fun e w' => w1 = w' ∧ e = .returned (.tuple #[.int .i64 (tkN l).1, .int .i64 (tkN l).2.1, .int .i64 (tkN l).2.2]) at hnum
  have k0 := hr.c0
  have hw := went_walk g B (tkN l).2.1 (tkN l).2.2 (stOf l x) w1 ⟨A, c, l, x, hr, rfl⟩ (fun l' h1 h2 => by
    have e : l' = l := by
      unfold stOf at h1
      split at h1
      · injection h1 with h1; exact h1.symm
      · cases h1
    rw [e]
    exact (hT h2).2.2) (fun h => by omega)
  have hfin : Hid (numS s.data.toList st = wentS (tkN l).2.1 (tkN l).2.2 (stOf l x) ∧ (∀ l', numS s.data.toList st = .ok l' → (tkN l).1 = numV s.data.toList st)) := Lib.hid (by
    unfold numS numV
    rw [← hx]
    unfold stOf
    by_cases h0 : x = 0
    · rw [if_pos h0]; exact ⟨rfl, fun _ _ => rfl⟩
    · rw [if_neg h0]; exact ⟨rfl, fun l' h => by cases h⟩)
  have HW := Lib.hid hw
  have HN := Lib.hid hnum
  clear hT hnum hx HF hw hr
  generalize tkN l = K at *
  obtain ⟨v, n, x'⟩ := K
  go_wp2_with fail
  refine HN.out.mono ?_
  rintro e w' ⟨rfl, rfl⟩
  go_wp2_with fail
  refine HW.out.mono ?_
  rintro e w2 ⟨ho2, hr2, rfl⟩
  go_wp2
  go_ret
  exact ⟨ho1.trans ho2, by rw [hfin.out.1]; exact hr2, v, ha0, ha1, rfl, hfin.out.2⟩

set_option maxHeartbeats 1000000 in
theorem text_walk (g B : Nat) (s : ByteArray) (st : St) (w : World) (h : RdAt w g 69 B st) (hs : s.size ≤ 1000) :
    Calls Tryd.prog 39 #[.pointer (some ⟨g, 0, none⟩), .string s] w fun e w' => Only g w w' ∧ RdAt w' g 69 B (textS s.data.toList st) ∧ TextAnsR s.data.toList st e := by
  have HF := Lib.hid (fixed_walk g B s st w h hs)
  clear h
  go_enter Tryd.func39, Tryd.ntmps39
  go_wp2_with fail
  refine HF.out.mono ?_
  rintro e w1 ⟨ho1, hr1, rfl⟩
  obtain ⟨A, c, l, x, hr, hx⟩ := hr1
  obtain ⟨hs1, hs2⟩ := ttS_rng l
  have hnum := takeText_any A l c w1 B hr.rb (Nat.le_trans hr.cap hr.max) hr.cap hr.max
  have k0 := hr.c0
  have hw := went_walk g B (ttN l) (ttE l) (stOf l x) w1 ⟨A, c, l, x, hr, rfl⟩ (fun l' h1 h2 => by
    have e : l' = l := by
      unfold stOf at h1
      split at h1
      · injection h1 with h1; exact h1.symm
      · cases h1
    rw [e]
    exact hs2) (fun h => by omega)
  have hfin : Hid (textS s.data.toList st = wentS (ttN l) (ttE l) (stOf l x) ∧ (∀ l', textS s.data.toList st = .ok l' → ttS l = textV s.data.toList st)) := Lib.hid (by
    unfold textS textV
    rw [← hx]
    unfold stOf
    by_cases h0 : x = 0
    · rw [if_pos h0]; exact ⟨rfl, fun _ _ => rfl⟩
    · rw [if_neg h0]; exact ⟨rfl, fun l' h => by cases h⟩)
  have HW := Lib.hid hw
  have HN := Lib.hid hnum
  clear hnum hx HF hw hr hs2
  generalize ttS l = v at *
  generalize ttN l = n at *
  generalize ttE l = x' at *
  go_wp2_with fail
  refine HN.out.mono ?_
  rintro e w' ⟨rfl, rfl⟩
  go_wp2_with fail
  refine HW.out.mono ?_
  rintro e w2 ⟨ho2, hr2, rfl⟩
  go_wp2
  go_ret
  exact ⟨ho1.trans ho2, by rw [hfin.out.1]; exact hr2, v, hs1, rfl, hfin.out.2⟩
end Go.Proofs.YtfnhaddgdfkmcaaDoor
