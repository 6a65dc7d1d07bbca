/-
  The walks of waybillref14.number, Class, Status and reply.Class. No condition but the sizes that the form gives.
-/
import Derived.Test.YteicojighhhgjaaDoorStat
import Derived.Deep.CutBlock
import Derived.Deep.DeepCutAuto
import Derived.Outline
namespace Go.Proofs.YteicojighhhgjaaDoor
open Go.RowKit Go.Sort
set_option linter.unusedVariables false

theorem valD_snoc (l : List UInt8) (c : UInt8) : valD (l ++ [c]) = 10 * valD l + (c.toNat : Int) - 48 := by simp [valD, List.foldl_append]
theorem valD_rng {l : List UInt8} (h : ∀ c ∈ l, dg c = true) (h4 : l.length ≤ 4) : 0 ≤ valD l ∧ valD l ≤ 9999 := by
  have d := fun c (hc : c ∈ l) => dg_of (h c hc)
  match l, h4 with
  | [], _ => simp [valD]
  | [a], _ => have := d a (by simp); simp only [valD, List.foldl_cons, List.foldl_nil]; omega
  | [a, b], _ => have := d a (by simp); have := d b (by simp); simp only [valD, List.foldl_cons, List.foldl_nil]; omega
  | [a, b, c], _ => have := d a (by simp); have := d b (by simp); have := d c (by simp); simp only [valD, List.foldl_cons, List.foldl_nil]; omega
  | [a, b, c, e], _ => have := d a (by simp); have := d b (by simp); have := d c (by simp); have := d e (by simp); simp only [valD, List.foldl_cons, List.foldl_nil]; omega
theorem run4_at {r : List UInt8} {j : Nat} (h : ∀ c ∈ r.take j, dg c = true) (hj : j ≤ 4) (hl : j ≤ r.length) (he : j = 4 ∨ j = r.length ∨ isDig (bt r j) = false) : run4 r = j := by
  unfold run4
  have e : (r.take 4) = r.take j ++ (r.drop j).take (4 - j) := by
    conv => lhs; rw [← List.take_append_drop j r]
    rw [List.take_append, List.take_of_length_le (by rw [List.length_take]; omega), List.length_take, Nat.min_eq_left hl]
  rw [e, List.takeWhile_append_of_pos h]
  have hz : ((r.drop j).take (4 - j)).takeWhile dg = [] := by
    rcases he with rfl | rfl | he
    · simp
    · simp
    · rcases Nat.lt_or_ge j r.length with hlt | hge
      · rcases Nat.lt_or_ge j 4 with h4 | h4
        · rw [List.drop_eq_getElem_cons hlt, show 4 - j = (3 - j) + 1 by omega, List.take_succ_cons, List.takeWhile_cons]
          rw [bt_getElem hlt] at he
          rw [show dg r[j] = false from he]
          rfl
        · rw [show 4 - j = 0 by omega]; rfl
      · rw [List.drop_eq_nil_of_le hge]; simp
  rw [hz, List.append_nil, List.length_take]
  omega
/-- what number answers -/
def NumAns (r : List UInt8) (a : Nat) (e : Ending) : Prop :=
  ∃ n k : Int, e = .returned (.tuple #[.int .i64 n, .int .i64 k, .bool (nOk r)]) ∧ (nOk r = true → n = nV r ∧ k = (a : Int) + (run4 r : Nat))

set_option maxHeartbeats 1000000 in
theorem num_walk (s : ByteArray) (a : Nat) (w : World) (hs : s.size ≤ 140737488355328) (ha : a ≤ s.size) :
    Calls Tryd.prog 37 #[.string s, .int .i64 a] w fun e w' => w = w' ∧ NumAns (s.data.toList.drop a) a e := by
  obtain ⟨r, hr⟩ : ∃ r, s.data.toList.drop a = r := ⟨_, rfl⟩
  have hrl : r.length = s.size - a := by rw [← hr, List.length_drop]; rfl
  have hbt : ∀ j (h : a + j < s.size), ((s[a + j]'h).toNat : Int) = bt r j := fun j h => by
    rw [get_list, ← hr]; unfold bt; rw [List.getD_eq_getElem?_getD, List.getD_eq_getElem?_getD, List.getElem?_drop]
  rw [hr]
  clear hr
  have HRL := Lib.hid hrl; have HBT := Lib.hid hbt
  clear hrl hbt
  have ha2 : (a : Int) ≤ (s.size : Int) := by omega
  go_enter Tryd.func37, Tryd.ntmps37
  go_upto_block 0 with fail
  obtain ⟨wo, rfl⟩ : ∃ wo : World, wo = w := ⟨_, rfl⟩
  go_cut [1, 7] from 10 to 41 (fun i n wr => wo = wr ∧ ∃ j : Nat, i = .int .i64 ((a : Int) + (j : Int)) ∧ n = .int .i64 (valD (r.take j)) ∧ Hid (run4 r = j ∧ j ≤ r.length))
  case first =>
    go_wp2_with fail
    go_loopg [1, 7] 4 (fun k i n wr => wo = wr ∧ ∃ j : Nat, j + k = 4 ∧ a + j ≤ s.size ∧ i = .int .i64 ((a : Int) + (j : Int)) ∧ n = .int .i64 (valD (r.take j)) ∧ Hid (∀ c ∈ r.take j, dg c = true))
    case atStart => exact ⟨rfl, 0, by omega, by omega, by simp, by simp [valD], Lib.hid (by simp)⟩
    case round =>
      obtain ⟨rfl, j, hj, hjl, rfl, rfl, HD⟩ := hrel
      have hln := HRL.out
      by_cases hlt : a + j < s.size
      · have hg := HBT.out j hlt
        have hx0 := bt_lo r j
        have hx1 := bt_hi r j
        have h1 : (a : Int) + (j : Int) < (s.size : Int) := by omega
        have ej : ((a : Int) + (j : Int)).toNat = a + j := by omega
        have HE := Lib.hid (fun h => run4_at HD.out (by omega) (by omega) h)
        have HV := Lib.hid (valD_rng HD.out (by rw [List.length_take]; omega))
        have hjr : j < r.length := by omega
        have HS := Lib.hid (show r.take (j + 1) = r.take j ++ [r[j]] from List.take_succ_eq_append_getElem hjr)
        have HG := Lib.hid (bt_getElem hjr)
        obtain ⟨hv0, hv1⟩ := HV.out
        generalize bt r j = x at *
        by_cases h48 : x < 48
        · have HX := Lib.hid (HE.out (.inr (.inr (by unfold isDig; rw [decide_eq_false_iff_not]; omega))))
          clear HS HG HE HD hln
          go_wp2_with fail
          all_goals
            go_meet
            exact ⟨rfl, j, rfl, rfl, Lib.hid ⟨HX.out, by omega⟩⟩
        · by_cases h57 : 57 < x
          · have HX := Lib.hid (HE.out (.inr (.inr (by unfold isDig; rw [decide_eq_false_iff_not]; omega))))
            have h48' : 48 ≤ x := by omega
            clear HS HG HE HD hln h48
            go_wp2_with fail
            all_goals
              go_meet
              exact ⟨rfl, j, rfl, rfl, Lib.hid ⟨HX.out, by omega⟩⟩
          · have h48' : 48 ≤ x := by omega
            have h57' : x ≤ 57 := by omega
            by_cases h4 : j < 4
            · have HS2 : Hid (valD (r.take (j + 1)) = 10 * valD (r.take j) + x - 48) := Lib.hid (by rw [HS.out, valD_snoc, HG.out])
              have HD2 : Hid (∀ c ∈ r.take (j + 1), dg c = true) := Lib.hid (by
                rw [HS.out]; intro c hc
                rcases List.mem_append.1 hc with h | h
                · exact HD.out c h
                · obtain rfl := List.mem_singleton.1 h
                  unfold dg isDig; rw [← HG.out, decide_eq_true_eq]; omega)
              have h4' : (j : Int) < 4 := by omega
              clear HS HG HE HD hln h48 h57
              go_wp2_with fail
              go_roundg (gk - 1)
              case rel => exact ⟨by trivial, j + 1, by omega, by omega, by go_num, by rw [HS2.out], HD2⟩
              case measure => omega
            · have HX := Lib.hid (HE.out (.inl (by omega)))
              have h4' : (4 : Int) ≤ (j : Int) := by omega
              clear HS HG HE HD hln h48 h57 h4
              go_wp2_with fail
              all_goals
                go_meet
                exact ⟨rfl, j, rfl, rfl, Lib.hid ⟨HX.out, by omega⟩⟩
      · have h1 : (s.size : Int) ≤ (a : Int) + (j : Int) := by omega
        have HX := Lib.hid (run4_at HD.out (by omega) (by omega) (.inr (.inl (by omega))))
        clear HD hln hlt
        go_wp2_with fail
        all_goals
          go_meet
          exact ⟨rfl, j, rfl, rfl, Lib.hid ⟨HX.out, by have := HRL.out; omega⟩⟩
  case rest =>
    obtain ⟨rfl, j, rfl, rfl, HJ⟩ := hcut
    have hj4 := (run4_le r).1
    rw [HJ.out.1] at hj4
    have hjr := HJ.out.2
    have hN : Hid (nOk r = decide (1 ≤ j ∧ j ≤ 3 ∧ ¬ (bt r 0 = 48 ∧ 1 < j))) := Lib.hid (by unfold nOk; rw [HJ.out.1])
    have hV : Hid (nV r = valD (r.take j)) := Lib.hid (by unfold nV; rw [HJ.out.1])
    have hln := HRL.out
    have fin : ∀ (b : Bool) (n k : Int), nOk r = b → (b = true → n = valD (r.take j) ∧ k = (a : Int) + (j : Int)) → NumAns r a (.returned (.tuple #[.int .i64 n, .int .i64 k, .bool b])) := fun b n k hb h => by
      subst hb
      exact ⟨n, k, rfl, fun ho => by rw [hV.out, HJ.out.1]; exact h ho⟩
    have FIN := Lib.hid fin
    clear fin hV HJ
    generalize valD (r.take j) = v at *
    by_cases h0 : j = 0
    · have HB : Hid (nOk r = false) := Lib.hid (by rw [hN.out, decide_eq_false_iff_not]; omega)
      have h0' : ((a : Int) + (j : Int) == (a : Int)) = true := beq_iff_eq.2 (by omega)
      clear hN h0
      go_wp2
      go_ret3
      exact ⟨rfl, FIN.out _ _ _ HB.out (fun h => by cases h)⟩
    · have h0' : ((a : Int) + (j : Int) == (a : Int)) = false := beq_eq_false_iff_ne.2 (by omega)
      by_cases h3 : 3 < j
      · have HB : Hid (nOk r = false) := Lib.hid (by rw [hN.out, decide_eq_false_iff_not]; omega)
        have h3' : (a : Int) + 3 < (a : Int) + (j : Int) := by omega
        clear hN h0 h3
        go_wp2
        go_ret3
        exact ⟨rfl, FIN.out _ _ _ HB.out (fun h => by cases h)⟩
      · have h3' : (a : Int) + (j : Int) ≤ (a : Int) + 3 := by omega
        have hg := HBT.out 0 (by omega)
        have hasz : (a : Int) < (s.size : Int) := by omega
        simp only [Nat.add_zero] at hg
        have hx0 := bt_lo r 0
        have hx1 := bt_hi r 0
        generalize bt r 0 = x at *
        refine on_ne x 48 (fun X1 X2 => ?_) (fun X1 X2 => ?_) <;> obtain ⟨X3, X5⟩ := X2.out <;> clear X2
        · by_cases h1 : 1 < j
          · have HB : Hid (nOk r = false) := Lib.hid (by rw [hN.out, decide_eq_false_iff_not]; have := X1.out; omega)
            have h1' : (a : Int) + 1 < (a : Int) + (j : Int) := by omega
            clear hN h1
            go_wp2
            go_ret3
            exact ⟨rfl, FIN.out _ _ _ HB.out (fun h => by cases h)⟩
          · have HB : Hid (nOk r = true) := Lib.hid (by rw [hN.out, decide_eq_true_eq]; omega)
            have h1' : (a : Int) + (j : Int) ≤ (a : Int) + 1 := by omega
            clear hN h1
            go_wp2
            go_ret3
            exact ⟨rfl, FIN.out _ _ _ HB.out (fun _ => ⟨rfl, rfl⟩)⟩
        · have HB : Hid (nOk r = true) := Lib.hid (by rw [hN.out, decide_eq_true_eq]; have := X1.out; omega)
          clear hN
          go_wp2
          go_ret3
          exact ⟨rfl, FIN.out _ _ _ HB.out (fun _ => ⟨rfl, rfl⟩)⟩
end Go.Proofs.YteicojighhhgjaaDoor
