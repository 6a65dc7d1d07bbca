/-
  What Show writes is read again: plain laws. No condition.
-/
import Derived.Test.YtdkhoiahmjadnaaGreatDoorWords
import Derived.Test.YtdkhoiahmjadnaaGreatDoorShow0
import Derived.Lib.TrimAscii
namespace Go.Proofs.YtdkhoiahmjadnaaGreatDoor
open Go.RowKit Go.Sort
set_option linter.unusedVariables false

theorem dg_n {k : Nat} (h : k < 10) : (dg k).toNat = 48 + k := by have := dg_nat h; omega
theorem dg_val {k : Nat} (h : k < 10) : Lib.digitVal (dg k) = some k := by
  unfold Lib.digitVal
  rw [if_pos (by rw [dg_n h]; omega), dg_n h]
  congr 1
  omega
theorem dg_good {k : Nat} (h : k < 10) : goodB (dg k) := ⟨by rw [dg_n h]; omega, by rw [dg_n h]; omega⟩
theorem dg_ne {k : Nat} (h : k < 10) (c : UInt8) (hc : c.toNat < 48 ∨ 58 ≤ c.toNat) : ¬ dg k = c := by
  intro e
  have := dg_n h
  rw [e] at this
  omega
theorem num_two {n : Nat} {b : Int} (h : n < 100) (hb : (n : Int) ≤ b) : numP (dig2 n) 2 2 b = n := by
  have e : Lib.decNat (dig2 n) = some n := by
    show Lib.decFrom 0 [dg (n / 10), dg (n % 10)] = some n
    unfold Lib.decFrom
    rw [dg_val (by omega)]
    show Lib.decFrom (0 * 10 + n / 10) [dg (n % 10)] = some n
    unfold Lib.decFrom
    rw [dg_val (by omega)]
    show some ((0 * 10 + n / 10) * 10 + n % 10) = some n
    congr 1
    omega
  unfold numP
  rw [if_neg (by rw [show (dig2 n).length = 2 from rfl]; omega), e]
  exact if_neg (by omega)
theorem num_four {n : Nat} (h : n ≤ 9999) : numP (dig4 n) 4 4 9999 = n := by
  have e : Lib.decNat (dig4 n) = some n := by
    show Lib.decFrom 0 [dg (n / 1000), dg (n / 100 % 10), dg (n / 10 % 10), dg (n % 10)] = some n
    unfold Lib.decFrom
    rw [dg_val (by omega)]
    show Lib.decFrom (0 * 10 + n / 1000) [dg (n / 100 % 10), dg (n / 10 % 10), dg (n % 10)] = some n
    unfold Lib.decFrom
    rw [dg_val (by omega)]
    show Lib.decFrom ((0 * 10 + n / 1000) * 10 + n / 100 % 10) [dg (n / 10 % 10), dg (n % 10)] = some n
    unfold Lib.decFrom
    rw [dg_val (by omega)]
    show Lib.decFrom (((0 * 10 + n / 1000) * 10 + n / 100 % 10) * 10 + n / 10 % 10) [dg (n % 10)] = some n
    unfold Lib.decFrom
    rw [dg_val (by omega)]
    show some ((((0 * 10 + n / 1000) * 10 + n / 100 % 10) * 10 + n / 10 % 10) * 10 + n % 10) = some n
    congr 1
    omega
  unfold numP
  rw [if_neg (by rw [show (dig4 n).length = 4 from rfl]; omega), e]
  exact if_neg (by omega)
theorem num_day : ∀ d : Nat, d < 32 → 1 ≤ d → numP (Lib.decDigits d) 1 2 31 = d := by decide +kernel
theorem dec_good {d : Nat} (h : d < 32) : Lib.decDigits d ≠ [] ∧ ∀ b ∈ Lib.decDigits d, goodB b := by
  by_cases h10 : d < 10
  · rw [Lib.decDigits_one h10]
    exact ⟨by simp, fun b hb => by rw [List.mem_singleton.1 hb]; exact dg_good h10⟩
  · rw [Lib.decDigits_two (by omega) (by omega)]
    refine ⟨by simp, fun b hb => ?_⟩
    simp only [List.mem_cons, List.not_mem_nil, or_false] at hb
    rcases hb with rfl | rfl
    · exact dg_good (k := d / 10) (by omega)
    · exact dg_good (k := d % 10) (by omega)
theorem name_day {di : Nat} (h : di ≤ 6) : Lib.hasSuffix (capD.getD di [] ++ [44]) [44] = true ∧ namP dayB (cutB ⟨(capD.getD di [] ++ [44]).toArray⟩) = di ∧ (capD.getD di [] ++ [44]) ≠ [] ∧ (capD.getD di [] ++ [44]).all (fun b => decide (b.toNat < 128 ∧ b.toNat ≠ 32)) = true := by
  have : di = 0 ∨ di = 1 ∨ di = 2 ∨ di = 3 ∨ di = 4 ∨ di = 5 ∨ di = 6 := by omega
  rcases this with rfl | rfl | rfl | rfl | rfl | rfl | rfl <;> decide +kernel
theorem name_mon {mo : Nat} (h0 : 1 ≤ mo) (h1 : mo ≤ 12) : namP monB ⟨(capM.getD (mo - 1) []).toArray⟩ + 1 = mo ∧ capM.getD (mo - 1) [] ≠ [] ∧ (capM.getD (mo - 1) []).all (fun b => decide (b.toNat < 128 ∧ b.toNat ≠ 32)) = true := by
  have : mo = 1 ∨ mo = 2 ∨ mo = 3 ∨ mo = 4 ∨ mo = 5 ∨ mo = 6 ∨ mo = 7 ∨ mo = 8 ∨ mo = 9 ∨ mo = 10 ∨ mo = 11 ∨ mo = 12 := by omega
  rcases this with rfl | rfl | rfl | rfl | rfl | rfl | rfl | rfl | rfl | rfl | rfl | rfl <;> decide +kernel
theorem good_of_all {l : List UInt8} (h : l.all (fun b => decide (b.toNat < 128 ∧ b.toNat ≠ 32)) = true) : ∀ b ∈ l, goodB b := fun b hb => show b.toNat < 128 ∧ b.toNat ≠ 32 from of_decide_eq_true (List.all_eq_true.1 h b hb)
theorem spl_three {a b c d e f : UInt8} (ha : ¬ a = 58) (hb : ¬ b = 58) (hc : ¬ c = 58) (hd : ¬ d = 58) (he : ¬ e = 58) (hf : ¬ f = 58) : spl ⟨#[a, b, 58, c, d, 58, e, f]⟩ = [⟨#[a, b]⟩, ⟨#[c, d]⟩, ⟨#[e, f]⟩] := by
  have na : ((58 : UInt8) == a) = false := beq_eq_false_iff_ne.2 (Ne.symm ha)
  have nb : ((58 : UInt8) == b) = false := beq_eq_false_iff_ne.2 (Ne.symm hb)
  have nc : ((58 : UInt8) == c) = false := beq_eq_false_iff_ne.2 (Ne.symm hc)
  have nd : ((58 : UInt8) == d) = false := beq_eq_false_iff_ne.2 (Ne.symm hd)
  have ne : ((58 : UInt8) == e) = false := beq_eq_false_iff_ne.2 (Ne.symm he)
  have nf : ((58 : UInt8) == f) = false := beq_eq_false_iff_ne.2 (Ne.symm hf)
  have hct : Lib.countB ⟨#[a, b, 58, c, d, 58, e, f]⟩ ⟨#[58]⟩ = 2 := by
    unfold Lib.countB Lib.count
    show Lib.countFrom [58] 9 [a, b, 58, c, d, 58, e, f] = 2
    have i1 : Lib.index [a, b, 58, c, d, 58, e, f] [58] = 2 := by simp [Lib.index, List.isPrefixOf, na, nb]
    have i2 : Lib.index [c, d, 58, e, f] [58] = 2 := by simp [Lib.index, List.isPrefixOf, nc, nd]
    have i3 : Lib.index [e, f] [58] = -1 := by simp [Lib.index, List.isPrefixOf, ne, nf]
    have s1 : Lib.countFrom [58] 9 [a, b, 58, c, d, 58, e, f] = 1 + Lib.countFrom [58] 8 [c, d, 58, e, f] := by
      rw [Lib.countFrom.eq_def]; simp only [i1]; rfl
    have s2 : Lib.countFrom [58] 8 [c, d, 58, e, f] = 1 + Lib.countFrom [58] 7 [e, f] := by
      rw [Lib.countFrom.eq_def]; simp only [i2]; rfl
    have s3 : Lib.countFrom [58] 7 [e, f] = 0 := by
      rw [Lib.countFrom.eq_def]; simp only [i3]; rfl
    rw [s1, s2, s3]
  have hk : Lib.splitK [58] 0 2 [a, b, 58, c, d, 58, e, f] = [[a, b], [c, d], [e, f]] := by
    have i1 : Lib.index [a, b, 58, c, d, 58, e, f] [58] = 2 := by simp [Lib.index, List.isPrefixOf, na, nb]
    have i2 : Lib.index [c, d, 58, e, f] [58] = 2 := by simp [Lib.index, List.isPrefixOf, nc, nd]
    have s1 : Lib.splitK [58] 0 2 [a, b, 58, c, d, 58, e, f] = [a, b] :: Lib.splitK [58] 0 1 [c, d, 58, e, f] := by
      rw [Lib.splitK.eq_def]; simp only [i1]; rfl
    have s2 : Lib.splitK [58] 0 1 [c, d, 58, e, f] = [c, d] :: Lib.splitK [58] 0 0 [e, f] := by
      rw [Lib.splitK.eq_def]; simp only [i2]; rfl
    rw [s1, s2]; rfl
  unfold spl
  rw [hct]
  have e1 := Lib.splitB_data ⟨#[58]⟩ 0 2 ⟨#[a, b, 58, c, d, 58, e, f]⟩
  rw [show (⟨#[58]⟩ : ByteArray).data.toList = [58] from rfl, show (⟨#[a, b, 58, c, d, 58, e, f]⟩ : ByteArray).data.toList = [a, b, 58, c, d, 58, e, f] from rfl, hk] at e1
  match hs : Lib.splitB ⟨#[58]⟩ 0 2 ⟨#[a, b, 58, c, d, 58, e, f]⟩ with
  | [] => rw [hs] at e1; simp at e1
  | [_] => rw [hs] at e1; simp at e1
  | [_, _] => rw [hs] at e1; simp at e1
  | [x, y, z] =>
    rw [hs] at e1
    simp only [List.map_cons, List.map_nil, List.cons.injEq, and_true] at e1
    rw [str_eq e1.1, str_eq e1.2.1, str_eq e1.2.2]
  | _ :: _ :: _ :: _ :: _ => rw [hs] at e1; simp at e1
theorem clock_shown {h mi s : Nat} (hh : h < 24) (hm : mi < 60) (hs : s < 60) : clockP ⟨(timB h mi s).toArray⟩ = (h : Int) * 3600 + mi * 60 + s := by
  have e : spl ⟨(timB h mi s).toArray⟩ = [⟨(dig2 h).toArray⟩, ⟨(dig2 mi).toArray⟩, ⟨(dig2 s).toArray⟩] :=
    spl_three (dg_ne (by omega) 58 (by decide)) (dg_ne (by omega) 58 (by decide)) (dg_ne (by omega) 58 (by decide)) (dg_ne (by omega) 58 (by decide)) (dg_ne (by omega) 58 (by decide)) (dg_ne (by omega) 58 (by decide))
  unfold clockP
  rw [e]
  have c1 : numP (dig2 h) 2 2 23 = h := num_two (by omega) (by omega)
  have c2 : numP (dig2 mi) 2 2 59 = mi := num_two (by omega) (by omega)
  have c3 : numP (dig2 s) 2 2 59 = s := num_two (by omega) (by omega)
  show clkF [⟨(dig2 h).toArray⟩, ⟨(dig2 mi).toArray⟩, ⟨(dig2 s).toArray⟩] [23, 59, 59] 0 = _
  show (if numP (dig2 h) 2 2 23 < 0 then -1 else clkF [⟨(dig2 mi).toArray⟩, ⟨(dig2 s).toArray⟩] [59, 59] (60 * 0 + numP (dig2 h) 2 2 23)) = _
  rw [c1, if_neg (by omega)]
  show (if numP (dig2 mi) 2 2 59 < 0 then -1 else clkF [⟨(dig2 s).toArray⟩] [59] (60 * (60 * 0 + (h : Int)) + numP (dig2 mi) 2 2 59)) = _
  rw [c2, if_neg (by omega)]
  show (if numP (dig2 s) 2 2 59 < 0 then -1 else clkF [] [] (60 * (60 * (60 * 0 + (h : Int)) + mi) + numP (dig2 s) 2 2 59)) = _
  rw [c3, if_neg (by omega)]
  show 60 * (60 * (60 * 0 + (h : Int)) + mi) + s = _
  omega
def zoneW (zh zm : Nat) : List UInt8 := 43 :: dig2 zh ++ dig2 zm
theorem lower_43 (l : List UInt8) (c : UInt8) (t : List UInt8) (hc : c ≠ 43) : ¬ lowerP ⟨(43 :: l).toArray⟩ = ⟨(c :: t).toArray⟩ := by
  intro e
  have e2 : Lib.mapD lowF (43 :: l) = c :: t := by
    have := congrArg (fun x : ByteArray => x.data.toList) e
    simpa [lowerP] using this
  rw [Lib.mapD_step _ _ (by simp), Lib.decodeL_ascii 43 l (by decide)] at e2
  rw [show (if 0 ≤ lowF (((43 : UInt8).toNat, 1) : Nat × Nat).1 then Lib.encodeRune (lowF (((43 : UInt8).toNat, 1) : Nat × Nat).1) else []) = [43] by decide +kernel] at e2
  injection e2 with e3
  exact hc e3.symm
theorem zone_shown {zh zm : Nat} (hh : zh ≤ 23) (hm : zm ≤ 59) : zoneP ⟨(zoneW zh zm).toArray⟩ = (3600 * (zh : Int) + 60 * zm, true) := by
  unfold zoneP
  rw [if_neg (by intro e; injection e with e; simp [zoneW] at e)]
  rw [if_neg (fun h => h.elim (lower_43 _ 103 [109, 116] (by decide)) (lower_43 _ 117 [116] (by decide)))]
  have c1 : numP (dig2 zh) 2 2 23 = zh := num_two (by omega) (by omega)
  have c2 : numP (dig2 zm) 2 2 59 = zm := num_two (by omega) (by omega)
  show (if numP (dig2 zh) 2 2 23 < 0 ∨ numP (dig2 zm) 2 2 59 < 0 ∨ ((43 : UInt8) ≠ 43 ∧ (43 : UInt8) ≠ 45) then ((0, false) : Int × Bool) else
      (if (43 : UInt8) = 45 then -(3600 * numP (dig2 zh) 2 2 23 + 60 * numP (dig2 zm) 2 2 59) else 3600 * numP (dig2 zh) 2 2 23 + 60 * numP (dig2 zm) 2 2 59, true)) = _
  rw [c1, c2, if_neg (fun h => h.elim (fun h => by omega) fun h => h.elim (fun h => by omega) fun h => h.1 rfl), if_neg (by decide)]
theorem zone_good {zh zm : Nat} (hh : zh ≤ 23) (hm : zm ≤ 59) : zoneW zh zm ≠ [] ∧ ∀ b ∈ zoneW zh zm, goodB b := by
  refine ⟨by simp [zoneW], fun b hb => ?_⟩
  simp only [zoneW, dig2, List.cons_append, List.nil_append, List.mem_cons, List.not_mem_nil, or_false] at hb
  rcases hb with rfl | rfl | rfl | rfl | rfl
  · exact ⟨by decide, by decide⟩
  all_goals exact dg_good (by omega)
theorem dig4_good {y : Nat} (h : y ≤ 9999) : dig4 y ≠ [] ∧ ∀ b ∈ dig4 y, goodB b := by
  refine ⟨by simp [dig4], fun b hb => ?_⟩
  simp only [dig4, List.mem_cons, List.not_mem_nil, or_false] at hb
  rcases hb with rfl | rfl | rfl | rfl
  all_goals exact dg_good (by omega)
theorem tim_good {h mi s : Nat} (hh : h < 24) (hm : mi < 60) (hs : s < 60) : timB h mi s ≠ [] ∧ ∀ b ∈ timB h mi s, goodB b := by
  refine ⟨by simp [timB, dig2], fun b hb => ?_⟩
  simp only [timB, dig2, List.cons_append, List.nil_append, List.mem_cons, List.not_mem_nil, or_false] at hb
  rcases hb with rfl | rfl | rfl | rfl | rfl | rfl | rfl | rfl
  all_goals first | exact dg_good (by omega) | exact ⟨by decide, by decide⟩
def shW (di d mo y h mi s zh zm : Nat) : List (List UInt8) := [capD.getD di [] ++ [44], Lib.decDigits d, capM.getD (mo - 1) [], dig4 y, timB h mi s, zoneW zh zm]
theorem shB_words (di d mo y h mi s : Nat) : shB di d mo y h mi s = joinW (shW di d mo y h mi s 0 0) := by
  show shB di d mo y h mi s = _
  simp [shB, shW, joinW, zoneW, dig2, dg]
theorem parse_six {x a b c d e : ByteArray} {nm dd mm yy tt z : Int} {zb : Bool} (h1 : Lib.hasSuffix x.data.toList [44] = true) (h2 : namP dayB (cutB x) = nm) (h3 : 0 ≤ nm) (h4 : numP a.data.toList 1 2 31 = dd)
    (h5 : namP monB b + 1 = mm) (h6 : numP c.data.toList 4 4 9999 = yy) (h7 : clockP d = tt) (h8 : zoneP e = (z, zb)) : parseW [x, a, b, c, d, e] = parseG nm dd mm yy tt z zb := by
  have e0 : parseW [x, a, b, c, d, e] = if Lib.hasSuffix x.data.toList [44] = true then (if namP dayB (cutB x) < 0 then (0, 130) else
    parseG (namP dayB (cutB x)) (numP a.data.toList 1 2 31) (namP monB b + 1) (numP c.data.toList 4 4 9999) (clockP d) (zoneP e).1 (zoneP e).2) else parseN (-1) [x, a, b, c, d, e] := rfl
  rw [e0, if_pos h1, h2, if_neg (by omega), h4, h5, h6, h7, h8]
theorem parse_shown {t : Int} {di d mo y h mi s zh zm : Nat} (P : Parts t di d mo y h mi s) (h0 : 0 ≤ t) (h1 : t ≤ 253402300799) (hzh : zh ≤ 23) (hzm : zm ≤ 59) (hz : 3600 * (zh : Int) + 60 * zm ≤ t) :
    parseP ⟨(joinW (shW di d mo y h mi s zh zm)).toArray⟩ = (t - (3600 * (zh : Int) + 60 * zm), 0) := by
  obtain ⟨n1, n2, n3, n4⟩ := name_day P.hdi
  obtain ⟨m1, m2, m3⟩ := name_mon P.hm0 P.hm1
  have hf := fields_words (shW di d mo y h mi s zh zm) (by simp [shW]) (fun w hw => by
    simp only [shW, List.mem_cons, List.not_mem_nil, or_false] at hw
    rcases hw with rfl | rfl | rfl | rfl | rfl | rfl
    · exact ⟨n3, good_of_all n4⟩
    · exact dec_good (by have := P.hd1; omega)
    · exact ⟨m2, good_of_all m3⟩
    · exact dig4_good P.hy1
    · exact tim_good P.hh P.hmi P.hs
    · exact zone_good hzh hzm)
  unfold parseP
  rw [hf]
  have e6 : (shW di d mo y h mi s zh zm).map (fun w => (⟨w.toArray⟩ : ByteArray)) = [⟨(capD.getD di [] ++ [44]).toArray⟩, ⟨(Lib.decDigits d).toArray⟩, ⟨(capM.getD (mo - 1) []).toArray⟩, ⟨(dig4 y).toArray⟩, ⟨(timB h mi s).toArray⟩, ⟨(zoneW zh zm).toArray⟩] := rfl
  rw [e6, parse_six n1 n2 (by omega) (num_day d (by have := P.hd1; omega) P.hd0) m1 (num_four P.hy1) (clock_shown P.hh P.hmi P.hs) (zone_shown hzh hzm)]
  obtain ⟨ok, e⟩ := civ_ok (show 0 ≤ t / 86400 by omega)
  rw [P.cy, P.cm, P.cd] at ok e
  have hdi := P.edi
  have hdv : dayV t = (t / 86400 + 4) % 7 := if_neg (by omega)
  have het := P.et
  have h5 := P.hd0
  have h6 := P.hm0
  have hdd : dn (y : Int) mo d - 719468 = t / 86400 := by omega
  unfold parseG
  rw [if_neg (by
    have := ok.d2
    rintro (h | h | h | h | h | h)
    · omega
    · omega
    · omega
    · omega
    · exact absurd h (by decide)
    · omega), hdd]
  have htk : t / 86400 * 86400 + ((h : Int) * 3600 + mi * 60 + s) - (3600 * (zh : Int) + 60 * zm) = t - (3600 * (zh : Int) + 60 * zm) := by omega
  rw [htk, if_neg]
  rintro (h | h | h)
  · exact h.2 (by rw [← hdi, hdv])
  · omega
  · omega
end Go.Proofs.YtdkhoiahmjadnaaGreatDoor
