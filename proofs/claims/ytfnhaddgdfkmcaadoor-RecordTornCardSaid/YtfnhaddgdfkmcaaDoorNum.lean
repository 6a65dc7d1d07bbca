/-
  The walks of Digits, Number, Text of both. No condition but the sizes that the form gives.
-/
import Derived.Test.YtfnhaddgdfkmcaaDoorProg
import Derived.Test.YtfnhaddgdfkmcaaDoorLib
import Derived.Test.YtfnhaddgdfkmcaaDoorShelf
import Derived.Test.YtfnhaddgdfkmcaaDoorApp
namespace Go.Proofs.YtfnhaddgdfkmcaaDoor
open Go.RowKit
set_option linter.unusedVariables false

set_option maxRecDepth 100000 in
set_option maxHeartbeats 1000000 in
theorem digits_any (n : Int) (w : World) (h0 : 0 ≤ n) (h1 : n ≤ 9223372036854775807) :
    Calls Tryd.prog 58 #[.int .i64 n] w fun e w' => Below w.heap.size w w' ∧
      e = .returned (.string ⟨(Lib.decDigits n.toNat).toArray⟩) := by
  have hTl := decDigits_len (u := n.toNat) (by omega)
  obtain ⟨T, hT⟩ : ∃ T, Lib.decDigits n.toNat = T := ⟨_, rfl⟩
  have HT := Lib.hid hT
  rw [hT] at hTl ⊢; clear hT
  have hcv := @run_conv1 Tryd.prog 23 9 5 Tryd.underlying23 Tryd.underlying5 Tryd.underlying9
  go_enter Tryd.func58, Tryd.ntmps58
  go_wp2
  go_loopg [0, 3] n.toNat (fun k m s wr => Below w.heap.size w wr ∧ ∃ (i : Int) (t : ByteArray), i.toNat = k ∧ m = .int .i64 i ∧ s = .string t ∧ 0 ≤ i ∧ i ≤ 9223372036854775807 ∧ Hid (Lib.decDigits i.toNat ++ t.data.toList = T))
  case atStart => exact ⟨Below.refl _ _, n, ⟨#[]⟩, rfl, rfl, rfl, h0, h1, by unfold Hid; simp [HT.out]⟩
  case round =>
    obtain ⟨hb, i, t, hik, rfl, rfl, hi0, hi1, H⟩ := hrel
    have ht : t.size ≤ 19 := by have := congrArg List.length H.out; rw [List.length_append, ← size_len] at this; omega
    have hs1 : ∀ x, (strOfNums [x]).size ≤ 1 := fun x => by rw [strOfNums_size]; simp
    have HK := Lib.hid hik; clear hik
    by_cases hlt : 10 ≤ i
    · have hs2 := hs1 (48 + i % 10)
      clear hs1
      go_wp2
      go_roundg (i / 10).toNat
      case rel =>
        refine ⟨hb.alloc hb.size _, i / 10, _, rfl, rfl, rfl, by omega, by omega, ?_⟩
        go_light
        unfold Hid
        rw [← H.out, app_list, strOfNums_data]
        rw [show Lib.decDigits i.toNat = Lib.decDigits (i / 10).toNat ++ [UInt8.ofNat (48 + i.toNat % 10)] by
          rw [Lib.decDigits, dif_neg (by omega), show (i / 10).toNat = i.toNat / 10 by omega]]
        rw [List.append_assoc, List.map_singleton, List.singleton_append, show (48 + i % 10).toNat = 48 + i.toNat % 10 by omega]
        simp
      case measure => have := HK.out; omega
    · have hs2 := hs1 (48 + i)
      clear hs1
      go_wp2
      go_ret
      refine ⟨hb.alloc hb.size _, ?_⟩
      go_light
      refine ret_str ?_
      rw [← H.out, app_list, strOfNums_data, Lib.decDigits_one (by omega), List.map_singleton, show (48 + i).toNat = 48 + i.toNat by omega]

/-- what 'Number' answers -/
def numB (n : Int) : List UInt8 := if n < 0 ∨ 9007199254740992 < n then [] else Lib.decDigits n.toNat ++ [59]
def numE (n : Int) : Int := if n < 0 ∨ 9007199254740992 < n then 22 else 0
theorem conv_sb : ∀ (W : World) (s : ByteArray), (convert 9 23 (.string s)).run Tryd.prog W = .ok (.slice (some ⟨W.heap.size, 0, none⟩) s.size (grownCap W s.size 0 5)) (Lib.bytesWorld W 5 s) :=
  fun W s => Lib.run_convert_string_bytes W _ _ _ s Tryd.underlying9 Tryd.underlying23 Tryd.underlying5

set_option maxRecDepth 100000 in
set_option maxHeartbeats 1000000 in
theorem rnumber_any (n : Int) (w : World) (h0 : -9223372036854775808 ≤ n) (h1 : n ≤ 9223372036854775807) :
    Calls Tryd.prog 59 #[.int .i64 n] w fun e w' => Below w.heap.size w w' ∧
      ∃ v, e = .returned (.tuple #[v, .int .i64 (numE n)]) ∧ Out w' v (numB n) := by
  have hcv := conv_sb
  by_cases hn : n < 0 ∨ 9007199254740992 < n
  · have h2 := Lib.hid (show numB n = [] by unfold numB; rw [if_pos hn])
    have h3 := Lib.hid (show numE n = 22 by unfold numE; rw [if_pos hn])
    rw [h2.out, h3.out]
    go_enter Tryd.func59, Tryd.ntmps59
    go_wp2
    all_goals go_ret2
    all_goals exact ⟨Below.refl _ _, _, rfl, Out.nil _⟩
  · have h2 := Lib.hid (show numB n = Lib.decDigits n.toNat ++ [59] by unfold numB; rw [if_neg hn])
    have h3 := Lib.hid (show numE n = 0 by unfold numE; rw [if_neg hn])
    have hTl := decDigits_len (u := n.toNat) (by omega)
    rw [h2.out, h3.out]
    have hd := fun W => digits_any n W (by omega) (by omega)
    have h4 : 0 ≤ n := by omega
    have h5 : n ≤ 9007199254740992 := by omega
    generalize Lib.decDigits n.toNat = T at *
    have hd' := Lib.hid hd; clear hd hn
    have hsz : (⟨T.toArray⟩ : ByteArray).size ≤ 19 := by rw [size_len]; simpa using hTl
    go_enter Tryd.func59, Tryd.ntmps59
    go_wp2_with (go_at_call 58; refine (hd'.out _).mono ?_; rintro e w1 ⟨hb1, rfl⟩)
    go_ret2
    refine ⟨hb1.trans ((below_bytesWorld _ _ _).mono hb1.size), _, rfl, ?_⟩
    exact out_conv _ _ _ (by rw [app_list]) (by simp) (by simp only [maxLen]; omega)

theorem u8 : U8 Tryd.prog 23 5 := ⟨Tryd.underlying23, Tryd.underlying5, info_parts (by kernel_rfl)⟩

/-- the table of powers of ten, as it is laid -/
def Pow10 (w : World) : Prop := Lib.TabBelow Tryd.prog w.heap.size w "internal/strconv.uint64pow10" .u64 Lib.pow10Tab

set_option maxRecDepth 100000 in
set_option maxHeartbeats 1000000 in
theorem number_any (n : Int) (w : World) (h0 : -9223372036854775808 ≤ n) (h1 : n ≤ 9223372036854775807) (htab : Pow10 w) :
    Calls Tryd.prog 60 #[.int .i64 n] w fun e w' => Below w.heap.size w w' ∧
      ∃ v, e = .returned (.tuple #[v, .int .i64 (numE n)]) ∧ OwnB w' w.heap.size 5 v (numB n) := by
  by_cases hn : n < 0 ∨ 9007199254740992 < n
  · have h2 := Lib.hid (show numB n = [] by unfold numB; rw [if_pos hn])
    have h3 := Lib.hid (show numE n = 22 by unfold numE; rw [if_pos hn])
    rw [h2.out, h3.out]
    go_enter Tryd.func60, Tryd.ntmps60
    go_wp2
    all_goals go_ret2
    all_goals exact ⟨Below.refl _ _, _, rfl, OwnB.nil _ _ _⟩
  · have h2 := Lib.hid (show numB n = Lib.decDigits n.toNat ++ [59] by unfold numB; rw [if_neg hn])
    have h3 := Lib.hid (show numE n = 0 by unfold numE; rw [if_neg hn])
    have hTl := decDigits_len (u := n.toNat) (by omega)
    rw [h2.out, h3.out]
    have hd := Tryd.strconv_AppendInt_10 w.heap.size 0 n (by omega) (by omega) (.slice none 0 0) [] w (World.ownsRow_nil _ _ _ _) (Nat.le_refl _) (by omega) htab
    rw [show Lib.itoa n = Lib.decDigits n.toNat by unfold Lib.itoa; rw [if_neg (by omega)]] at hd
    have h4 : 0 ≤ n := by omega
    have h5 : n ≤ 9007199254740992 := by omega
    generalize Lib.decDigits n.toNat = T at *
    have hd' := Lib.hid hd; clear hd hn
    go_enter Tryd.func60, Tryd.ntmps60
    go_wp2_with fail
    refine hd'.out.mono ?_
    rintro e w1 ⟨v1, rfl, hown, hb1, -⟩
    have HO := Lib.hid (OwnB.of (by simpa using hown)); clear hown
    have hsz := hb1.size
    go_wp2_with (at_builtin; refine wpList_appB _ u8 _ _ rfl rfl w.heap.size rfl (HO.out.alloc _) (k := [59]) _ _ rfl rfl (RB.one _ _ _ _ rfl) (by simp; omega) (by simp; omega) ?_; intro v2 w2 ho2 hb2)
    go_ret2
    exact ⟨(hb1.alloc hsz _).trans hb2, _, rfl, ho2⟩

/-- what 'Text' answers -/
def textB (l : List UInt8) : List UInt8 := if 1048576 < l.length then [] else Lib.decDigits l.length ++ [58] ++ l ++ [44]
def textE (l : List UInt8) : Int := if 1048576 < l.length then 22 else 0

set_option maxRecDepth 100000 in
set_option maxHeartbeats 1000000 in
theorem rtext_any (s : ByteArray) (w : World) (hs : s.size ≤ maxLen) :
    Calls Tryd.prog 45 #[.string s] w fun e w' => Below w.heap.size w w' ∧
      ∃ v, e = .returned (.tuple #[v, .int .i64 (textE s.data.toList)]) ∧ Out w' v (textB s.data.toList) := by
  have hcv := conv_sb
  have hl := size_len s
  unfold maxLen at hs
  by_cases hn : 1048576 < s.size
  · have h2 := Lib.hid (show textB s.data.toList = [] by unfold textB; rw [if_pos (by omega)])
    have h3 := Lib.hid (show textE s.data.toList = 22 by unfold textE; rw [if_pos (by omega)])
    rw [h2.out, h3.out]
    clear hl
    go_enter Tryd.func45, Tryd.ntmps45
    go_wp2
    all_goals go_ret2
    all_goals exact ⟨Below.refl _ _, _, rfl, Out.nil _⟩
  · have h2 := Lib.hid (show textB s.data.toList = Lib.decDigits s.data.toList.length ++ [58] ++ s.data.toList ++ [44] by unfold textB; rw [if_neg (by omega)])
    have h3 := Lib.hid (show textE s.data.toList = 0 by unfold textE; rw [if_neg (by omega)])
    have hTl := decDigits_len (u := s.size) (by omega)
    rw [h2.out, h3.out, ← hl]
    have hd := fun W => digits_any (s.size : Int) W (by omega) (by omega)
    simp only [Int.toNat_natCast] at hd
    have h5 : s.size ≤ 1048576 := by omega
    generalize Lib.decDigits s.size = T at *
    have hd' := Lib.hid hd; clear hd hn
    have hl' := Lib.hid hl; clear hl
    have hsz : (⟨T.toArray⟩ : ByteArray).size ≤ 19 := by rw [size_len]; simpa using hTl
    go_enter Tryd.func45, Tryd.ntmps45
    go_wp2_with (go_at_call 58; refine (hd'.out _).mono ?_; rintro e w1 ⟨hb1, rfl⟩)
    go_ret2
    refine ⟨hb1.trans ((below_bytesWorld _ _ _).mono hb1.size), _, rfl, ?_⟩
    exact out_conv _ _ _ (by simp only [app_list]) (by simp; omega) (by simp only [maxLen]; omega)

set_option maxRecDepth 100000 in
set_option maxHeartbeats 1000000 in
theorem text_any (s : ByteArray) (w : World) (hs : s.size ≤ maxLen) (htab : Pow10 w) :
    Calls Tryd.prog 61 #[.string s] w fun e w' => Below w.heap.size w w' ∧
      ∃ v, e = .returned (.tuple #[v, .int .i64 (textE s.data.toList)]) ∧ OwnB w' w.heap.size 5 v (textB s.data.toList) := by
  have hl := size_len s
  unfold maxLen at hs
  by_cases hn : 1048576 < s.size
  · have h2 := Lib.hid (show textB s.data.toList = [] by unfold textB; rw [if_pos (by omega)])
    have h3 := Lib.hid (show textE s.data.toList = 22 by unfold textE; rw [if_pos (by omega)])
    rw [h2.out, h3.out]
    clear hl
    go_enter Tryd.func61, Tryd.ntmps61
    go_wp2
    all_goals go_ret2
    all_goals exact ⟨Below.refl _ _, _, rfl, OwnB.nil _ _ _⟩
  · have h2 := Lib.hid (show textB s.data.toList = Lib.decDigits s.data.toList.length ++ [58] ++ s.data.toList ++ [44] by unfold textB; rw [if_neg (by omega)])
    have h3 := Lib.hid (show textE s.data.toList = 0 by unfold textE; rw [if_neg (by omega)])
    have hTl := decDigits_len (u := s.size) (by omega)
    rw [h2.out, h3.out, ← hl]
    have hd := Tryd.strconv_AppendInt_10 w.heap.size 0 (s.size : Int) (by omega) (by omega) (.slice none 0 0) [] w (World.ownsRow_nil _ _ _ _) (Nat.le_refl _) (by omega) htab
    rw [show Lib.itoa (s.size : Int) = Lib.decDigits s.size by unfold Lib.itoa; rw [if_neg (by omega), Int.toNat_natCast]] at hd
    have h5 : s.size ≤ 1048576 := by omega
    generalize Lib.decDigits s.size = T at *
    have hd' := Lib.hid hd; clear hd hn
    have hl' := Lib.hid hl; clear hl
    go_enter Tryd.func61, Tryd.ntmps61
    go_wp2_with fail
    refine hd'.out.mono ?_
    rintro e w1 ⟨v1, rfl, hown, hb1, -⟩
    have HO := Lib.hid (OwnB.of (by simpa using hown)); clear hown
    have hsz := hb1.size
    go_wp2_with (first
      | (at_builtin; refine wpList_appB _ u8 (.tmp 11) (.tmp 12) rfl rfl w.heap.size rfl (HO.out.alloc _) (k := [58]) _ _ rfl rfl (RB.one _ _ _ _ rfl) (by simp; omega) (by simp; omega) ?_; intro v2 w2 ho2 hb2; have HO2 := Lib.hid ho2; clear ho2; have hsz2 := hb2.size; simp only [World.size_alloc] at hsz2)
      | (at_builtin; refine wpList_appS _ u8 Tryd.underlying9 (.tmp 13) (.tmp 14) rfl rfl w.heap.size rfl HO2.out s rfl (by simp; omega) (by omega) ?_; intro v3 w3 ho3 hb3; have HO3 := Lib.hid ho3; clear ho3; have hsz3 := hb3.size)
      | (at_builtin; refine wpList_appB _ u8 (.tmp 16) (.tmp 17) rfl rfl w.heap.size rfl (HO3.out.alloc _) (k := [44]) _ _ rfl rfl (RB.one _ _ _ _ rfl) (by simp; omega) (by simp; omega) ?_; intro v4 w4 ho4 hb4))
    go_ret2
    exact ⟨((((hb1.alloc hsz _).trans hb2).trans hb3).alloc (by omega) _).trans hb4, _, rfl, ho4⟩
end Go.Proofs.YtfnhaddgdfkmcaaDoor
