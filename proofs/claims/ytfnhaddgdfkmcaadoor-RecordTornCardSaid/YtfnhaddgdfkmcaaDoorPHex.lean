/-
  The walks of ParseUint at base 16 on digits, of TakeHex of both. No condition but the sizes that the form gives.
-/
import Derived.Test.YtfnhaddgdfkmcaaDoorPlain
import Derived.Test.YtfnhaddgdfkmcaaDoorMore
import Derived.Test.YtfnhaddgdfkmcaaDoorSum
import Derived.Test.YtfnhaddgdfkmcaaDoorHex
namespace Go.Proofs.YtfnhaddgdfkmcaaDoor
open Go.RowKit
set_option linter.unusedVariables false

theorem cvRB {w : World} {B : Nat} {A : Option Addr} {l : List UInt8} (h : RB w B A l) (n c : Nat) (hn : n = l.length) :
    (convert 23 9 (.slice A n c)).run Tryd.prog w = .ok (.string ⟨l.toArray⟩) w :=
  run_convRB 23 9 5 Tryd.underlying23 Tryd.underlying5 Tryd.underlying9 h n c hn
/-- a digit of base sixteen, and its value -/
def IsHex (c : UInt8) : Prop := (48 ≤ c.toNat ∧ c.toNat ≤ 57) ∨ (97 ≤ c.toNat ∧ c.toNat ≤ 102)
def hv (c : UInt8) : Int := if c.toNat ≤ 57 then (c.toNat : Int) - 48 else (c.toNat : Int) - 87
def hexV (n : Int) : List UInt8 → Int
  | [] => n
  | c :: r => hexV (n * 16 + hv c) r
theorem hv_lt {c : UInt8} (h : IsHex c) : 0 ≤ hv c ∧ hv c < 16 := by unfold IsHex at h; unfold hv; split <;> omega
theorem pow16_le {j : Nat} (h : j ≤ 7) : (16 : Int) ^ j ≤ 268435456 := by
  have : (16 : Nat) ^ j ≤ 16 ^ 7 := Nat.pow_le_pow_right (by omega) h
  have e : ((16 : Nat) ^ j : Nat) = ((16 : Int) ^ j) := by simp
  omega

theorem lower_hex (c : Nat) (h1 : 97 ≤ c) (h2 : c ≤ 102) (w : World) : Calls Tryd.prog 75 #[.int .u8 c] w fun e w' => w = w' ∧ e = .returned (.int .u8 c) := by
  have hb : bits .or .u8 (c : Int) 32 = (c : Int) := by
    rw [show (32 : Int) = ((32 : Nat) : Int) from rfl, u8_or_nat c 32 (by omega) (by omega)]
    have key : ∀ d : Fin 6, (97 + d.val) ||| 32 = 97 + d.val := by decide +kernel
    have := key ⟨c - 97, by omega⟩
    simp only at this
    rw [show 97 + (c - 97) = c by omega] at this
    rw [this]
  go_enter Tryd.func75, Tryd.ntmps75
  go_wp2
  go_ret
  exact ⟨rfl, rfl⟩

set_option maxRecDepth 100000 in
set_option maxHeartbeats 2000000 in
theorem parse16 (s : ByteArray) (l : List UInt8) (hl : s.data.toList = l) (h8 : l.length = 8) (hx : ∀ c ∈ l, IsHex c) (w : World) :
    Calls Tryd.prog 67 #[.string s, .int .i64 16, .int .i64 32] w fun e w' => Below w.heap.size w w' ∧ e = .returned (.tuple #[.int .u64 (hexV 0 l), .nilIface]) := by
  have hcv := conv_sb
  have hsz : s.size = 8 := by rw [size_len, hl]; exact h8
  have hne : (s.toList.isEmpty) = false := by
    rw [Lib.toList_data, hl]; cases l with | nil => simp at h8 | cons a r => rfl
  have ho := out_bytesWorld w 5 s (by rw [hsz]; decide)
  have hr := Lib.hid (RB.of_out' ho (by rw [← size_len]))
  rw [hl] at hr
  have hbw := below_bytesWorld w 5 s
  clear ho
  obtain ⟨T, hT⟩ : ∃ T, hexV 0 l = T := ⟨_, rfl⟩
  have HT := Lib.hid hT
  rw [hT]; clear hT
  have HL := Lib.hid hl; clear hl
  have H8 := Lib.hid h8; clear h8
  have HX := Lib.hid hx; clear hx
  have hsz' : (s.size : Int) = 8 := by omega
  go_enter Tryd.func67, Tryd.ntmps67
  go_wp2
  go_loopg [12, 13, 101] 8 (fun k u n i wr => Lib.bytesWorld w 5 s = wr ∧ ∃ (j : Nat) (m : Int), j + k = 8 ∧ u = .bool false ∧ n = .int .u64 m ∧ i = .int .i64 j ∧ 0 ≤ m ∧ Hid (m < 16 ^ j) ∧ Hid (hexV m (l.drop j) = T))
  case atStart => exact ⟨rfl, 0, 0, by omega, rfl, rfl, rfl, by omega, Lib.hid (by simp), HT⟩
  case round =>
    obtain ⟨rfl, j, m, hj, rfl, rfl, rfl, hm0, hm, H⟩ := hrel
    have HR := hr.out
    generalize hW : Lib.bytesWorld w 5 s = W at *
    clear hW
    by_cases hlt : j < 8
    · have hj8 : j < l.length := by rw [H8.out]; exact hlt
      obtain ⟨c, hc1, hc2⟩ := drop_bt hj8
      have hb0 := bt_lo l j
      have hb1 := bt_hi l j
      obtain ⟨b, off, hA, hB, hcell⟩ := HR.at_ hj8
      injection hA with hA
      injection hA with hA1 hA2
      have cj := hcell j hj8
      rw [← hA1, ← hA2, Nat.zero_add, ← hc2] at cj
      have hic : IsHex c := HX.out c (by
        have : c ∈ l.drop j := by rw [hc1]; simp
        exact List.mem_of_mem_drop this)
      have hm7 : m < 268435456 := Int.lt_of_lt_of_le hm.out (pow16_le (by omega))
      rw [hc1, hexV] at H
      have hv1 := hv_lt hic
      have hm2 : Hid (m * 16 + hv c < 16 ^ (j + 1)) := Lib.hid (by have := hm.out; rw [Int.pow_succ]; omega)
      clear hcell hA1 hA2 hB HR hr hc1 hc2 hb0 hb1 hbw
      have hlw := Lib.hid lower_hex
      have hjs : ((j : Int)) < 8 := by omega
      by_cases hdig : c.toNat ≤ 57
      · have e1 : Hid (hv c = (c.toNat : Int) - 48) := Lib.hid (by unfold hv; rw [if_pos hdig])
        have k1 : (48 : Int) ≤ (c.toNat : Int) := by unfold IsHex at hic; omega
        have k2 : (c.toNat : Int) ≤ 57 := by omega
        clear hic hdig
        generalize hv c = d at *
        generalize (c.toNat : Int) = x at *
        have hx95 : (x == 95) = false := beq_eq_false_iff_ne.2 (by omega)
        have HV1 := Lib.hid hv1
        clear hv1
        go_wp2
        go_roundg (gk - 1)
        case rel =>
          go_light
          exact ⟨rfl, j + 1, m * 16 + d, by omega, rfl, congrArg _ (by have := e1.out; omega), by go_num, by have := HV1.out; omega, hm2, H⟩
        case measure => omega
      · have e1 : Hid (hv c = (c.toNat : Int) - 87) := Lib.hid (by unfold hv; rw [if_neg hdig])
        have h97 : 97 ≤ c.toNat ∧ c.toNat ≤ 102 := by unfold IsHex at hic; omega
        have hl2 := Lib.hid (fun w => lower_hex c.toNat h97.1 h97.2 w)
        have k1 : (97 : Int) ≤ (c.toNat : Int) := by omega
        have k2 : (c.toNat : Int) ≤ 102 := by omega
        clear hic hdig h97 hlw
        generalize hv c = d at *
        generalize (c.toNat : Int) = x at *
        have hx95 : (x == 95) = false := beq_eq_false_iff_ne.2 (by omega)
        have HV1 := Lib.hid hv1
        clear hv1
        go_wp2_with (go_at_call 75; refine (hl2.out _).mono ?_; rintro e w' ⟨rfl, rfl⟩)
        go_roundg (gk - 1)
        case rel =>
          go_light
          exact ⟨rfl, j + 1, m * 16 + d, by omega, rfl, congrArg _ (by have := e1.out; omega), by go_num, by have := HV1.out; omega, hm2, H⟩
        case measure => omega
    · obtain rfl : j = 8 := by omega
      clear hm hne hsz' hlt
      go_wp2
      go_ret2
      have e1 : T = m := by rw [← H.out, List.drop_eq_nil_of_le (by have := H8.out; omega)]; rfl
      rw [e1]
      exact ⟨hbw, rfl⟩

theorem parseU16 (s : ByteArray) (l : List UInt8) (hl : s.data.toList = l) (h8 : l.length = 8) (hx : ∀ c ∈ l, IsHex c) (w : World) :
    Calls Tryd.prog 57 #[.string s, .int .i64 16, .int .i64 32] w fun e w' => Below w.heap.size w w' ∧ e = .returned (.tuple #[.int .u64 (hexV 0 l), .nilIface]) := by
  have h1 := Lib.hid (parse16 s l hl h8 hx w)
  clear hl h8 hx
  go_enter Tryd.func57, Tryd.ntmps57
  go_wp2_with (go_at_call 67; refine h1.out.mono ?_; rintro e w1 ⟨hb, rfl⟩)
  go_ret2
  exact ⟨hb, rfl⟩

/-- what 'TakeHex' answers -/
def isHexI (x : Int) : Bool := decide ((48 ≤ x ∧ x ≤ 57) ∨ (97 ≤ x ∧ x ≤ 102))
def isHexB (c : UInt8) : Bool := isHexI (c.toNat : Int)
def thE (l : List UInt8) : Int := if l.length < 8 then 20 else if (l.take 8).all isHexB then 0 else 21
def thV (l : List UInt8) : Int := if l.length < 8 then 0 else if (l.take 8).all isHexB then hexV 0 (l.take 8) else 0
theorem isHex_of {c : UInt8} (h : isHexB c = true) : IsHex c := by
  unfold isHexB isHexI at h
  rw [decide_eq_true_eq] at h
  unfold IsHex; omega
theorem hexV_lt : ∀ (l : List UInt8) (n : Int) (j : Nat), (∀ c ∈ l, IsHex c) → 0 ≤ n → n < 16 ^ j → 0 ≤ hexV n l ∧ hexV n l < 16 ^ (j + l.length)
  | [], n, j, _, h0, h1 => ⟨h0, h1⟩
  | c :: r, n, j, hx, h0, h1 => by
    have h2 := hv_lt (hx c (by simp))
    have := hexV_lt r (n * 16 + hv c) (j + 1) (fun d hd => hx d (by simp [hd])) (by omega) (by rw [Int.pow_succ]; omega)
    rw [List.length_cons, show j + (r.length + 1) = j + 1 + r.length by omega]
    exact this

set_option maxRecDepth 100000 in
set_option maxHeartbeats 2000000 in
theorem takeHex_any (A : Option Addr) (l : List UInt8) (cp : Nat) (w : World) (B : Nat) (h : RB w B A l) (hl : l.length ≤ cp) (hcp : cp ≤ maxLen) :
    Calls Tryd.prog 43 #[.slice A l.length cp] w fun e w' => Below w.heap.size w w' ∧ e = .returned (.tuple #[.int .u32 (thV l), .int .i64 (thE l)]) := by
  unfold maxLen at hcp
  by_cases h8 : l.length < 8
  · have e1 : thV l = 0 := by unfold thV; rw [if_pos h8]
    have e2 : thE l = 20 := by unfold thE; rw [if_pos h8]
    rw [e1, e2]
    clear e1 e2
    have h8' : (l.length : Int) < 8 := by omega
    go_enter Tryd.func43, Tryd.ntmps43
    go_wp2
    go_ret2
    exact ⟨Below.refl _ _, rfl⟩
  · obtain ⟨L, hL⟩ : ∃ L, l.take 8 = L := ⟨_, rfl⟩
    have e1' : Hid (thV l = if L.all isHexB then hexV 0 L else 0) := Lib.hid (by unfold thV; rw [if_neg h8, hL])
    have e2' : Hid (thE l = if L.all isHexB then 0 else 21) := Lib.hid (by unfold thE; rw [if_neg h8, hL])
    obtain ⟨V, hV⟩ : ∃ V, thV l = V := ⟨_, rfl⟩
    obtain ⟨E, hE⟩ : ∃ E, thE l = E := ⟨_, rfl⟩
    rw [hV] at e1' ⊢
    rw [hE] at e2' ⊢
    clear hV hE
    have hLl : L.length = 8 := by rw [← hL, List.length_take]; omega
    have hR := h.take 8
    rw [hL] at hR
    have hcv := cvRB hR 8 cp hLl.symm
    have h8' : (8 : Int) ≤ (l.length : Int) := by omega
    have h8c : (8 : Int) ≤ (cp : Int) := by omega
    have hpu : ∀ w, L.all isHexB = true → Calls Tryd.prog 57 #[.string ⟨L.toArray⟩, .int .i64 16, .int .i64 32] w fun e w' => Below w.heap.size w w' ∧ e = .returned (.tuple #[.int .u64 (hexV 0 L), .nilIface]) :=
      fun w ha => parseU16 ⟨L.toArray⟩ L rfl hLl (fun c hc => isHex_of (List.all_eq_true.1 ha c hc)) w
    have hvl : L.all isHexB = true → 0 ≤ hexV 0 L ∧ hexV 0 L < 4294967296 := fun ha => by
      have := hexV_lt L 0 0 (fun c hc => isHex_of (List.all_eq_true.1 ha c hc)) (by omega) (by omega)
      rw [hLl] at this
      omega
    have HPU := Lib.hid hpu; have HVL := Lib.hid hvl; have HLl := Lib.hid hLl
    clear hpu hvl hLl hL h
    go_enter Tryd.func43, Tryd.ntmps43
    go_wp2
    go_loopg [14] 8 (fun k i wr => w = wr ∧ ∃ (j : Nat), j + k = 8 ∧ i = .int .i64 j ∧ Hid (L.all isHexB = (L.drop j).all isHexB))
    case atStart => exact ⟨rfl, 0, by omega, rfl, Lib.hid rfl⟩
    case round =>
      obtain ⟨rfl, j, hj, rfl, H⟩ := hrel
      by_cases hlt : j < 8
      · have hj8 : j < L.length := by rw [HLl.out]; exact hlt
        obtain ⟨c, hc1, hc2⟩ := drop_bt hj8
        have hb0 := bt_lo L j
        have hb1 := bt_hi L j
        obtain ⟨b, off, rfl, hB, hcell⟩ := hR.at_ hj8
        have cj := hcell j hj8
        rw [hc1, List.all_cons] at H
        have hxb : Hid (isHexB c = isHexI (bt L j)) := Lib.hid (by unfold isHexB; rw [hc2])
        have hjs : ((j : Int)) < 8 := by omega
        clear hcell hc1 hc2 hcv hR
        generalize bt L j = x at *
        go_wp2
        all_goals first
          | (go_ret2
             refine ⟨Below.refl _ _, ?_⟩
             go_light
             have e1 : isHexI x = false := by unfold isHexI; rw [decide_eq_false_iff_not]; omega
             rw [e1'.out, e2'.out, H.out, hxb.out, e1]
             rfl)
          | (go_roundg (gk - 1)
             case rel =>
               go_light
               have e1 : isHexI x = true := by unfold isHexI; rw [decide_eq_true_eq]; omega
               rw [hxb.out, e1, Bool.true_and] at H
               exact ⟨by trivial, j + 1, by omega, by go_num, H⟩
             case measure => omega)
      · obtain rfl : j = 8 := by omega
        have ha : L.all isHexB = true := by rw [H.out, List.drop_eq_nil_of_le (by have := HLl.out; omega)]; rfl
        have h1 := Lib.hid (HPU.out w ha)
        have h2 := HVL.out ha
        rw [ha, if_pos rfl] at e1' e2'
        clear ha H hlt hR HPU HVL
        generalize hexV 0 L = U at *
        go_wp2_with (go_at_call 57; refine h1.out.mono ?_; rintro e w1 ⟨hb, rfl⟩)
        go_ret2
        refine ⟨hb, ?_⟩
        rw [e1'.out, e2'.out]
        rfl

set_option maxRecDepth 100000 in
set_option maxHeartbeats 2000000 in
theorem rtakeHex_any (A : Option Addr) (l : List UInt8) (cp : Nat) (w : World) (B : Nat) (h : RB w B A l) (hl : l.length ≤ cp) (hcp : cp ≤ maxLen) :
    Calls Tryd.prog 36 #[.slice A l.length cp] w fun e w' => w = w' ∧ e = .returned (.tuple #[.int .u32 (thV l), .int .i64 (thE l)]) := by
  unfold maxLen at hcp
  by_cases h8 : l.length < 8
  · have e1 : thV l = 0 := by unfold thV; rw [if_pos h8]
    have e2 : thE l = 20 := by unfold thE; rw [if_pos h8]
    rw [e1, e2]
    clear e1 e2
    have h8' : (l.length : Int) < 8 := by omega
    go_enter Tryd.func36, Tryd.ntmps36
    go_wp2
    go_ret2
    exact ⟨rfl, rfl⟩
  · obtain ⟨L, hL⟩ : ∃ L, l.take 8 = L := ⟨_, rfl⟩
    have e1' : Hid (thV l = if L.all isHexB then hexV 0 L else 0) := Lib.hid (by unfold thV; rw [if_neg h8, hL])
    have e2' : Hid (thE l = if L.all isHexB then 0 else 21) := Lib.hid (by unfold thE; rw [if_neg h8, hL])
    obtain ⟨V, hV⟩ : ∃ V, thV l = V := ⟨_, rfl⟩
    obtain ⟨E, hE⟩ : ∃ E, thE l = E := ⟨_, rfl⟩
    rw [hV] at e1' ⊢
    rw [hE] at e2' ⊢
    clear hV hE
    have hLl : L.length = 8 := by rw [← hL, List.length_take]; omega
    have hR := h.take 8
    rw [hL] at hR
    have h8' : (8 : Int) ≤ (l.length : Int) := by omega
    have HLl := Lib.hid hLl
    clear hLl hL h
    obtain ⟨a, ha⟩ : ∃ a, L.all isHexB = a := ⟨_, rfl⟩
    obtain ⟨T, hT⟩ : ∃ T, hexV 0 L = T := ⟨_, rfl⟩
    rw [ha, hT] at e1'
    rw [ha] at e2'
    have HA := Lib.hid ha; have HT := Lib.hid hT
    clear ha hT
    go_enter Tryd.func36, Tryd.ntmps36
    go_wp2
    go_loopg [4, 5] 8 (fun k n i wr => w = wr ∧ ∃ (j : Nat) (m : Int), j + k = 8 ∧ n = .int .u32 m ∧ i = .int .i64 j ∧ 0 ≤ m ∧ Hid (m < 16 ^ j) ∧ Hid (hexV m (L.drop j) = T) ∧ Hid ((L.drop j).all isHexB = a))
    case atStart => exact ⟨rfl, 0, 0, by omega, rfl, rfl, by omega, Lib.hid (by simp), HT, HA⟩
    case round =>
      obtain ⟨rfl, j, m, hj, rfl, rfl, hm0, hm, H2, H⟩ := hrel
      by_cases hlt : j < 8
      · have hj8 : j < L.length := by rw [HLl.out]; exact hlt
        obtain ⟨c, hc1, hc2⟩ := drop_bt hj8
        have hb0 := bt_lo L j
        have hb1 := bt_hi L j
        have hm7 : m < 268435456 := Int.lt_of_lt_of_le hm.out (pow16_le (by omega))
        obtain ⟨b, off, rfl, hB, hcell⟩ := hR.at_ hj8
        have cj := hcell j hj8
        rw [hc1, List.all_cons] at H
        rw [hc1, hexV] at H2
        have hxb : Hid (isHexB c = isHexI (bt L j)) := Lib.hid (by unfold isHexB; rw [hc2])
        have hvv : Hid (hv c = if bt L j ≤ 57 then bt L j - 48 else bt L j - 87) := Lib.hid (by
          unfold hv; rw [← hc2]
          by_cases h57 : c.toNat ≤ 57
          · rw [if_pos h57, if_pos (by omega)]
          · rw [if_neg h57, if_neg (by omega)])
        have hjs : ((j : Int)) < 8 := by omega
        clear hcell hc1 hc2 hR
        generalize bt L j = x at *
        generalize hv c = d at *
        go_wp2
        all_goals first
          | (go_ret2
             refine ⟨rfl, ?_⟩
             go_light
             have e1 : isHexI x = false := by unfold isHexI; rw [decide_eq_false_iff_not]; omega
             rw [e1'.out, e2'.out, ← H.out, hxb.out, e1]
             rfl)
          | (go_roundg (gk - 1)
             case rel =>
               go_light
               have e1 : isHexI x = true := by unfold isHexI; rw [decide_eq_true_eq]; omega
               rw [hxb.out, e1, Bool.true_and] at H
               have e2 := hvv.out
               have e3 := hm.out
               first
               | (rw [if_pos (by omega)] at e2
                  exact ⟨by trivial, j + 1, m * 16 + d, by omega, congrArg _ (by omega), by go_num, by omega, Lib.hid (by rw [Int.pow_succ]; omega), H2, H⟩)
               | (rw [if_neg (by omega)] at e2
                  exact ⟨by trivial, j + 1, m * 16 + d, by omega, congrArg _ (by omega), by go_num, by omega, Lib.hid (by rw [Int.pow_succ]; omega), H2, H⟩)
             case measure => omega)
      · obtain rfl : j = 8 := by omega
        go_wp2
        go_ret2
        refine ⟨rfl, ?_⟩
        go_light
        have hd : L.drop 8 = [] := List.drop_eq_nil_of_le (by have := HLl.out; omega)
        have e1 : a = true := by rw [← H.out, hd]; rfl
        have e2 : T = m := by rw [← H2.out, hd]; rfl
        rw [e1'.out, e2'.out, e1, e2]
        rfl
end Go.Proofs.YtfnhaddgdfkmcaaDoor
