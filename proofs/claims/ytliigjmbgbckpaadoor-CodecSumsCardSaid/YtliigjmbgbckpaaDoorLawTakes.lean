/-
  The walks of the laws CodecTakes and CodecSums. Their conditions: what the form gives (the tables of the library, the argument's reading).
-/
import Derived.Test.YtliigjmbgbckpaaDoorPHex
namespace Go.Proofs.YtliigjmbgbckpaaDoor
open Go.RowKit
set_option linter.unusedVariables false

theorem hexV_hexK : ∀ (k n m : Nat), n < 16 ^ k → hexV (m : Int) (hexK k n) = ((m * 16 ^ k + n : Nat) : Int) := by
  intro k
  induction k with
  | zero => intro n m h; simp [hexK, hexV]; omega
  | succ k ih =>
    intro n m h
    have hs : ∀ (a b : List UInt8) (v : Int), hexV v (a ++ b) = hexV (hexV v a) b := by
      intro a
      induction a with
      | nil => intro b v; rfl
      | cons c a iha => intro b v; rw [List.cons_append, hexV, iha]; rfl
    rw [hexK, hs, ih (n / 16) m (by rw [Nat.pow_succ] at h; omega)]
    have hd : hv (hdg (n % 16)) = ((n % 16 : Nat) : Int) := by
      have key : ∀ d : Fin 16, hv (hdg d.val) = ((d.val : Nat) : Int) := by decide +kernel
      exact key ⟨n % 16, by omega⟩
    rw [hexV, hd, hexV, Nat.pow_succ]
    have e : m * (16 ^ k * 16) = (m * 16 ^ k) * 16 := (Nat.mul_assoc _ _ _).symm
    rw [e]
    generalize m * 16 ^ k = q at *
    omega
theorem hexK_len : ∀ (k n : Nat), (hexK k n).length = k
  | 0, _ => rfl
  | k + 1, n => by rw [hexK, List.length_append, hexK_len k]; rfl
theorem hexK_all : ∀ (k n : Nat), (hexK k n).all isHexB = true
  | 0, _ => rfl
  | k + 1, n => by
    rw [hexK, List.all_append, hexK_all k]
    have key : ∀ d : Fin 16, isHexB (hdg d.val) = true := by decide +kernel
    have := key ⟨n % 16, by omega⟩
    simpa using this
theorem hex_back {n : Nat} (h : n < 4294967296) : thE (hex8 n ++ [120]) = 0 ∧ thV (hex8 n ++ [120]) = (n : Int) := by
  have e : hex8 n = hexK 8 n := (hexK_eq 8 n (by omega) (by omega)).symm
  have hl := hexK_len 8 n
  have ht : (hexK 8 n ++ [120]).take 8 = hexK 8 n := by rw [List.take_append_of_le_length (by omega), List.take_of_length_le (by omega)]
  have hn : ¬ (hexK 8 n ++ [120]).length < 8 := by rw [List.length_append]; omega
  rw [e]
  unfold thE thV
  rw [if_neg hn, if_neg hn, ht, hexK_all, if_pos rfl, if_pos rfl]
  refine ⟨rfl, ?_⟩
  have := hexV_hexK 8 n 0 (by omega)
  simpa using this

set_option maxHeartbeats 2000000 in
theorem lawSums (A : Option Addr) (l : List UInt8) (cp : Nat) (n : Nat) (w : World) (T : Tabs w) (h : RB w w.heap.size A l) (hl : l.length ≤ 140737488351232) (hn : n < 4294967296) :
    Calls Tryd.prog 8 #[.slice A l.length cp, .int .u32 n] w fun e w' => Below w.heap.size w w' ∧ e = .returned (.bool true) := by
  have hcv := conv_sb
  go_enter Tryd.func8, Tryd.ntmps8
  go_wp2_with fail
  refine (shown_any w T).mono ?_
  rintro e w1 ⟨hb1, rfl⟩
  have T1 := T.keep hb1
  have h1 := h.below hb1
  have hm : l.length ≤ maxLen := by simp only [maxLen]; omega
  go_wp2_with fail
  refine (rsum_any A l cp w1 _ h1 hm).mono ?_
  rintro e w2 ⟨rfl, rfl⟩
  go_wp2_with fail
  refine (sum_any A l cp w1 _ h1 hm).mono ?_
  rintro e w2 ⟨rfl, rfl⟩
  generalize crc l = C at *
  go_wp2_with fail
  refine (hex_any n w1 hn T1.cell T1.lt).mono ?_
  rintro e w2 ⟨hb2, rfl⟩
  obtain ⟨q1, q2⟩ := hex_back hn
  have hlen : (hex8 n).length = 8 := by
    rw [show hex8 n = hexK 8 n from (hexK_eq 8 n (by omega) (by omega)).symm, hexK_len]
  have hr := Lib.hid (fun w => rhex_any n w hn)
  have hb3 := hb1.trans (hb2.mono hb1.size)
  have hs3 := hb3.size
  clear T1 h1 h T hb1 hb2
  generalize hex8 n = X at *
  obtain ⟨s, hs⟩ : ∃ s : ByteArray, s = ⟨X.toArray⟩ := ⟨_, rfl⟩
  have hsz : s.size = 8 := by rw [hs, size_len]; exact hlen
  have hsd : Hid (s.data.toList = X) := Lib.hid (by rw [hs])
  rw [← hs] at hr ⊢
  have Q1 := Lib.hid q1; have Q2 := Lib.hid q2
  clear q1 q2 hs hlen
  go_wp2_with fail
  have hXl : (X ++ [120] : List UInt8).length = 9 := by rw [List.length_append, ← hsd.out, ← size_len, hsz]; rfl
  have ho := out_conv w2 5 (s ++ ⟨#[120]⟩) (l := X ++ [120]) (n := 9) (by rw [app_list, hsd.out]) hXl (by decide)
  have hr9 : RB _ _ _ (X ++ [120]) := RB.of_out' ho hXl
  have t1 := takeHex_any _ (X ++ [120]) (grownCap w2 9 0 5) _ _ hr9 (by rw [hXl]; exact grownCap_ge w2 _ _ _) (grownCap_le_maxLen w2 _ _ _ (by decide))
  rw [Q1.out, Q2.out, hXl] at t1
  have hbW := hb3.trans ((below_bytesWorld w2 5 (s ++ ⟨#[120]⟩)).mono hs3)
  generalize Lib.bytesWorld w2 5 (s ++ ⟨#[120]⟩) = W at *
  refine t1.mono ?_
  clear t1 ho hr9
  rintro e w3 ⟨hb4, rfl⟩
  have hb5 := hbW.trans (hb4.mono hbW.size)
  have hs5 := hb5.size
  clear hb4 hb3
  go_wp2_with (go_at_call 23; refine (hr.out _).mono ?_; rintro e w6 ⟨hb6, rfl⟩)
  go_ret
  exact ⟨hb5.trans (hb6.mono hs5), rfl⟩

theorem lawSumsI (A : Option Addr) (l : List UInt8) (cp : Nat) (z : Int) (w : World) (T : Tabs w) (h : RB w w.heap.size A l) (hl : l.length ≤ 140737488351232) (h0 : 0 ≤ z) (h1 : z ≤ 4294967295) :
    Calls Tryd.prog 8 #[.slice A l.length cp, .int .u32 z] w fun e w' => Below w.heap.size w w' ∧ e = .returned (.bool true) := by
  obtain ⟨n, rfl⟩ := Int.eq_ofNat_of_zero_le h0
  exact lawSums A l cp n w T h hl (by omega)

set_option maxRecDepth 100000 in
set_option maxHeartbeats 4000000 in
theorem lawTakes (A : Option Addr) (l : List UInt8) (cp : Nat) (w : World) (T : Tabs w) (h : RB w w.heap.size A l) (hl : l.length ≤ cp) (hcp : cp ≤ 140737488351232) :
    Calls Tryd.prog 7 #[.slice A l.length cp] w fun e w' => Below w.heap.size w w' ∧ e = .returned (.bool true) := by
  go_enter Tryd.func7, Tryd.ntmps7
  go_wp2_with fail
  refine (shown_any w T).mono ?_
  rintro e w1 ⟨hb1, rfl⟩
  have hs1 := hb1.size
  have h1 := Lib.hid (h.below hb1)
  clear h T
  have hlI : (l.length : Int) ≤ 140737488351232 := by omega
  go_wp2_with (first
    | (at_builtin; refine wpList_appB _ u8 (.tmp 22) (.tmp 23) rfl rfl w.heap.size rfl (OwnB.made _ _ _ hs1) l.length cp rfl rfl (h1.out.alloc hs1 _) (by first | omega | (simp; omega)) (by first | omega | (simp; omega)) ?_; intro v4 w4 ho4 hb4; rw [List.nil_append] at ho4; have HO4 := Lib.hid ho4; clear ho4; have hs4 := hb4.size; simp only [World.size_alloc] at hs4)
    | (at_builtin; refine wpList_appB _ u8 (.tmp 24) (.tmp 25) rfl rfl w.heap.size rfl (HO4.out.alloc _) (k := [177]) _ _ rfl rfl (RB.one _ _ _ _ rfl) (by first | omega | (simp; omega)) (by first | omega | (simp; omega)) ?_; intro v5 w5 ho5 hb5; obtain ⟨g, c5, rfl, hg1, hg2, hc5, hm5⟩ := ho5.form (by simp); have HO5 := Lib.hid ho5; clear ho5; rw [List.length_append, List.length_singleton] at hc5; unfold maxLen at hm5; have hc5I : (l.length : Int) + 1 ≤ (c5 : Int) := by omega)
    | fail)
  have hb6 := ((hb1.alloc hs1 _).trans hb4).alloc (by omega) (Obj.cells #[Value.int IntKind.u8 177] 5) |>.trans hb5
  have hs6 := hb6.size
  have hro := RB.of_out' HO5.out.out (by rw [List.length_append])
  have hcell := (HO5.out.cell (k := l.length) (by simp)).trans (by rw [show bt (l ++ [177]) l.length = 177 by simp [bt]])
  have hro' : RB w5 w5.heap.size (some ⟨g, 0, none⟩) l := by
    have := hro.take l.length
    rwa [List.take_append_of_le_length (Nat.le_refl _), List.take_of_length_le (Nat.le_refl _)] at this
  have hra := h1.out.below (((Below.refl w.heap.size w1).alloc hs1 (Obj.cells #[] 5) |>.trans hb4).alloc (by omega) (Obj.cells #[Value.int IntKind.u8 177] 5) |>.trans hb5)
  clear HO4 HO5 hro hb1 hb4 hb5 h1
  have hlm : l.length ≤ maxLen := by simp only [maxLen]; omega
  have hm5' : c5 ≤ maxLen := by simp only [maxLen]; omega
  have hcm' : cp ≤ maxLen := by simp only [maxLen]; omega
  have hc5' : l.length ≤ c5 := by omega
  have t1 := takeNumber_any (some ⟨g, 0, none⟩) l c5 w5 _ hro' hlm
  have t2 := rtakeNumber_any A l cp w5 _ hra hlm
  have t3 := takeText_any (some ⟨g, 0, none⟩) l c5 w5 _ hro' hlm hc5' hm5'
  have t4 := rtakeText_any A l cp w5 _ hra hlm hl hcm'
  generalize tk 59 16 9007199254740992 (bt l 0) l 0 0 = K at *
  generalize ttS l = S at *
  generalize ttN l = N at *
  generalize ttE l = E at *
  obtain ⟨k1, k2, k3⟩ := K
  refine t1.mono ?_
  clear t1
  rintro e w6 ⟨rfl, rfl⟩
  go_wp2_with fail
  refine t2.mono ?_
  clear t2
  rintro e w6 ⟨rfl, rfl⟩
  go_wp2_with fail
  refine t3.mono ?_
  clear t3
  rintro e w6 ⟨rfl, rfl⟩
  go_wp2_with fail
  refine t4.mono ?_
  clear t4
  rintro e w6 ⟨rfl, rfl⟩
  go_wp2_with fail
  have t5 := takeHex_any (some ⟨g, 0, none⟩) l c5 w5 _ hro' hc5' hm5'
  have t6 := fun W h => rtakeHex_any A l cp W w.heap.size h hl hcm'
  generalize thV l = V at *
  generalize thE l = F at *
  refine t5.mono ?_
  clear t5
  rintro e w6 ⟨hb7, rfl⟩
  go_wp2_with fail
  refine (t6 _ (hra.below (hb7.mono hs6))).mono ?_
  clear t6
  rintro e w7 ⟨rfl, rfl⟩
  have q1 := fun n => cvRB ((hro'.below hb7).drewN n) l.length c5 rfl
  have q2 := fun n => cvRB ((hra.below (hb7.mono hs6)).drewN n) l.length cp rfl
  have q3 := (hb7.cell (p := ⟨g, l.length, none⟩) hg2).trans hcell
  have hb8 := hb6.trans (hb7.mono hs6)
  clear hb6 hb7 hro' hra hcell
  go_wp2
  go_quiet (fail)
  go_wp2
  go_ret
  exact ⟨bdrewN hb8 _, rfl⟩
end Go.Proofs.YtliigjmbgbckpaaDoor
