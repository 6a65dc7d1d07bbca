/-
  bytes.IndexAny at few bytes, and whole; ContainsAny. Conditions: the library's tables, the sizes.
-/
import Derived.Test.YtkemmgfmmfcdlaaDoorIdxA
namespace Go.Proofs.YtkemmgfmmfcdlaaDoor
open Go.RowKit
set_option linter.unusedVariables false
theorem skip_drop {l : List UInt8} {j r k : Nat} {bo : Bool} (hj : j ≤ l.length) (hk : RuneHi (l.drop j) r k) (h : decide ((13 : UInt8) ∈ l.drop j ∨ (10 : UInt8) ∈ l.drop j) = bo) :
    decide ((13 : UInt8) ∈ l.drop (j + k) ∨ (10 : UInt8) ∈ l.drop (j + k)) = bo := by
  obtain ⟨h1, h2, h3, -⟩ := hk
  have e : l.drop j = (l.drop j).take k ++ l.drop (j + k) := by
    have := List.take_append_drop k (l.drop j)
    rw [List.drop_drop] at this
    exact this.symm
  have hn : ∀ c : UInt8, c.toNat < 128 → c ∉ (l.drop j).take k := by
    intro c hc hm
    obtain ⟨i, hi, rfl⟩ := List.getElem_of_mem hm
    rw [List.length_take] at hi
    have := h3 i (by omega)
    rw [List.getElem_take] at hc
    rw [List.getD_eq_getElem?_getD, List.getElem?_eq_getElem (by omega), Option.getD_some] at this
    omega
  rw [← h, Bool.eq_iff_iff, decide_eq_true_eq, decide_eq_true_eq, e, List.mem_append, List.mem_append]
  constructor
  · exact fun h => h.imp .inr .inr
  · rintro ((h | h) | (h | h))
    · exact absurd h (hn 13 (by decide))
    · exact .inl h
    · exact absurd h (hn 10 (by decide))
    · exact .inr h
theorem idx_enc (e : ByteArray) (h : 2 < e.size) : Lib.index crlf.data.toList e.data.toList = -1 :=
  Lib.index_long (by rw [← Lib.size_eq, ← Lib.size_eq]; show 2 ≤ _; omega) (fun h2 => by have := congrArg List.length h2; rw [← Lib.size_eq, ← Lib.size_eq] at this; have h3 : crlf.size = 2 := rfl; omega)
theorem is_run (e : ByteArray) (w : World) (m : Int) (hm : w.cell? ⟨0, 0, none⟩ = some (.int .i64 m)) (h2 : 2 < e.size) (hb : (e.size : Int) ≤ m) :
    (Extern.BytealgIndex.index #[.string crlf, .string e]).run Tryd.prog w = .ok (.int .i64 (-1)) w := by
  rw [Lib.run_indexString crlf e w 0 m (by kernel_rfl) hm (by omega) hb (by decide), idx_enc e h2]
set_option maxRecDepth 1000000 in
set_option maxHeartbeats 8000000 in
theorem any_short (w : World) (hT : TabsL w.heap.size w) (A : Option Addr) (c n : Nat) (l : List UInt8) (hn : n = l.length) (hr : RB w w.heap.size A l) (h8 : n ≤ 8) (h1 : n ≠ 1) (hc : n ≤ c) (hm : c ≤ 9223372036854775807) (bo : Bool) (hbo : decide ((13 : UInt8) ∈ l ∨ (10 : UInt8) ∈ l) = bo) :
    Calls Tryd.prog 37 #[.slice A n c, .string crlf] w (AnyPost w bo) := by
  have hsz : crlf.size = 2 := rfl
  have hne : crlf.toList.isEmpty = false := by rw [Lib.toList_data]; rfl
  have h81 : decide ((8 : Int) < (n : Int)) = false := decide_eq_false (by omega)
  have hn1 : ((n : Int) == 1) = false := beq_eq_false_iff_ne.2 (by omega)
  have HN := Lib.hid hn
  have KS := Lib.hid (should_walk (n : Int) w)
  rw [h81] at KS
  have H0 : Hid (decide ((13 : UInt8) ∈ l.drop 0 ∨ (10 : UInt8) ∈ l.drop 0) = bo) := Lib.hid (by rw [List.drop_zero]; exact hbo)
  have HR := Lib.hid hr
  have HT := Lib.hid hT
  have N0 := Lib.hid nx0
  have N1 := Lib.hid nx1
  have N2 := Lib.hid nx2
  have HBI := Lib.hid below_iter
  have HIR := Lib.hid is_run
  have HIB := Lib.hid ibs_run
  have HRH : Hid (∀ (l : List UInt8) (r k : Nat), RuneHi l r k → 1 ≤ k ∧ k ≤ l.length ∧ (r = 65533 ∨ (r ≠ 65533 ∧ 2 ≤ k ∧ 128 ≤ r ∧ crlf ≠ Utf8.encode (r : Int) ∧ (Utf8.encode (r : Int)).size = k))) := Lib.hid fun l r k h => ⟨h.1, h.2.1, h.2.2.2⟩
  clear hr hn hbo h81 hT h1
  generalize crlf = C at *
  go_enter Tryd.func37, Tryd.ntmps37
  go_wp2_with (refine KS.out.mono ?_; rintro e5 w5 ⟨rfl, rfl⟩)
  clear KS hn1 hne
  go_loopg [11, 12] n (fun k wd s wr => ∃ j : Nat, j + k = n ∧ s = .int .i64 j ∧ Hid (Below w.heap.size w wr) ∧ Hid (decide ((13 : UInt8) ∈ l.drop j ∨ (10 : UInt8) ∈ l.drop j) = bo))
  case atStart => exact ⟨0, by omega, rfl, Lib.hid (Below.refl _ _), H0⟩
  case round =>
    obtain ⟨j, hj, rfl, HB, H⟩ := hrel
    clear H0
    by_cases hlt : j < n
    · have hj1 : (j : Int) < (n : Int) := by omega
      have hlt2 : j < l.length := by rw [← HN.out]; exact hlt
      obtain ⟨x, hx⟩ : ∃ x, l[j]? = some x := ⟨_, List.getElem?_eq_getElem hlt2⟩
      have hRr := HR.out.below HB.out
      obtain ⟨b, off, rfl, hbb, hcl⟩ := hRr.at_ hlt2
      have hxe : l[j] = x := by rw [List.getElem?_eq_getElem hlt2] at hx; injection hx
      have kx : wr.cell? ⟨b, off + j, none⟩ = some (.int .u8 x.toNat) := by rw [hcl j hlt2, bt_getElem hlt2, hxe]
      have hxl : (x.toNat : Int) < 256 := by have := UInt8.toNat_lt x; omega
      have e32 : wrap32 (x.toNat : Int) = (x.toNat : Int) := by first | (unfold wrap32; omega) | exact wrap32_in (by omega) (by omega)
      have RR := Lib.hid hRr
      have hd := hit_drop hx H.out
      have hdx : (l.drop j).getD 0 0 = x := by rw [List.getD_eq_getElem?_getD, List.getElem?_drop, Nat.add_zero, hx]; rfl
      have HL2 := Lib.hid hlt2
      clear hx hRr hcl hxe hlt2
      by_cases hlo : x.toNat < 128
      · have hx2 : (x.toNat : Int) < 128 := by omega
        have e1 : IntKind.i64.wrap ((j : Int) + 1) = (j : Int) + 1 := IntWalk.i64_in _ (by omega)
        rcases hd with ⟨h1, h2⟩ | ⟨h1, h2⟩
        · obtain ⟨i, hi, hib⟩ := HIB.out x wr true h1
          have hi0 := of_decide_eq_true hib
          have HI := Lib.hid hi
          subst h2
          clear hi hib h1 hlo hdx
          generalize (x.toNat : Int) = xv at *
          go_wp2_with fail
          rw [run_callFunc_extern Tryd.func45 (by kernel_rfl) (by kernel_rfl) (by kernel_rfl) (e := Extern.BytealgIndexByte.indexByte) (by kernel_rfl), HI.out]
          simp only [Result.andThen]
          rw [Oper.upon_value]
          go_wp2
          go_ret
          exact ⟨HB.out, _, rfl, by simp⟩
        · obtain ⟨i, hi, hib⟩ := HIB.out x wr false h1
          have hi0 := of_decide_eq_false hib
          have HI := Lib.hid hi
          have H2 := Lib.hid h2
          clear hi hib h1 hlo hdx h2
          generalize (x.toNat : Int) = xv at *
          go_wp2_with fail
          rw [run_callFunc_extern Tryd.func45 (by kernel_rfl) (by kernel_rfl) (by kernel_rfl) (e := Extern.BytealgIndexByte.indexByte) (by kernel_rfl), HI.out]
          simp only [Result.andThen]
          rw [Oper.upon_value]
          go_wp2
          go_roundg (gk - 1)
          case rel => exact ⟨j + 1, by omega, by go_num, HB, H2⟩
          case measure => omega
      · have hx2 : ¬ (x.toNat : Int) < 128 := by omega
        clear hd
        have hcj : c ≠ j := by omega
        have hjc : (j : Int) ≤ (n : Int) := by omega
        have hT2 := HT.out.below HB.out
        have RD : Hid (RB wr w.heap.size (some ⟨b, off + j, none⟩) (l.drop j)) := Lib.hid (RR.out.drop j)
        have KD := Lib.hid (decrune_walk wr (hT2 wr (Below.refl _ _)).1 RD.out (n - j) (c - j) (by rw [HN.out, List.length_drop]) (by omega) (by rw [hdx]; omega))
        have HT2 := Lib.hid hT2
        clear hdx hlo hT2
        generalize (x.toNat : Int) = xv at *
        go_wp2_with fail
        refine KD.out.mono ?_
        rintro e5 w5 ⟨hb5, r, kk, rfl, hrk⟩
        have hb5' := hb5
        have hB5 : Below w.heap.size w w5 := HB.out.trans (hb5.mono HB.out.size)
        have HB5 := Lib.hid hB5
        obtain ⟨m, hm5⟩ := (HT2.out w5 (hb5.mono HB.out.size)).2
        have H2 := Lib.hid (skip_drop (Nat.le_of_lt HL2.out) hrk H.out)
        obtain ⟨hk1, hk2, hcase⟩ := HRH.out _ _ _ hrk
        have hk3 : j + kk ≤ n := by rw [List.length_drop, ← HN.out] at hk2; omega
        have e1 : IntKind.i64.wrap ((j : Int) + (kk : Int)) = ((j + kk : Nat) : Int) := by rw [IntWalk.i64_in _ (by omega)]; omega
        have HE1 := Lib.hid e1
        clear KD HT2 hb5 hb5' hB5 hrk hk2 kx e32 hx2 H RD
        rcases hcase with rfl | ⟨hr5, hk22, hr128, hne5, hse⟩
        · have n0 := N0.out w5
          have n1 := N1.out w5
          have n2 := N2.out w5
          have HBI5 := Lib.hid (fun i => HB5.out.trans ((HBI.out w5 i).mono HB5.out.size))
          go_wp2_with fail
          clear hm5
          go_loopg [] 2 (fun q wr => ∃ i, i + q = 2 ∧ wr = w5.iter C i)
          case atStart => exact ⟨0, rfl, rfl⟩
          case round =>
            obtain ⟨i, hi, rfl⟩ := hrel
            have hi3 : i = 0 ∨ i = 1 ∨ i = 2 := by omega
            rcases hi3 with rfl | rfl | rfl
            · clear n1 n2
              go_wp2
              go_roundg 1
              case rel => exact ⟨1, by omega, rfl⟩
              case measure => omega
            · clear n0 n2
              go_wp2
              go_roundg 0
              case rel => exact ⟨2, by omega, rfl⟩
              case measure => omega
            · clear n1 n0
              go_wp2
              go_roundg (n - j - kk)
              case rel => exact ⟨j + kk, by omega, by first | go_num | (rw [HE1.out]), Lib.hid (HBI5.out 2), H2⟩
              case measure => omega
        · have hrq : ((r : Int) != 65533) = true := by rw [bne_iff_ne]; omega
          have hce : (C.toList == (Utf8.encode (r : Int)).toList) = false := by
            rw [beq_eq_false_iff_ne, Lib.toList_data, Lib.toList_data]
            intro h
            exact hne5 (ByteArray.ext (Array.toList_inj.1 h))
          by_cases hkk : kk = 2
          · have hkq : ((2 : Int) == (kk : Int)) = true := beq_iff_eq.2 (by omega)
            clear hr5 hne5 hkk hse
            go_wp2
            go_roundg (n - j - kk)
            case rel => exact ⟨j + kk, by omega, by first | go_num | (rw [HE1.out]), HB5, H2⟩
            case measure => omega
          · have hkq : ((2 : Int) == (kk : Int)) = false := beq_eq_false_iff_ne.2 (by omega)
            by_cases hmk : (kk : Int) ≤ m
            · have HI := Lib.hid (HIR.out (Utf8.encode (r : Int)) w5 m hm5 (by omega) (by omega))
              clear hr5 hne5 hkk hse hce
              go_wp2_with fail
              rw [run_callFunc_extern Tryd.func50 (by kernel_rfl) (by kernel_rfl) (by kernel_rfl) (e := Extern.BytealgIndex.index) (by kernel_rfl), HI.out]
              simp only [Result.andThen]
              rw [Oper.upon_value]
              go_wp2
              go_roundg (n - j - kk)
              case rel => exact ⟨j + kk, by omega, by first | go_num | (rw [HE1.out]), HB5, H2⟩
              case measure => omega
            · have hr13 : ((r : Int) == 13) = false := beq_eq_false_iff_ne.2 (by omega)
              have hr10 : ((r : Int) == 10) = false := beq_eq_false_iff_ne.2 (by omega)
              clear hr5 hne5 hkk hse hce
              have n0 := N0.out w5
              have n1 := N1.out w5
              have n2 := N2.out w5
              have HBI5 := Lib.hid (fun i => HB5.out.trans ((HBI.out w5 i).mono HB5.out.size))
              go_wp2_with fail
              clear hm5
              go_loopg [] 2 (fun q wr => ∃ i, i + q = 2 ∧ wr = w5.iter C i)
              case atStart => exact ⟨0, rfl, rfl⟩
              case round =>
                obtain ⟨i, hi, rfl⟩ := hrel
                have hi3 : i = 0 ∨ i = 1 ∨ i = 2 := by omega
                rcases hi3 with rfl | rfl | rfl
                · clear n1 n2
                  go_wp2
                  go_roundg 1
                  case rel => exact ⟨1, by omega, rfl⟩
                  case measure => omega
                · clear n0 n2
                  go_wp2
                  go_roundg 0
                  case rel => exact ⟨2, by omega, rfl⟩
                  case measure => omega
                · clear n1 n0
                  go_wp2
                  go_roundg (n - j - kk)
                  case rel => exact ⟨j + kk, by omega, by first | go_num | (rw [HE1.out]), Lib.hid (HBI5.out 2), H2⟩
                  case measure => omega
    · have hj1 : ¬ (j : Int) < (n : Int) := by omega
      have hb : bo = false := by
        rw [← H.out, List.drop_eq_nil_of_le (by rw [← HN.out]; omega)]
        rfl
      subst hb
      clear H
      go_wp2
      go_ret
      exact ⟨HB.out, _, rfl, rfl⟩
theorem any_walk (w : World) (hT : TabsL w.heap.size w) (A : Option Addr) (c n : Nat) (l : List UInt8) (hn : n = l.length) (hr : RB w w.heap.size A l) (hc : n ≤ c) (hm : c ≤ 9223372036854775807) (hl : n ≤ 4611686018427387904) (bo : Bool) (hbo : decide ((13 : UInt8) ∈ l ∨ (10 : UInt8) ∈ l) = bo) :
    Calls Tryd.prog 37 #[.slice A n c, .string crlf] w (AnyPost w bo) := by
  by_cases h1 : n = 1
  · obtain ⟨b, off, rfl, -, hcl⟩ := hr.at_ (j := 0) (by omega)
    subst h1
    obtain ⟨x, rfl⟩ : ∃ x, l = [x] := by
      match l, hn with
      | [x], _ => exact ⟨x, rfl⟩
    refine any_one w b off c x (by have := hcl 0 (by simp); simpa [bt] using this) bo ?_
    rw [← hbo]
    simp [eq_comm]
  · by_cases h8 : 8 < n
    · obtain ⟨b, off, rfl, -, hcl⟩ := hr.at_ (j := 0) (by omega)
      exact any_long w b off c n l hn hr h8 hl bo hbo
    · exact any_short w hT A c n l hn hr (by omega) h1 hc hm bo hbo
/-- bytes.ContainsAny -/
theorem cany_walk (w : World) (hT : TabsL w.heap.size w) (A : Option Addr) (c n : Nat) (l : List UInt8) (hn : n = l.length) (hr : RB w w.heap.size A l) (hc : n ≤ c) (hm : c ≤ 9223372036854775807) (hl : n ≤ 4611686018427387904) (bo : Bool) (hbo : decide ((13 : UInt8) ∈ l ∨ (10 : UInt8) ∈ l) = bo) :
    Calls Tryd.prog 30 #[.slice A n c, .string crlf] w fun e w' => Below w.heap.size w w' ∧ e = .returned (.bool bo) := by
  have K := Lib.hid (any_walk w hT A c n l hn hr hc hm hl bo hbo)
  clear hT hn hr hbo
  generalize crlf = C at *
  go_enter Tryd.func30, Tryd.ntmps30
  go_wp2_with fail
  refine K.out.mono ?_
  rintro e1 w1 ⟨hb1, i, rfl, hi⟩
  subst hi
  go_wp2
  go_ret
  exact ⟨hb1, rfl⟩
end Go.Proofs.YtkemmgfmmfcdlaaDoor
