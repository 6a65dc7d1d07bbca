/-
  The walk of the program's Content. Conditions: the library's tables, the size.
-/
import Derived.Test.YtkemmgfmmfcdlaaDoorIdxS
import Derived.Test.YtkemmgfmmfcdlaaDoorMore
import Derived.Lib.SlBytesConst
namespace Go.Proofs.YtkemmgfmmfcdlaaDoor
open Go.RowKit
set_option linter.unusedVariables false
theorem idx_crlf : ∀ d : List UInt8, Lib.index d [13, 10] = match cutCR d with | none => -1 | some (x, _) => (x.length : Int)
  | [] => by rfl
  | [a] => by
    have : Lib.index [a] [13, 10] = -1 := Lib.index_long (by simp) (by intro h; have := congrArg List.length h; simp at this)
    rw [this]; rfl
  | a :: b :: r => by
    rw [cutCR]
    by_cases h : a = 13 ∧ b = 10
    · rw [if_pos h, Lib.index]
      simp [h.1, h.2, List.isPrefixOf]
    · rw [if_neg h]
      have hp : ([13, 10] : List UInt8).isPrefixOf (a :: b :: r) = false := by
        simp only [List.isPrefixOf, Bool.and_eq_false_iff, beq_eq_false_iff_ne]
        by_cases h13 : a = 13
        · exact .inr (.inl (fun e => h ⟨h13, e.symm⟩))
        · exact .inl (fun e => h13 e.symm)
      have ih := idx_crlf (b :: r)
      rw [Lib.index, hp]
      simp only [Bool.false_eq_true, if_false]
      rw [ih]
      cases e : cutCR (b :: r) with
      | none => simp
      | some xy =>
        obtain ⟨x, y⟩ := xy
        show (if (x.length : Int) = -1 then -1 else (x.length : Int) + 1) = ((a :: x).length : Int)
        rw [if_neg (by omega)]
        simp
/-- a constant's row, behind its conversion -/
theorem RB.mark (w : World) (E : TypeId) (C : Array Value) (fr : Nat × Nat) (l : List UInt8) (hC : C.toList = Lib.byteCells l) : RB (w.alloc (.cells C E fr)) (w.heap.size + 1) (some ⟨w.heap.size, 0, none⟩) l := by
  refine .inr ⟨w.heap.size, 0, rfl, Nat.lt_succ_self _, fun i hi => ?_⟩
  rw [Nat.zero_add, World.cell?_alloc_mark w C E fr i, ← Array.getElem?_toList, hC, bt_getElem hi]
  simp [Lib.byteCells, hi]
theorem cutCR_at {d x y : List UInt8} (h : cutCR d = some (x, y)) : d.take x.length = x ∧ d.drop (x.length + 2) = y ∧ d.length = x.length + 2 + y.length := by
  obtain ⟨h1, -⟩ := cutCR_some h
  subst h1
  refine ⟨by simp, ?_, by simp; omega⟩
  rw [show x.length + 2 = (x ++ [13, 10]).length by simp, show x ++ 13 :: 10 :: y = (x ++ [13, 10]) ++ y by simp, List.drop_left]
/-- bytes.Cut at CR LF -/
theorem cutcr_walk (w : World) {B B2 b off b2 o2 : Nat} {d : List UInt8} (h : RB w B (some ⟨b, off, none⟩) d) (h2 : RB w B2 (some ⟨b2, o2, none⟩) [13, 10]) (n c c2 : Nat) (hn : n = d.length) (hc : n ≤ c) (hl : n < 4294967281) (m : Int) (hm : w.cell? ⟨0, 0, none⟩ = some (.int .i64 m)) :
    Calls Tryd.prog 22 #[.slice (some ⟨b, off, none⟩) n c, .slice (some ⟨b2, o2, none⟩) 2 c2] w fun e w' => (∃ q, w' = w.drewN q) ∧
      ((cutCR d = none ∧ e = .returned (.tuple #[.slice (some ⟨b, off, none⟩) n c, .slice none 0 0, .bool false])) ∨
       ∃ x y A3 c3, cutCR d = some (x, y) ∧ e = .returned (.tuple #[.slice (some ⟨b, off, none⟩) x.length c, .slice A3 y.length c3, .bool true]) ∧ RB w B A3 y ∧ y.length ≤ c3 ∧ c3 ≤ c) := by
  subst hn
  refine (Tryd.bytes_Cut_all (some ⟨b, off, none⟩) (some ⟨b2, o2, none⟩) d.length c 2 c2 (nums d) (nums [13, 10]) m w (nums_len d) rfl (nums_rng d) (nums_rng _) h.bytesIn h2.bytesIn (fun e => by cases e) hc hl (by decide) hm).mono ?_
  rintro e w' ⟨rfl, hw⟩
  refine ⟨hw, ?_⟩
  rw [bytesOf_nums, bytesOf_nums, idx_crlf]
  unfold Lib.cutV Lib.fromV
  cases e : cutCR d with
  | none => exact .inl ⟨rfl, by simp⟩
  | some xy =>
    obtain ⟨x, y⟩ := xy
    obtain ⟨h1, h3, h4⟩ := cutCR_at e
    refine .inr ⟨x, y, (if c = x.length + 2 then some ⟨b, off, none⟩ else some ⟨b, off + (x.length + 2), none⟩), c - (x.length + 2), rfl, ?_, ?_, by omega, by omega⟩
    · have : d.length - (x.length + 2) = y.length := by omega
      simp [this, Addr.add_lit]
    · by_cases hce : c = x.length + 2
      · exact .inl (List.eq_nil_of_length_eq_zero (by omega))
      · rw [if_neg hce, ← h3]
        exact h.drop _
set_option maxRecDepth 100000 in
set_option maxHeartbeats 4000000 in
theorem cont_walk (w : World) (hT : TabsL w.heap.size w) (A : Option Addr) (l : List UInt8) (n c : Nat) (hn : n = l.length) (hr : RB w w.heap.size A l) (hc : n ≤ c) (hm : c ≤ 9223372036854775807) (hl : n < 4294967281) :
    Calls Tryd.prog 18 #[.slice A n c] w fun e w' => Below w.heap.size w w' ∧ e = .returned (.int .i64 (contP l)) := by
  obtain ⟨nb, hnb⟩ : ∃ nb, decide ((0 : UInt8) ∈ l) = nb := ⟨_, rfl⟩
  have K0 := Lib.hid (idx_walk w hr n c hn 0 0 rfl nb hnb)
  obtain ⟨F, hF⟩ : ∃ F, contP l = F := ⟨_, rfl⟩
  rw [hF]
  have HT := Lib.hid hT
  unfold contP at hF
  cases nb with
  | true =>
    rw [if_pos (of_decide_eq_true hnb)] at hF
    subst hF
    clear hr hn hnb hT HT
    go_enter Tryd.func18, Tryd.ntmps18
    go_wp2_with fail
    refine K0.out.mono ?_
    rintro e5 w5 ⟨rfl, i0, rfl, hi0⟩
    have hi0 := of_decide_eq_true hi0
    clear K0
    go_wp2
    go_ret
    exact ⟨Below.refl _ _, rfl⟩
  | false =>
    rw [if_neg (of_decide_eq_false hnb)] at hF
    have H0 : Hid (∃ fuel, l.length < fuel ∧ contF fuel l false = F) := Lib.hid ⟨_, Nat.lt_succ_self _, hF⟩
    have HR := Lib.hid hr
    have HN := Lib.hid hn
    clear hr hnb hT hF hn
    go_enter Tryd.func18, Tryd.ntmps18
    go_wp2_with fail
    refine K0.out.mono ?_
    rintro e5 w5 ⟨rfl, i0, rfl, hi0⟩
    have hi0 := of_decide_eq_false hi0
    clear K0
    have HC0 : Hid (contF 0 [] false = 0) := Lib.hid rfl
    have HCR := Lib.hid @cutcr_walk
    have HCA := Lib.hid cany_walk
    have hcr : (⟨#[13, 10]⟩ : ByteArray) = crlf := rfl
    go_wp2_with fail
    go_loopg [0, 3] n (fun k s lg wr => ∃ (d : List UInt8) (Ad : Option Addr) (cd : Nat) (long : Bool), s = .slice Ad k cd ∧ lg = .bool long ∧ Hid (k = d.length) ∧ k ≤ n ∧ k ≤ cd ∧ cd ≤ c ∧ Hid (RB w w.heap.size Ad d) ∧ Hid (Below w.heap.size w wr) ∧ Hid (∃ fuel, d.length < fuel ∧ contF fuel d long = F))
    case atStart => exact ⟨l, A, c, false, rfl, rfl, HN, Nat.le_refl _, hc, Nat.le_refl _, HR, Lib.hid (Below.refl _ _), H0⟩
    case round =>
      obtain ⟨d, Ad, cd, long, rfl, rfl, HD, hkn, hkc, hcd, HRD, HB, H⟩ := hrel
      clear H0 HR hi0
      by_cases h0 : 0 < gk
      · have hj1 : (0 : Int) < (gk : Int) := by omega
        obtain ⟨b, off, rfl, -, -⟩ := HRD.out.at_ (j := 0) (by rw [← HD.out]; exact h0)
        have hcv := Lib.run_convert_bytes_const (P := Tryd.prog) wr 32 5 #[.int .u8 13, .int .u8 10] 2 2 Tryd.underlying32 Tryd.underlying5
        have hba := HB.out.trans ((Below.refl wr.heap.size wr).alloc (Nat.le_refl _) (.cells #[.int .u8 13, .int .u8 10] 5 (2, 3)) |>.mono HB.out.size)
        obtain ⟨m, hmx⟩ := (HT.out _ hba).2
        have KC := Lib.hid (HCR.out (wr.alloc (.cells #[.int .u8 13, .int .u8 10] 5 (2, 3))) (HRD.out.below hba) (RB.mark wr 5 #[.int .u8 13, .int .u8 10] (2, 3) [13, 10] rfl) gk cd 2 HD.out hkc (by omega) m hmx)
        have HBA := Lib.hid hba
        have HBK : Hid (∀ A3 y, RB (wr.alloc (.cells #[.int .u8 13, .int .u8 10] 5 (2, 3))) w.heap.size A3 y → RB w w.heap.size A3 y) := Lib.hid fun A3 y h => h.keep (Nat.le_refl _) fun p hp => (hba.cell hp).symm
        clear hba hmx
        go_wp2_with fail
        refine KC.out.mono ?_
        rintro e6 w6 ⟨⟨q, rfl⟩, hcase⟩
        have hb6 := bdrewN HBA.out q
        clear KC HBA
        clear hcv
        generalize (wr.alloc (.cells #[.int .u8 13, .int .u8 10] 5 (2, 3))).drewN q = w6 at *
        have HB6 := Lib.hid hb6
        obtain ⟨fuel, hfu, hcf⟩ := H.out
        obtain ⟨fu, rfl⟩ : ∃ fu, fuel = fu + 1 := ⟨fuel - 1, by omega⟩
        rw [contF, if_neg (fun e => by rw [HD.out, e] at h0; simp at h0)] at hcf
        rcases hcase with ⟨hcn, rfl⟩ | ⟨x, y, A3, c3, hcs, rfl, hr3, hy3, hc3⟩
        · rw [hcn] at hcf
          have hF : F = 121 := hcf.symm
          subst hF
          clear hcn hcf hfu H hb6
          go_wp2
          go_ret
          exact ⟨HB6.out, rfl⟩
        · rw [hcs] at hcf
          simp only [] at hcf
          obtain ⟨h1, h3, h4⟩ := cutCR_at hcs
          have RX : Hid (RB w6 w6.heap.size (some ⟨b, off, none⟩) x) := Lib.hid (by
            have := (HRD.out.take x.length).below hb6
            rw [h1] at this
            exact this.mono hb6.size)
          have RY : Hid (RB w w.heap.size A3 y) := Lib.hid (HBK.out A3 y hr3)
          have hxk : x.length ≤ gk := by have := HD.out; omega
          have hyk : y.length < gk := by have := HD.out; omega
          have HFU : Hid (y.length < fu) := Lib.hid (by omega)
          obtain ⟨xb, hxb⟩ : ∃ xb, decide ((13 : UInt8) ∈ x ∨ (10 : UInt8) ∈ x) = xb := ⟨_, rfl⟩
          obtain ⟨xn, hxn⟩ : ∃ xn, xn = x.length := ⟨_, rfl⟩
          have KA := Lib.hid (HCA.out w6 (fun w' hb' => HT.out w' (hb6.trans (hb'.mono hb6.size))) (some ⟨b, off, none⟩) cd xn x hxn RX.out (by omega) (by omega) (by omega) xb hxb)
          have HXN := Lib.hid hxn
          rw [← hxn] at hxk hcf ⊢
          have HY : Hid (y.length = y.length) := Lib.hid rfl
          obtain ⟨yn, hyn⟩ : ∃ yn, yn = y.length := ⟨_, rfl⟩
          have HYN := Lib.hid hyn
          rw [← hyn] at hyk hy3 ⊢
          clear hxn hyn h1 h3 h4 hcs hfu H hb6 hr3 HY
          cases xb with
          | true =>
            rw [if_pos (of_decide_eq_true hxb)] at hcf
            subst hcf
            clear hxb
            go_wp2_with fail
            refine KA.out.mono ?_
            rintro e7 w7 ⟨hb7, rfl⟩
            have HB7 := Lib.hid hb7
            clear hb7 KA
            go_wp2
            go_ret
            exact ⟨HB6.out.trans (HB7.out.mono HB6.out.size), rfl⟩
          | false =>
            rw [if_neg (of_decide_eq_false hxb)] at hcf
            have H2 : Hid (∃ fuel, y.length < fuel ∧ contF fuel y (long || decide (998 < xn)) = F) := Lib.hid ⟨fu, HFU.out, hcf⟩
            clear hxb hcf
            go_wp2_with fail
            refine KA.out.mono ?_
            rintro e7 w7 ⟨hb7, rfl⟩
            have HB7 := Lib.hid (HB6.out.trans (hb7.mono HB6.out.size))
            clear hb7 KA
            have hlg : ∃ l2, (long || decide (998 < xn)) = l2 ∧ ((long = true ∧ l2 = true) ∨ (long = false ∧ (998 : Int) < (xn : Int) ∧ l2 = true) ∨ (long = false ∧ ¬ (998 : Int) < (xn : Int) ∧ l2 = false)) := by
              cases long
              · by_cases h : 998 < xn
                · exact ⟨true, by simp [h], .inr (.inl ⟨rfl, by omega, rfl⟩)⟩
                · exact ⟨false, by simp [h], .inr (.inr ⟨rfl, by omega, rfl⟩)⟩
              · exact ⟨true, rfl, .inl ⟨rfl, rfl⟩⟩
            obtain ⟨l2, hl2, hlc⟩ := hlg
            rw [hl2] at H2
            clear hl2
            rcases hlc with ⟨rfl, rfl⟩ | ⟨rfl, hl3, rfl⟩ | ⟨rfl, hl3, rfl⟩
            · go_wp2
              go_roundg yn
              case rel => exact ⟨y, A3, c3, true, rfl, rfl, HYN, by omega, hy3, by omega, RY, HB7, H2⟩
              case measure => omega
            · go_wp2
              go_roundg yn
              case rel => exact ⟨y, A3, c3, true, rfl, by first | rfl | (simp; omega), HYN, by omega, hy3, by omega, RY, HB7, H2⟩
              case measure => omega
            · go_wp2
              go_roundg yn
              case rel => exact ⟨y, A3, c3, false, rfl, by first | rfl | (simp; omega), HYN, by omega, hy3, by omega, RY, HB7, H2⟩
              case measure => omega
      · have hk0 : gk = 0 := by omega
        have hd : d = [] := List.eq_nil_of_length_eq_zero (by rw [← HD.out]; exact hk0)
        obtain ⟨fuel, hfu, hcf⟩ := H.out
        obtain ⟨fu, rfl⟩ : ∃ fu, fuel = fu + 1 := ⟨fuel - 1, by omega⟩
        rw [contF, if_pos hd] at hcf
        subst hk0
        clear hd H hfu
        cases long with
        | true =>
          have hF : F = 120 := by rw [← hcf, if_pos rfl]
          subst hF
          clear hcf
          go_wp2
          go_ret
          exact ⟨HB.out, rfl⟩
        | false =>
          have hF : F = 0 := by rw [← hcf, if_neg (by decide)]
          subst hF
          clear hcf
          go_wp2
          go_ret
          exact ⟨HB.out, rfl⟩
end Go.Proofs.YtkemmgfmmfcdlaaDoor
