/-
  The walk of PipeOrder. Conditions: the sizes.
-/
import Derived.Test.YtihhadgkcdkemaaDoorPOrd0
import Derived.BigQuiet
import Derived.Deep.QuietTactic
import Derived.Deep.CutBlock
import Derived.Lib.SlBytesConst
import Derived.Deep.DeepCutAuto
namespace Go.Proofs.YtihhadgkcdkemaaDoor
open Go.RowKit Go.Maps
set_option linter.unusedVariables false
theorem ord_app {w wr w6 : World} {mk : Nat → Nat × Nat} {pb : Nat} {S : List Pq} {v v6 : Value} {xs ys : List Value} {g g6 : Option Nat} {o : Obj} (hP : PSt wr mk pb S) (hB : Below w.heap.size w wr) (hz : ∀ k, k < w.heap.size → mk k = (0, 0)) (hX : OwnX 1 wr g v xs) (hg : ∀ k, g = some k → w.heap.size ≤ k ∧ mk k = (0, 0))
    (hX6 : OwnX 1 w6 g6 v6 ys) (hG : (wr.alloc o).grownBy w6 g) (ho : g6 = g ∨ g6 = some (wr.alloc o).heap.size) :
    ∃ mk6, PSt w6 mk6 pb S ∧ Below w.heap.size w w6 ∧ (∀ k, k < w.heap.size → mk6 k = (0, 0)) ∧ (∀ k, g6 = some k → w.heap.size ≤ k ∧ mk6 k = (0, 0)) := by
  have hs : (wr.alloc o).heap.size = wr.heap.size + 1 := by simp
  have hsz := hG.size
  have old : ∀ k, k < wr.heap.size → g ≠ some k → w6.heap[k]? = wr.heap[k]? := fun k hk h => (hG.block k (by omega) (fun e => h e.symm)).trans (Below.heap_alloc wr o k hk)
  have ht : Turn (fun t => t = (0, 0)) wr w6 mk (fun k => if k < wr.heap.size then mk k else (0, 0)) := ⟨hG.os, hG.tape, hG.output, by omega, fun k hk hn => old k hk (fun e => hn (hg k e).2), fun k hk _ => if_pos hk⟩
  refine ⟨_, hP.turn ht (fun t h1 _ e => by rw [e] at h1; simp at h1), ⟨hG.os.trans hB.os, hG.tape.trans hB.tape, hG.output.trans hB.output, by have := hB.size; omega, fun k hk => (old k (Nat.lt_of_lt_of_le hk hB.size) (fun e => by have := (hg k e).1; omega)).trans (hB.block k hk)⟩, fun k hk => by rw [if_pos (Nat.lt_of_lt_of_le hk hB.size)]; exact hz k hk, fun k hk => ?_⟩
  rcases ho with ho | ho
  · rw [ho] at hk
    exact ⟨(hg k hk).1, by rw [if_pos (hX.lt hk)]; exact (hg k hk).2⟩
  · rw [ho] at hk
    cases hk
    exact ⟨by have := hB.size; omega, by rw [if_neg (by omega)]⟩
theorem drop_cons {α : Type} {l r : List α} {a : Nat} {q : α} (h : l.drop a = q :: r) : a < l.length ∧ l[a]? = some q ∧ l.drop (a + 1) = r := by
  have h1 : a < l.length := by
    rcases Nat.lt_or_ge a l.length with h1 | h1
    · exact h1
    · rw [List.drop_of_length_le h1] at h; cases h
  rw [List.drop_eq_getElem_cons h1] at h
  injection h with h2 h3
  exact ⟨h1, by rw [List.getElem?_eq_getElem h1, h2], h3⟩
set_option maxRecDepth 1000000 in
set_option maxHeartbeats 4000000 in
theorem order_walk (w : World) (A0 A1 : Option Addr) (L : List (List UInt8)) (T : List Bool) (n0 c0 n1 c1 : Nat) (hn0 : n0 = L.length) (hn1 : n1 = T.length) (h0 : RR w w.heap.size A0 L) (h1 : RT w w.heap.size A1 T) (hb0 : n0 ≤ 5864062014634) (hb1 : n1 ≤ 140737488351232)
    (most : Int) (hm1 : -9223372036854775808 ≤ most) (hm2 : most ≤ 9223372036854775807) :
    Calls Tryd.prog 3 #[.slice A0 n0 c0, .slice A1 n1 c1, .int .i64 most] w fun e w' => Below w.heap.size w w' ∧ e = .returned (.bool true) := by
  have HN0 := Lib.hid hn0
  have HN1 := Lib.hid hn1
  have HR0 := Lib.hid h0
  have HR1 := Lib.hid h1
  have KS := Lib.hid (shown_walk w)
  clear hn0 hn1 h0 h1
  go_enter Tryd.func3, Tryd.ntmps3
  go_wp2_with fail
  with_reducible refine KS.out.mono ?_
  rintro e1 w1 ⟨hb, rfl⟩
  have HB1 := Lib.hid hb
  have KN := Lib.hid (new_walk w1 fun _ => (0, 0))
  clear hb KS
  go_wp2_with fail
  with_reducible refine KN.out.mono ?_
  rintro e2 w2 ⟨mk2, pb, hP, hT, rfl⟩
  have HB2 := Lib.hid (HB1.out.trans (hT.below HB1.out.size (fun _ _ => rfl) isP0))
  have HZ2 := Lib.hid (hT.zero HB1.out.size (fun _ _ => rfl) isP0)
  have KO := Lib.hid (open_walk w2 mk2 pb [] hP (by simp) ⟨#[97]⟩ ⟨#[98]⟩ (by decide) (by decide) most hm1 hm2)
  clear hP hT KN HB1
  go_wp2_with fail
  with_reducible refine KO.out.mono ?_
  rintro e3 w3 hp
  by_cases hmo : most < 1 ∨ 64 < most
  · obtain ⟨mk3, hP, hT, rfl⟩ := hp.get (oa0 most hmo)
    have HB3 := Lib.hid (HB2.out.trans (hT.below HB2.out.size HZ2.out isP0))
    have HZ3 := Lib.hid (hT.zero HB2.out.size HZ2.out isP0)
    have KO2 := Lib.hid (open_walk w3 mk3 pb [] hP (by simp) ⟨#[98]⟩ ⟨#[97]⟩ (by decide) (by decide) 64 (by decide) (by decide))
    clear hp hP hT KO hmo
    go_wp2_with fail
    with_reducible refine KO2.out.mono ?_
    rintro e4 w4 hp
    obtain ⟨mk4, hP, hT, rfl⟩ := hp.get ob0
    have HB4 := Lib.hid (HB3.out.trans (hT.below HB3.out.size HZ3.out isP0))
    clear hp hP hT KO2
    go_wp2
    go_ret
    exact ⟨HB4.out, rfl⟩
  · obtain ⟨m, rfl⟩ := Int.eq_ofNat_of_zero_le (show 0 ≤ most by omega)
    obtain ⟨mk3, hP, hT, rfl⟩ := hp.get (oa1 m hmo)
    have HB3 := Lib.hid (HB2.out.trans (hT.below HB2.out.size HZ2.out isP0))
    have HZ3 := Lib.hid (hT.zero HB2.out.size HZ2.out isP0)
    have KO2 := Lib.hid (open_walk w3 mk3 pb _ hP (by simp) ⟨#[98]⟩ ⟨#[97]⟩ (by decide) (by decide) 64 (by decide) (by decide))
    have hm64 : 1 ≤ m ∧ m ≤ 64 := by omega
    clear hp hP hT KO hmo hm1 hm2
    go_wp2_with fail
    with_reducible refine KO2.out.mono ?_
    rintro e4 w4 hp
    obtain ⟨mk4, hP, hT, rfl⟩ := hp.get (ob1 m)
    have HB4 := Lib.hid (HB3.out.trans (hT.below HB3.out.size HZ3.out isP0))
    have HZ4 := Lib.hid (hT.zero HB3.out.size HZ3.out isP0)
    have HS : Hid (OrdS w pb m w4 (.slice none 0 0) 0 0) := Lib.hid ⟨mk4, [], [], [], [], none, hP, HB4.out, HZ4.out, OwnX.nil _ _, (fun k hk => by cases hk), ⟨rfl, fun i v l h => by simp at h⟩, rfl, Nat.le_refl _, rfl⟩
    clear hp hP hT KO2 HB2 HB3 HZ2 HZ3 HB4 HZ4
    go_wp2
    go_loopg [11, 12, 13, 14, 15, 16, 17, 18, 19] n1 (fun k s11 s12 s13 s14 s15 s16 s17 s18 s19 wr => ∃ (j a nx n : Nat), j + k = n1 ∧ s14 = .int .i64 (j : Int) ∧ s13 = .int .i64 (nx : Int) ∧ s12 = .int .i64 (a : Int) ∧ Hid (OrdS w pb m wr s11 a n) ∧ n ≤ j ∧ nx ≤ n0 ∧ j ≤ 300)
    case atStart => exact ⟨0, 0, 0, 0, by omega, rfl, rfl, rfl, HS, by omega, by omega, by omega⟩
    case round =>
      obtain ⟨j, a, nx, n, hj, rfl, rfl, rfl, HO, hnj, hnx, hj3⟩ := hrel
      clear HS
      by_cases hlt : j < n1 ∧ j < 300
      · obtain ⟨hl1, hl2⟩ := hlt
        have hj1 : (j : Int) < (n1 : Int) := by omega
        have hj2 : (j : Int) < 300 := by omega
        obtain ⟨tj, htj⟩ : ∃ tj, T[j]? = some tj := ⟨_, List.getElem?_eq_getElem (by have := HN1.out; omega)⟩
        have HTJ := Lib.hid htj
        obtain ⟨mk, Q, R, SL, xs, g, hP, hB, hz, hX, hg, hSe, hd, ha, hnl⟩ := HO.out
        obtain ⟨b1, f1, rfl, kt⟩ : ∃ b1 f1, A1 = some ⟨b1, f1, none⟩ ∧ wr.cell? ⟨b1, f1 + j, none⟩ = some (.bool tj) := by
          rcases HR1.out.below hB with h | ⟨b, f, h2, -, h3⟩
          · rw [h] at htj; simp at htj
          · exact ⟨b, f, h2, h3 j tj htj⟩
        obtain ⟨Av, nv, cv, rfl, hx1, hx2, hx3⟩ := hX.sl
        obtain rfl : nv = n := by rw [hnl, ← hSe.1, hx1, Nat.mul_one]
        unfold maxLen at hx3
        have HP := Lib.hid hP
        have HBr := Lib.hid hB
        have HZ := Lib.hid hz
        have HX := Lib.hid hX
        have HG := Lib.hid hg
        have HSE := Lib.hid hSe
        have HD := Lib.hid hd
        have HA := Lib.hid ha
        have HNL := Lib.hid hnl
        clear htj HO hP hB hz hX hg hSe hd ha hnl hx1
        go_upto_region 15 with (fail)
        go_cut [64] from 55 to 63 (fun x wx => wr = wx ∧ x = .bool (tj && decide (nx < n0)))
        case first =>
          cases tj
          · go_wp2
            go_meet
            exact ⟨rfl, rfl⟩
          · by_cases hnl : nx < n0
            · have h1 : (nx : Int) < (n0 : Int) := by omega
              have e1 : decide (nx < n0) = true := decide_eq_true hnl
              go_wp2
              go_meet
              exact ⟨rfl, by rw [e1]; rfl⟩
            · have h1 : ¬ (nx : Int) < (n0 : Int) := by omega
              have e1 : decide (nx < n0) = false := decide_eq_false hnl
              go_wp2
              go_meet
              exact ⟨rfl, by rw [e1]; rfl⟩
        case rest =>
        obtain ⟨rfl, rfl⟩ := hcut
        obtain ⟨tb, htb⟩ : ∃ tb, (tj && decide (nx < n0)) = tb := ⟨_, rfl⟩
        rw [htb]
        have HTB : Hid (tb = true → nx < n0) := Lib.hid fun e => by rw [e] at htb; simp at htb; exact htb.2
        clear htb kt
        go_upto_if 64 with (fail)
        go_cut [11, 12, 13, 15, 16, 17] from 65 to 122 (fun v11 v12 v13 v15 v16 v17 wx => ∃ (a' nx' n' : Nat), v13 = .int .i64 (nx' : Int) ∧ v12 = .int .i64 (a' : Int) ∧ Hid (OrdS w pb m wx v11 a' n') ∧ n' ≤ j + 1 ∧ nx' ≤ n0)
        case first =>
          cases tb
          · have KT := Lib.hid (take_walk wr mk pb _ HP.out ⟨#[97]⟩ ⟨#[98]⟩ (by decide) (by decide))
            clear HTB
            go_wp2_with fail
            with_reducible refine KT.out.mono ?_
            rintro e5 w5 hp
            cases Q with
            | nil =>
              obtain ⟨mk5, hP5, hT5, A5, c5, rfl, hV5, hk5⟩ := hp.get (ta0 m R)
              obtain ⟨b5, z5, x5, g5⟩ := ord_turn HBr.out HZ.out HX.out HG.out hT5
              have ha : a = nv := by
                have h1 := congrArg List.length HD.out
                rw [List.length_drop] at h1
                have := HA.out
                have := HNL.out
                simp at h1
                omega
              have hta : ((a : Int) != (nv : Int)) = false := by rw [bne_eq_false_iff_eq]; omega
              have HFIN : Hid (OrdS w pb m w5 (.slice Av nv cv) a nv) := Lib.hid ⟨mk5, [], R, SL, xs, g, hP5, b5, z5, x5, g5, HSE.out, HD.out, HA.out, HNL.out⟩
              have HAN := Lib.hid ha
              clear KT hp hP5 hT5 hV5 hk5 b5 z5 x5 g5 ha HP HBr HZ HX HG HSE HD HA HNL
              go_wp2
              go_meet
              exact ⟨a, nx, nv, rfl, rfl, HFIN, by omega, hnx⟩
            | cons q r =>
              obtain ⟨mk5, hP5, hT5, A5, c5, rfl, hV5, hk5⟩ := hp.get (ta1 m q r R)
              obtain ⟨b5, z5, x5, g5⟩ := ord_turn HBr.out HZ.out HX.out HG.out hT5
              obtain ⟨d1, d2, d3⟩ := drop_cons HD.out
              have hal : a < nv := by have := HNL.out; omega
              have hal1 : (a : Int) < (nv : Int) := by omega
              have hal2 : ¬ (nv : Int) ≤ (a : Int) := by omega
              have hal3 : decide (nv ≤ a) = false := decide_eq_false (by omega)
              have hal4 : decide ((nv : Int) ≤ (a : Int)) = false := decide_eq_false (by omega)
              obtain ⟨gs, os, -, rfl, -, hcl, -⟩ := x5.at_ (by omega)
              have hxl : a < xs.length := by rw [HSE.out.1]; exact d1
              obtain ⟨As, cs, hvs, hrs⟩ := HSE.out.2 a _ q (List.getElem?_eq_getElem hxl) d2
              have kc : w5.cell? ⟨gs, os + a, none⟩ = some (.slice As q.length cs) := by rw [hcl a hxl, List.getElem?_eq_getElem hxl, hvs]
              have q1 := fun k => run_convRB (P := Tryd.prog) 30 9 5 Tryd.underlying30 Tryd.underlying5 Tryd.underlying9 (hV5.sl.2.2.2.drewN k) q.length c5 rfl
              have q2 := fun k => run_convRB (P := Tryd.prog) 30 9 5 Tryd.underlying30 Tryd.underlying5 Tryd.underlying9 ((hrs.below b5).drewN k) q.length cs rfl
              have HFIN : Hid (∀ k, OrdS w pb m (w5.drewN k) (.slice (some ⟨gs, os, none⟩) nv cv) (a + 1) nv) := Lib.hid fun k => ⟨mk5, r, R, SL, xs, g, hP5, bdrewN b5 k, z5, x5, g5, HSE.out, d3, by omega, HNL.out⟩
              clear KT hp hP5 hT5 hV5 hk5 b5 z5 x5 g5 d1 d2 d3 hcl hxl hvs hrs HP HBr HZ HX HG HSE HD HA HNL hal
              go_wp2_with fail
              go_quiet (fail)
              go_wp2
              go_meet
              exact ⟨a + 1, nx, nv, rfl, by go_num, Lib.hid (HFIN.out _), by omega, hnx⟩
          · have hnl := HTB.out rfl
            obtain ⟨l, hl⟩ : ∃ l, L[nx]? = some l := ⟨_, List.getElem?_eq_getElem (by have := HN0.out; omega)⟩
            obtain ⟨b2, f2, Ai, ci, rfl, -, kl, hl1, hl2, hl3⟩ := (HR0.out.below HBr.out).at_ hl
            have hnl1 : (nx : Int) < (n0 : Int) := by omega
            have HL3 := Lib.hid (show RB w w.heap.size Ai l from by
              obtain ⟨_, _, Ai', ci', e1, _, k2, _, _, h2⟩ := HR0.out.at_ hl
              cases e1
              have e3 := HBr.out.cell (p := ⟨b2, f2 + nx, none⟩) (by assumption)
              rw [kl, k2] at e3
              injection e3 with e3
              injection e3 with e3
              rw [e3]
              exact h2)
            have KS := Lib.hid (send_walk wr mk pb _ HP.out ⟨#[97]⟩ ⟨#[98]⟩ (by decide) (by decide) Ai l l.length ci rfl (hl3.mono HBr.out.size) (fun e => by rw [e] at hl3; rw [rb_nil hl3]; rfl) (Nat.le_trans hl1 hl2))
            have KL : Hid (∀ wx, Below w.heap.size w wx → wx.cell? ⟨b2, f2 + nx, none⟩ = some (.slice Ai l.length ci)) := Lib.hid fun wx hb => by
              obtain ⟨b', f', Ai', ci', e1, h1, k2, _⟩ := HR0.out.at_ hl
              cases e1
              have e3 := HBr.out.cell (p := ⟨b2, f2 + nx, none⟩) h1
              have e4 := hb.cell (p := ⟨b2, f2 + nx, none⟩) h1
              rw [e4, ← e3]
              exact kl
            clear HTB hl hl1 hl2 hl3 hnl
            go_wp2_with fail
            with_reducible refine KS.out.mono ?_
            rintro e5 w5 hp
            clear kl KS
            by_cases hlong : 65536 < l.length
            · obtain ⟨mk5, hP5, rfl, hT5⟩ := hp.get ((sa m Q R l).trans (if_pos hlong))
              obtain ⟨b5, z5, x5, g5⟩ := ord_turn HBr.out HZ.out HX.out HG.out hT5
              have HP5 := Lib.hid hP5
              have HB5 := Lib.hid b5
              have HZ5 := Lib.hid z5
              have HX5 := Lib.hid x5
              have HG5 := Lib.hid g5
              clear hp hP5 hT5 b5 z5 x5 g5 hlong HP HBr HZ HX HG
              have hcv := Lib.run_convert_bytes_const (P := Tryd.prog) w5 30 5 #[.int .u8 111, .int .u8 116, .int .u8 104, .int .u8 101, .int .u8 114] 5 5 Tryd.underlying30 Tryd.underlying5
              have KS2 := Lib.hid (send_walk (w5.alloc (.cells #[.int .u8 111, .int .u8 116, .int .u8 104, .int .u8 101, .int .u8 114] 5 (5, 6))) _ pb _ (HP5.out.alloc _) ⟨#[98]⟩ ⟨#[97]⟩ (by decide) (by decide) (some ⟨w5.heap.size, 0, none⟩) [111, 116, 104, 101, 114] 5 5 rfl (RB.mark w5 5 #[.int .u8 111, .int .u8 116, .int .u8 104, .int .u8 101, .int .u8 114] (5, 6) [111, 116, 104, 101, 114] rfl) (fun h => by cases h) (by decide))
              go_wp2_with fail
              with_reducible refine KS2.out.mono ?_
              rintro e8 w8 hp8
              obtain ⟨R8, er8, hsb⟩ := sb m Q R [111, 116, 104, 101, 114]
              obtain ⟨mk8, hP8, rfl, hT8⟩ := hp8.get hsb
              obtain ⟨b8, z8, x8, g8⟩ := ord_turn HB5.out HZ5.out HX5.out HG5.out ((Turn.refl isP _ _).alloc (.cells #[.int .u8 111, .int .u8 116, .int .u8 104, .int .u8 101, .int .u8 114] 5 (5, 6)) |>.trans hT8)
              have HFIN : Hid (OrdS w pb m w8 (.slice Av nv cv) a nv) := Lib.hid ⟨mk8, Q, R8, _, _, _, hP8, b8, z8, x8, g8, HSE.out, HD.out, HA.out, HNL.out⟩
              clear hcv KS2 hp8 hsb hP8 hT8 b8 z8 x8 g8
              go_wp2
              go_meet
              exact ⟨a, nx + 1, nv, by go_num, rfl, HFIN, by omega, by omega⟩
            · by_cases hfull : Q.length = m
              · obtain ⟨mk5, hP5, rfl, hT5⟩ := hp.get ((sa m Q R l).trans ((if_neg hlong).trans (if_pos hfull)))
                obtain ⟨b5, z5, x5, g5⟩ := ord_turn HBr.out HZ.out HX.out HG.out hT5
                have HP5 := Lib.hid hP5
                have HB5 := Lib.hid b5
                have HZ5 := Lib.hid z5
                have HX5 := Lib.hid x5
                have HG5 := Lib.hid g5
                clear hp hP5 hT5 b5 z5 x5 g5 hlong hfull HP HBr HZ HX HG
                have hcv := Lib.run_convert_bytes_const (P := Tryd.prog) w5 30 5 #[.int .u8 111, .int .u8 116, .int .u8 104, .int .u8 101, .int .u8 114] 5 5 Tryd.underlying30 Tryd.underlying5
                have KS2 := Lib.hid (send_walk (w5.alloc (.cells #[.int .u8 111, .int .u8 116, .int .u8 104, .int .u8 101, .int .u8 114] 5 (5, 6))) _ pb _ (HP5.out.alloc _) ⟨#[98]⟩ ⟨#[97]⟩ (by decide) (by decide) (some ⟨w5.heap.size, 0, none⟩) [111, 116, 104, 101, 114] 5 5 rfl (RB.mark w5 5 #[.int .u8 111, .int .u8 116, .int .u8 104, .int .u8 101, .int .u8 114] (5, 6) [111, 116, 104, 101, 114] rfl) (fun h => by cases h) (by decide))
                go_wp2_with fail
                with_reducible refine KS2.out.mono ?_
                rintro e8 w8 hp8
                obtain ⟨R8, er8, hsb⟩ := sb m Q R [111, 116, 104, 101, 114]
                obtain ⟨mk8, hP8, rfl, hT8⟩ := hp8.get hsb
                obtain ⟨b8, z8, x8, g8⟩ := ord_turn HB5.out HZ5.out HX5.out HG5.out ((Turn.refl isP _ _).alloc (.cells #[.int .u8 111, .int .u8 116, .int .u8 104, .int .u8 101, .int .u8 114] 5 (5, 6)) |>.trans hT8)
                have HFIN : Hid (OrdS w pb m w8 (.slice Av nv cv) a nv) := Lib.hid ⟨mk8, Q, R8, _, _, _, hP8, b8, z8, x8, g8, HSE.out, HD.out, HA.out, HNL.out⟩
                clear hcv KS2 hp8 hsb hP8 hT8 b8 z8 x8 g8
                go_wp2
                go_meet
                exact ⟨a, nx + 1, nv, by go_num, rfl, HFIN, by omega, by omega⟩
              · obtain ⟨mk5, hP5, rfl, hT5⟩ := hp.get ((sa m Q R l).trans ((if_neg hlong).trans (if_neg hfull)))
                obtain ⟨b5, z5, x5, g5⟩ := ord_turn HBr.out HZ.out HX.out HG.out hT5
                have HP5 := Lib.hid hP5
                have HB5 := Lib.hid b5
                have HZ5 := Lib.hid z5
                have HX5 := Lib.hid x5
                have HG5 := Lib.hid g5
                have kl5 := KL.out w5 b5
                clear hp hP5 hT5 b5 z5 x5 g5 hlong hfull HP HBr HZ HX HG
                go_wp2_with (at_builtin; refine wpList_appX _ uxL (.tmp 73) (.tmp 78) rfl rfl rfl (HX5.out.same (by simp) (fun k hk => Below.heap_alloc _ _ k (HX5.out.lt hk))) (some ⟨w5.heap.size, 0, none⟩) 1 1 rfl [.slice Ai l.length ci] rfl (fun h => by cases h) (one_new w5 30 _) (one_sl _ _ _) (by have := HX5.out.form.1; omega) ?_; intro v6 g6 w6 hX6 hG6 ho6; obtain ⟨A6, n6, c6, rfl, hf6, -, hc6⟩ := hX6.sl; obtain ⟨mk6, hP6, hB6, hZ6, hGm6⟩ := ord_app (w := w) HP5.out HB5.out HZ5.out HX5.out HG5.out hX6 hG6 ho6; have HX6 := Lib.hid hX6; have HP6 := Lib.hid hP6; have HB6 := Lib.hid hB6; have HZ6 := Lib.hid hZ6; have HG6 := Lib.hid hGm6; have HF6 := Lib.hid hf6; clear hX6 hG6 ho6 hP6 hB6 hZ6 hGm6 hf6 hc6; have hcv := Lib.run_convert_bytes_const (P := Tryd.prog) w6 30 5 #[.int .u8 111, .int .u8 116, .int .u8 104, .int .u8 101, .int .u8 114] 5 5 Tryd.underlying30 Tryd.underlying5)
                have hn6 : n6 = nv + 1 := by
                  have h1 := HF6.out
                  rw [List.length_append, HSE.out.1, ← HNL.out, Nat.mul_one] at h1
                  simpa using h1.symm
                have HN6 : Hid (n6 = (SL ++ [l]).length) := Lib.hid (by rw [hn6, List.length_append, ← HNL.out]; rfl)
                have HD6 : Hid ((SL ++ [l]).drop a = Q ++ [l]) := Lib.hid (by rw [List.drop_append_of_le_length HA.out, HD.out])
                have HA6 : Hid (a ≤ (SL ++ [l]).length) := Lib.hid (by rw [List.length_append]; have := HA.out; omega)
                have hn6a : n6 ≤ nv + 1 := by omega
                clear hn6
                have KS2 := Lib.hid (send_walk (w6.alloc (.cells #[.int .u8 111, .int .u8 116, .int .u8 104, .int .u8 101, .int .u8 114] 5 (5, 6))) _ pb _ (HP6.out.alloc _) ⟨#[98]⟩ ⟨#[97]⟩ (by decide) (by decide) (some ⟨w6.heap.size, 0, none⟩) [111, 116, 104, 101, 114] 5 5 rfl (RB.mark w6 5 #[.int .u8 111, .int .u8 116, .int .u8 104, .int .u8 101, .int .u8 114] (5, 6) [111, 116, 104, 101, 114] rfl) (fun h => by cases h) (by decide))
                with_reducible refine KS2.out.mono ?_
                rintro e8 w8 hp8
                obtain ⟨R8, er8, hsb⟩ := sb m (Q ++ [l]) R [111, 116, 104, 101, 114]
                obtain ⟨mk8, hP8, rfl, hT8⟩ := hp8.get hsb
                obtain ⟨b8, z8, x8, g8⟩ := ord_turn HB6.out HZ6.out HX6.out HG6.out ((Turn.refl isP _ _).alloc (.cells #[.int .u8 111, .int .u8 116, .int .u8 104, .int .u8 101, .int .u8 114] 5 (5, 6)) |>.trans hT8)
                have HFIN : Hid (OrdS w pb m w8 (.slice A6 n6 c6) a n6) := Lib.hid ⟨mk8, (Q ++ [l]), R8, _, _, _, hP8, b8, z8, x8, g8, HSE.out.snoc HL3.out, HD6.out, HA6.out, HN6.out⟩
                clear hcv KS2 hp8 hsb hP8 hT8 b8 z8 x8 g8
                go_wp2
                go_meet
                exact ⟨a, nx + 1, n6, by go_num, rfl, HFIN, by omega, by omega⟩
        case rest =>
          obtain ⟨a', nx', n', rfl, rfl, HO', hn', hnx'⟩ := hcut
          clear HP HBr HZ HX HG HSE HD HA HNL
          obtain ⟨mk', Q', R', SL', xs', g', hP, hB, hz, hX, hg, hSe, hd, ha, hnl⟩ := HO'.out
          obtain ⟨A', n'', c', rfl, hx1, hx2, hx3⟩ := hX.sl
          obtain rfl : n'' = n' := by rw [hnl, ← hSe.1, hx1, Nat.mul_one]
          have KL := len_walk wc mk' pb _ hP ⟨#[97]⟩ ⟨#[98]⟩ (by decide) (by decide)
          rw [la] at KL
          have KR := fun q => room_walk (wc.drewN q) mk' pb _ hP ⟨#[97]⟩ ⟨#[98]⟩ (by decide) (by decide)
          rw [ra] at KR
          have hQm : Q'.length ≤ m := by
            obtain ⟨_, _, _, _, _, _, _, _, _, _, h7, _⟩ := hP
            exact (h7.2 ⟨⟨#[97]⟩, ⟨#[98]⟩, m, Q'⟩ (by simp [S2])).2.2.2.2.1
          have hQl : Q'.length = n'' - a' := by rw [← hd, List.length_drop, ← hnl]
          have han : a' ≤ n'' := by rw [hnl]; exact ha
          have HORD : Hid (∀ q, OrdS w pb m (wc.drewN q) (.slice A' n'' c') a' n'') := Lib.hid fun q => ⟨mk', Q', R', SL', xs', g', hP, bdrewN hB q, hz, hX, hg, hSe, hd, ha, hnl⟩
          have HKL := Lib.hid KL
          have HKR := Lib.hid KR
          have t1 : ((Q'.length : Int) != (n'' : Int) - (a' : Int)) = false := by rw [bne_eq_false_iff_eq]; omega
          have t2 : ((Q'.length : Int) + ((m - Q'.length : Nat) : Int) != (m : Int)) = false := by rw [bne_eq_false_iff_eq]; omega
          have t3 : IntKind.i64.wrap ((n'' : Int) - (a' : Int)) = (n'' : Int) - (a' : Int) := IntWalk.i64_in _ (by omega)
          have t4 : ¬ (((m - Q'.length : Nat) : Int) < 0) := by omega
          have t5 : IntKind.i64.wrap ((Q'.length : Int) + ((m - Q'.length : Nat) : Int)) = (Q'.length : Int) + ((m - Q'.length : Nat) : Int) := IntWalk.i64_in _ (by omega)
          clear hP hB hz hX hg hSe hd ha hnl KL KR hx1 hx2 hx3 hQl HO'
          generalize Q'.length = qn at *
          generalize m - qn = rn at *
          go_wp2_with fail
          with_reducible refine HKL.out.mono ?_
          rintro e9 w9 ⟨rfl, q1, rfl⟩
          go_wp2_with fail
          with_reducible refine (HKR.out _).mono ?_
          rintro e10 w10 ⟨rfl, q2, rfl⟩
          clear HKL HKR
          go_wp2_with fail
          go_roundg (gk - 1)
          case rel => exact ⟨j + 1, a', nx', n'', by omega, by go_num, rfl, rfl, Lib.hid (HORD.out _), by omega, hnx', by omega⟩
          case measure => omega
      · have HBr : Hid (Below w.heap.size w wr) := Lib.hid (by obtain ⟨_, _, _, _, _, _, _, h, _⟩ := HO.out; exact h)
        rcases Nat.lt_or_ge j n1 with h | h
        · have hj1 : (j : Int) < (n1 : Int) := by omega
          have hj2 : ¬ (j : Int) < 300 := by omega
          clear hlt
          go_wp2
          go_ret
          exact ⟨HBr.out, rfl⟩
        · have hj1 : ¬ (j : Int) < (n1 : Int) := by omega
          clear hlt
          go_wp2
          go_ret
          exact ⟨HBr.out, rfl⟩
end Go.Proofs.YtihhadgkcdkemaaDoor
