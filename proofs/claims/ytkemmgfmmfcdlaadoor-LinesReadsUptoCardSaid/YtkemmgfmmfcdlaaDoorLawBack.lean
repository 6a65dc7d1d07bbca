/-
  The walk of LinesBack. It asks what the library's tables hold, and the size.
-/
import Derived.Test.YtkemmgfmmfcdlaaDoorLawStuffs
namespace Go.Proofs.YtkemmgfmmfcdlaaDoor
open Go.RowKit
set_option linter.unusedVariables false
theorem joinL_app : ∀ a b : List (List UInt8), joinL (a ++ b) = joinL a ++ joinL b
  | [], b => rfl
  | x :: a, b => by rw [List.cons_append, joinL, joinL_app a b, joinL]; simp
theorem joinL_len : ∀ L : List (List UInt8), 2 * L.length ≤ (joinL L).length
  | [] => by simp
  | x :: L => by rw [joinL, List.length_append, List.length_cons, List.length_cons, List.length_cons]; have := joinL_len L; omega
theorem joinL_stuff_len : ∀ L : List (List UInt8), (joinL (L.map stuffLn)).length ≤ (joinL L).length + L.length
  | [] => by simp
  | x :: L => by
    rw [List.map_cons, joinL, joinL]
    simp only [List.length_append, List.length_cons]
    have := joinL_stuff_len L
    have := stuffLn_len x
    omega
theorem NextPost.some2_ {T : TypeId} {w w' : World} {base p : Nat} {own : Option Nat} {most : Nat} {l y : List UInt8} {r : List UInt8 × Int} {e : Ending} (h : NextPost T w base p own most l e w') (hs : nextP most l = some (r, y)) :
    ∃ A c own', e = .returned (.tuple #[.slice A r.1.length c, .int .i64 r.2, .bool true]) ∧ OwnV w' w.heap.size (.slice A r.1.length c) r.1 ∧ Chg p none w w' ∧ Rd w' T base p own' most y ∧ (own' = own ∨ own' = none ∨ ∃ g, own' = some g ∧ w.heap.size ≤ g) := by
  rcases h with ⟨h, _⟩ | ⟨r', y', v, own', h, he, hv, hc, hr, ho⟩
  · rw [hs] at h; cases h
  · rw [hs] at h
    injection h with h
    injection h with h1 h2
    subst h1 h2
    obtain ⟨A, c, rfl, _⟩ := hv.out
    exact ⟨A, c, own', he, hv, hc, hr, ho⟩
/-- another row has grown -/
theorem Rd.grown {T : TypeId} {w w' : World} {base q : Nat} {o own : Option Nat} {most : Nat} {l : List UInt8} (h : Rd w T base q o most l) (hg : w.grownBy w' own) (h1 : own ≠ some q) (h2 : own = none ∨ own ≠ o) : Rd w' T base q o most l := by
  obtain ⟨h3, h4, h5⟩ := h.lt
  refine h.chg (Chg.of_grown (p := w.heap.size) hg) (by omega) h1 (fun e => by have := (h5 _ e).2; omega) ?_
  rcases h2 with rfl | h2
  · cases o with
    | none => exact .inl rfl
    | some g => exact .inr (by simp)
  · exact .inr (fun e => h2 e.symm)
theorem sep_step {oo o5 own7 : Option Nat} {p W : Nat} (D : oo ≠ some p ∧ (oo = none ∨ oo ≠ o5)) (h : own7 = oo ∨ own7 = some W) (hp : p < W) (h5 : ∀ g, o5 = some g → g < W) : own7 ≠ some p ∧ (own7 = none ∨ own7 ≠ o5) := by
  rcases h with rfl | rfl
  · exact D
  · refine ⟨fun e => by injection e with e; omega, .inr fun e => ?_⟩
    have := h5 _ e.symm
    omega
theorem joinL_snoc (dn : List (List UInt8)) (x : List UInt8) : joinL (dn ++ [x]) = (joinL dn ++ x) ++ [13, 10] := by
  rw [joinL_app]; simp [joinL]
theorem feed_at (w : World) (base p : Nat) (own : Option Nat) (most : Nat) (l : List UInt8) (A : Option Addr) (k : List UInt8) (n c : Nat) (hn : n = k.length) (hR : Rd w 48 base p own most l) (hk : RB w w.heap.size A k) (hb : base ≤ w.heap.size) (hs : l.length + k.length ≤ 140737488355328) :
    Calls Tryd.prog 10 #[.pointer (some ⟨p, 0, none⟩), .slice A n c] w (FeedPost 48 w base p own most (l ++ k)) := by
  subst hn
  exact feed_walk w base p own most l A k c hR hk hb hs
set_option maxRecDepth 1000000 in
set_option maxHeartbeats 1500000 in
theorem back_walk (w : World) (hT : TabsL w.heap.size w) (A : Option Addr) (l : List UInt8) (n c : Nat) (hn : n = l.length) (hr : RB w w.heap.size A l) (hc : n ≤ c) (hA : A = none → c = 0) (hm : c ≤ 9223372036854775807) (hl : n ≤ 1048576) :
    Calls Tryd.prog 6 #[.slice A n c] w fun e w' => Below w.heap.size w w' ∧ e = .returned (.bool true) := by
  have HT := Lib.hid hT
  have HR := Lib.hid hr
  have HN := Lib.hid hn
  have HA := Lib.hid hA
  have KS := Lib.hid (shown_walk w hT)
  clear hr hn hT hA
  go_enter Tryd.func6, Tryd.ntmps6
  go_wp2_with fail
  refine KS.out.mono ?_
  rintro e1 w1 ⟨hb1, rfl⟩
  have HB1 := Lib.hid hb1
  clear KS
  go_wp2_with fail
  refine (stuff_walk w1 (fun w' hb => HT.out w' (HB1.out.trans (hb.mono HB1.out.size))) A l n c HN.out ((HR.out.below hb1).mono hb1.size) hc HA.out hm (by omega)).mono ?_
  obtain ⟨F, hF⟩ : ∃ F, contP l = F := ⟨_, rfl⟩
  unfold StuffPost
  rw [hF]
  rintro e2 w2 ⟨hb2, v2, rfl, hV2⟩
  have HB2 := Lib.hid (HB1.out.trans (hb2.mono HB1.out.size))
  have HW1 : Hid (w.heap.size ≤ w1.heap.size) := Lib.hid hb1.size
  clear hb1 hb2 HB1
  go_wp2_with fail
  refine (new_ok 999 w2 w.heap.size HB2.out.size (by decide) (by decide)).mono ?_
  rintro e3 w3 ⟨rfl, hb3, hR3, hs3⟩
  have HB3 := Lib.hid (HB2.out.trans (hb3.mono HB2.out.size))
  have hV3 := (hV2.mono HW1.out).below hb3
  by_cases hF0 : F = 0
  · rw [if_pos hF0] at hV3
    subst hF0
    obtain ⟨L, hL, hcl⟩ := cont_lines hF
    have hS : stuffP l = joinL (L.map stuffLn) ++ [46, 13, 10] := by rw [hL]; exact stuff_lines fun x hx => (hcl x hx).1
    rw [hS] at hV3
    have hlen : L.length ≤ n := by rw [HN.out, hL]; have := joinL_len L; omega
    have hsl : (joinL (L.map stuffLn)).length ≤ 2 * n := by have := joinL_stuff_len L; rw [← hL, ← HN.out] at this; omega
    have hKl : (joinL (L.map stuffLn) ++ [46, 13, 10]).length ≤ 4000000 := by rw [List.length_append]; have h3 : ([46, 13, 10] : List UInt8).length = 3 := rfl; omega
    obtain ⟨K, hK⟩ : ∃ K, joinL (L.map stuffLn) ++ [46, 13, 10] = K := ⟨_, rfl⟩
    rw [hK] at hV3 hKl
    have HK := Lib.hid hK
    obtain ⟨A3, c3, rfl, hc3, hm3, hr3⟩ := hV3.out
    have HR3 := Lib.hid hR3
    have HRB3 := Lib.hid hr3
    have HL := Lib.hid hL
    have HCL := Lib.hid hcl
    have HP : Hid (w.heap.size ≤ w2.heap.size) := Lib.hid HB2.out.size
    have HPL : Hid (w2.heap.size < w3.heap.size) := Lib.hid (by omega)
    clear hF hS hV2 hb3 hR3 hs3 hr3 hV3 hL hcl HB2 hK
    obtain ⟨n3, hn3⟩ : ∃ n3, n3 = K.length := ⟨_, rfl⟩
    rw [← hn3] at hc3 hKl ⊢
    have HN3 := Lib.hid hn3
    clear hn3
    generalize w2.heap.size = p at *
    go_wp2_with fail
    refine (feed_at w3 w.heap.size p none 999 [] A3 K n3 c3 HN3.out HR3.out HRB3.out HB3.out.size (by rw [← HN3.out]; simp; omega)).mono ?_
    rintro e4 w4 ⟨rfl, own4, hR4, hC4, ho4⟩
    rw [List.nil_append, ← HK.out] at hR4
    have HR4 := Lib.hid hR4
    have HB4 := Lib.hid (HB3.out.trans (hC4.below HP.out (fun g hg => by cases hg) HB3.out.size))
    clear hR4 hC4 ho4 HR3 HRB3 HB3 HPL hc3 hm3
    go_wp2_with fail
    go_loopg [8, 9] L.length (fun k s8 s9 wr => ∃ (dn rs : List (List UInt8)) (oo orr : Option Nat), k = rs.length ∧ Hid (L = dn ++ rs) ∧ s9 = .int .i64 dn.length ∧ Hid (OwnQ wr w.heap.size oo s8 (joinL dn)) ∧ Hid (Rd wr 48 w.heap.size p orr 999 (joinL (rs.map stuffLn) ++ [46, 13, 10])) ∧ Hid (Below w.heap.size w wr) ∧ Hid (oo ≠ some p ∧ (oo = none ∨ oo ≠ orr)))
    case atStart => exact ⟨[], L, none, own4, rfl, Lib.hid rfl, rfl, Lib.hid (OwnQ.nil _ _ none), HR4, HB4, Lib.hid ⟨by simp, .inl rfl⟩⟩
    case round =>
      obtain ⟨dn, rs, oo, orr, hk, HLD, rfl, HO, HRR, HB, HD⟩ := hrel
      clear HR4 HB4
      obtain ⟨A8, c8, rfl, -⟩ := HO.out.out
      have hdl : dn.length ≤ n := by have := congrArg List.length HLD.out; rw [List.length_append] at this; omega
      have hi1 : (dn.length : Int) ≤ (n : Int) := by omega
      have e1 : IntKind.i64.wrap ((dn.length : Int) + 1) = (dn.length : Int) + 1 := IntWalk.i64_in _ (by omega)
      have hjl : (joinL dn).length + (joinL rs).length = n := by rw [HN.out, HL.out, HLD.out, joinL_app, List.length_append]
      have hjs := joinL_stuff_len rs
      have hrl := joinL_len rs
      cases rs with
      | nil =>
        have hL2 : joinL dn = l := by have h := HLD.out; rw [List.append_nil] at h; rw [← h]; exact HL.out.symm
        have ex : nextP 999 (joinL (([] : List (List UInt8)).map stuffLn) ++ [46, 13, 10]) = some (([46], 0), []) := by decide +kernel
        go_wp2_with fail
        refine (next_walk wr w.heap.size p orr 999 _ HRR.out HB.out.size (by simp; omega) (by decide)).mono ?_
        rintro e5 w5 hP5
        obtain ⟨A5, c5, own5, rfl, hV5, hC5, hR5, -⟩ := hP5.some2_ ex
        have HR5 := Lib.hid hR5
        have HB5 := Lib.hid (HB.out.trans (hC5.below HP.out (fun g hg => by cases hg) HB.out.size))
        have HO5 := Lib.hid (HO.out.chg hC5 HD.out.1 (by cases oo; exact .inl rfl; exact .inr (by simp)))
        obtain ⟨-, h51, h52, h53⟩ := hV5.sl
        have KD := Lib.hid (dot_walk w5 A5 [46] 1 c5 rfl h53 h51 h52 (by decide))
        clear hV5 hC5 hR5 hP5 h51 h52 h53 HRR HO
        go_wp2_with fail
        refine KD.out.mono ?_
        rintro e6 w6 hP6
        unfold DotPost at hP6
        rw [ex_d] at hP6
        obtain ⟨hb6, v6, rfl, -⟩ := hP6
        have HB6 := Lib.hid (HB5.out.trans (hb6.mono HB5.out.size))
        have q8 := RB.conv (HO5.out.below hb6).rb.1 (joinL dn).length c8 rfl
        have q0 := RB.conv (HR.out.below HB6.out) n c HN.out
        rw [hL2] at q8
        have KL := Lib.hid (left_walk w6 w.heap.size p own5 999 [] (HR5.out.below hb6))
        have hL3 : (joinL dn).length = l.length := by rw [hL2]
        clear hb6 KD
        clear hL3
        go_wp2_with (refine KL.out.mono ?_; rintro e30 w30 ⟨rfl, rfl⟩)
        go_ret
        exact ⟨HB6.out, rfl⟩
      | cons x rs =>
        obtain ⟨hcx, hx9⟩ := HCL.out x (by rw [HLD.out]; simp)
        have ex : nextP 999 (joinL ((x :: rs).map stuffLn) ++ [46, 13, 10]) = some ((stuffLn x, 0), joinL (rs.map stuffLn) ++ [46, 13, 10]) := by
          have h := next_line (most := 999) (x := stuffLn x) (joinL (rs.map stuffLn) ++ [46, 13, 10]) (stuffLn_clean hcx) (by have := stuffLn_len x; omega)
          rw [← h, List.map_cons, joinL]
          simp
        have hsx := stuffLn_len x
        have hjx : (joinL (x :: rs)).length = x.length + 2 + (joinL rs).length := by rw [joinL]; simp; omega
        have hz5 : (joinL ((x :: rs).map stuffLn) ++ [46, 13, 10]).length ≤ 140737488355328 := by
          rw [List.length_append]
          have h3 : ([46, 13, 10] : List UInt8).length = 3 := rfl
          have h4 : (x :: rs).length = rs.length + 1 := rfl
          rw [h4] at hjs
          omega
        go_wp2_with fail
        refine (next_walk wr w.heap.size p orr 999 _ HRR.out HB.out.size hz5 (by decide)).mono ?_
        rintro e5 w5 hP5
        obtain ⟨A5, c5, own5, rfl, hV5, hC5, hR5, ho5⟩ := hP5.some2_ ex
        have HR5 := Lib.hid hR5
        have HB5 := Lib.hid (HB.out.trans (hC5.below HP.out (fun g hg => by cases hg) HB.out.size))
        have HO5 := Lib.hid (HO.out.chg hC5 HD.out.1 (by cases oo; exact .inl rfl; exact .inr (by simp)))
        have HD5 : Hid (oo = none ∨ oo ≠ own5) := Lib.hid (by
          rcases HD.out.2 with h | h
          · exact .inl h
          · rcases ho5 with rfl | rfl | ⟨g, rfl, hg⟩
            · exact .inr h
            · cases oo with
              | none => exact .inl rfl
              | some q => exact .inr (by simp)
            · refine .inr fun e => ?_
              have := (HO.out.base_ e).2
              omega)
        obtain ⟨-, h51, h52, h53⟩ := hV5.sl
        have KD := Lib.hid (dot_walk w5 A5 (stuffLn x) (stuffLn x).length c5 rfl h53 h51 h52 (by omega))
        clear hV5 hC5 hR5 hP5 h51 h52 h53 HRR HO ho5
        go_wp2_with fail
        refine KD.out.mono ?_
        rintro e6 w6 hP6
        unfold DotPost at hP6
        rw [dot_stuff] at hP6
        obtain ⟨hb6, v6, rfl, hV6⟩ := hP6
        obtain ⟨A6, c6, rfl, -⟩ := hV6.out
        have HB6 := Lib.hid (HB5.out.trans (hb6.mono HB5.out.size))
        have HO6 := Lib.hid (HO5.out.below hb6)
        have HR6 := Lib.hid (HR5.out.below hb6)
        have RX6 := Lib.hid hV6.sl.2.2.2
        have HD6 : Hid (oo ≠ some p ∧ (oo = none ∨ oo ≠ own5)) := Lib.hid ⟨HD.out.1, HD5.out⟩
        have hb7z : (joinL dn).length + x.length ≤ 140737488355328 := by omega
        clear hb6 hV6 KD HO5 HR5 HB5 HD HD5 ex
        go_upto_region 18 with (at_builtin; go_loud (refine wpList_appQ _ u8S (.tmp 90) (.tmp 91) rfl rfl w.heap.size rfl HO6.out _ _ rfl rfl RX6.out hb7z HB6.out.size ?_); intro v7 own7 w7 hO7 hg7 ho7; obtain ⟨A7, cc7, rfl, -⟩ := hO7.out; rw [List.length_append] at hO7; have HO7 := Lib.hid hO7; have HB7 := Lib.hid (HB6.out.trans (HO6.out.belowG hg7 HB6.out.size)); have HR7 := Lib.hid (HR6.out.grown hg7 HD6.out.1 HD6.out.2); have HD7 := Lib.hid (sep_step HD6.out ho7 HR6.out.lt.2.1 (fun g hg => (HR6.out.lt.2.2 g hg).2)); clear hO7 hg7 ho7)
        have HOa := Lib.hid (HO7.out.alloc (.cells #[.int .u8 13, .int .u8 10] 5))
        have hba := (Below.refl w7.heap.size w7).alloc (Nat.le_refl _) (.cells #[.int .u8 13, .int .u8 10] 5)
        have HBa := Lib.hid (HB7.out.trans (hba.mono HB7.out.size))
        have HRa := Lib.hid (HR7.out.below hba)
        have RK : Hid (RB (w7.alloc (.cells #[.int .u8 13, .int .u8 10] 5)) (w7.heap.size + 1) (some ⟨w7.heap.size, 0, none⟩) [13, 10]) := Lib.hid ((Blk.new w7 _ _).rb 0 rfl (by omega))
        have hb8z : (joinL dn ++ x).length + ([13, 10] : List UInt8).length ≤ 140737488355328 := by rw [List.length_append]; simp; omega
        clear HO6 HB6 HR6 HD6 RX6 hba
        go_wp2_with (at_builtin; go_loud (refine wpList_appQ _ u8S (.tmp 93) (.tmp 94) rfl rfl w.heap.size rfl HOa.out _ _ rfl rfl RK.out hb8z HBa.out.size ?_); intro v8 own8 w8 hO8 hg8 ho8; obtain ⟨A9, cc9, rfl, -⟩ := hO8.out; rw [← joinL_snoc] at hO8; have HO8 := Lib.hid hO8; have HB8 := Lib.hid (HBa.out.trans (HOa.out.belowG hg8 HBa.out.size)); have HR8 := Lib.hid (HRa.out.grown hg8 HD7.out.1 HD7.out.2); have HD8 := Lib.hid (sep_step HD7.out ho8 HRa.out.lt.2.1 (fun g hg => (HRa.out.lt.2.2 g hg).2)); clear hO8 hg8 ho8)
        go_roundg rs.length
        case rel => exact ⟨dn ++ [x], rs, own8, own5, rfl, Lib.hid (by rw [HLD.out]; simp), by first | done | (simp; done) | go_num, by have h := HO8.out; rw [joinL_snoc, List.length_append, List.length_append] at h; rw [joinL_snoc]; exact h, HR8, HB8, HD8⟩
        case measure => first | (simp; done) | (rw [hk]; simp; done) | omega
  · rw [if_neg hF0] at hV3
    obtain ⟨A3, c3, rfl, -⟩ := hV3.out
    have q1 : (F != 0) = true := by rw [bne_iff_ne]; exact hF0
    have q2 : (F == 0) = false := beq_eq_false_iff_ne.2 hF0
    clear hV3 hV2 hb3 hR3 hs3 hF
    go_wp2
    go_ret
    exact ⟨HB3.out, rfl⟩
end Go.Proofs.YtkemmgfmmfcdlaaDoor
