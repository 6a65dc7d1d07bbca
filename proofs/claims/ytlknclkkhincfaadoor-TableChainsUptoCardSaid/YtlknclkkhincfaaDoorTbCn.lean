/-
  The walk of TableChains (printed by gen_cn.py). Conditions: the sizes; the tables.
-/
import Derived.Test.YtlknclkkhincfaaDoorTbCf
import Derived.Test.YtlknclkkhincfaaDoorTbOp
namespace Go.Proofs.YtlknclkkhincfaaDoor
open Go.RowKit Go.Shelf
set_option linter.unusedVariables false
theorem uxQ : UX Tryd.prog 50 24 1 := by
  obtain ⟨i, h1, h2, h3, h4⟩ := info_parts (show (Tryd.prog.info? 24).map (fun i => (i.zero, i.size, i.bytes)) = some (some (.pointer none), 1, 8) by kernel_rfl)
  exact ⟨Tryd.underlying50, ⟨i, _, h1, h2, rfl, h3, by omega⟩, by omega⟩
theorem one_ptr (a : Option Addr) : ∀ u ∈ ([.pointer a] : List Value), u.oneCell' = true := fun u hu => by
  obtain rfl : u = _ := List.mem_singleton.1 hu
  rfl
def OkT (LT : List OT) : Prop := ∀ T, some T ∈ LT.map tOf → AsciiT T ∧ sortE T ∧ T.length ≤ 2000
theorem OkT.add {LT : List OT} (h : OkT LT) {t : OT} (ht : ∀ T, tOf t = some T → AsciiT T ∧ sortE T ∧ T.length ≤ 2000) : OkT (LT ++ [t]) := fun T hT => by
  rw [List.map_append] at hT
  rcases List.mem_append.1 hT with hT | hT
  · exact h T hT
  · exact ht T (List.mem_singleton.1 hT).symm
/-- what holds of both rows -/
def ChR (wr : World) (B : Nat) (v6 v7 : Value) (i : Nat) : Prop :=
  ∃ g6 g7 LT LR, ChI wr B g6 g7 v6 v7 LT LR ∧ LT.length = i ∧ LR.length = i ∧ LT.map tOf = LR.map tOf ∧ OkT LT
theorem parse_cases {w w1 w2 w3 : World} {text : List UInt8} {e1 e2 : Ending} (h1 : PPostN w (parseP text) e1 w1) (h2 : RPPost w2 (refP text) e2 w3) :
    (∃ tb S T rb, e1 = .returned (.tuple #[.pointer (some ⟨tb, 0, none⟩), .agg #[.int .i64 0, .int .i64 0]]) ∧ e2 = .returned (.tuple #[.pointer (some ⟨rb, 0, none⟩), .agg #[.int .i64 0, .int .i64 0]]) ∧ TabIn w1 tb S T ∧ w.heap.size ≤ tb ∧ RTabI w3 rb T ∧ w2.heap.size ≤ rb ∧ AsciiT T ∧ sortE T ∧ T.length ≤ 2000) ∨
    (∃ c a d b : Int, e1 = .returned (.tuple #[.pointer none, .agg #[.int .i64 c, .int .i64 a]]) ∧ e2 = .returned (.tuple #[.pointer none, .agg #[.int .i64 d, .int .i64 b]])) := by
  obtain ⟨hs, ha⟩ := parse_same text
  rcases h1.2 with ⟨q, tb, S, rfl, t1, t2, t3, t4⟩ | ⟨q, rfl⟩
  · rw [if_pos q] at hs
    rcases h2.2 with ⟨T, rb, hT, rfl, r1, r2, r3, r4⟩ | ⟨d, b, hT, rfl⟩
    · have : T = (parseP text).1 := Option.some.inj (hT.symm.trans hs)
      subst this
      exact .inl ⟨tb, S, _, rb, rfl, rfl, t1, t4, r1, r4, ha _ hs, t2, t3⟩
    · rw [hs] at hT; cases hT
  · rw [if_neg q] at hs
    rcases h2.2 with ⟨T, rb, hT, rfl, r1, r2, r3, r4⟩ | ⟨d, b, hT, rfl⟩
    · rw [hs] at hT; cases hT
    · exact .inr ⟨_, _, d, b, rfl, rfl⟩
/-- the strings of what is asked -/
theorem ask_cells {w : World} {B : Nat} {A : Option Addr} {R : List (List ByteArray)} (h : RRec w B 3 A R) (hs : ∀ r ∈ R, ∀ s ∈ r, s.size ≤ 1048576) {t : Nat} (ht : t < R.length) :
    ∃ x y z b off, A = some ⟨b, off, none⟩ ∧ b < B ∧ w.cell? ⟨b, off + t * 3, none⟩ = some (.string x) ∧ w.cell? ⟨b, off + t * 3 + 1, none⟩ = some (.string y) ∧ w.cell? ⟨b, off + t * 3 + 2, none⟩ = some (.string z) ∧ x.size ≤ 1048576 ∧ y.size ≤ 1048576 ∧ z.size ≤ 1048576 := by
  rcases h with rfl | ⟨b, off, rfl, hb, hc⟩
  · simp at ht
  · obtain ⟨h1, h2⟩ := hc t _ (List.getElem?_eq_getElem ht)
    have hm := hs _ (List.getElem_mem ht)
    generalize R[t] = r at *
    match r, h1 with
    | [x, y, z], _ => exact ⟨x, y, z, b, off, rfl, hb, (h2 0 x rfl).1, (h2 1 y rfl).1, (h2 2 z rfl).1, hm x (by simp), hm y (by simp), hm z (by simp)⟩
set_option maxRecDepth 100000 in
set_option maxHeartbeats 4000000 in
theorem chains_walk (w : World) (A0 : Option Addr) (c0 : Nat) (L : List ByteArray) (hr : RS w w.heap.size A0 L) (hc0 : L.length ≤ c0) (hm0 : c0 ≤ maxLen) (hsz : ∀ s ∈ L, s.size ≤ maxLen)
    (A1 : Option Addr) (c1 : Nat) (R : List (List ByteArray)) (hR : RRec w w.heap.size 3 A1 R) (hc1 : R.length ≤ c1) (hm1 : c1 ≤ maxLen) (hask : ∀ r ∈ R, ∀ s ∈ r, s.size ≤ 1048576) (hT : TabsT w.heap.size w) :
    Calls Tryd.prog 5 #[.slice A0 L.length c0, .slice A1 R.length c1] w fun e w' => Below w.heap.size w w' ∧ e = .returned (.bool true) := by
  obtain ⟨n, hn⟩ : ∃ n, L.length = n := ⟨_, rfl⟩
  obtain ⟨m, hm⟩ : ∃ m, R.length = m := ⟨_, rfl⟩
  rw [hn, hm]
  rw [hn] at hc0
  rw [hm] at hc1
  have HSh := Lib.hid (shown_walk w hT)
  have HT := Lib.hid hT
  have HRS := Lib.hid hr
  have HRC := Lib.hid hR
  have HSZ := Lib.hid hsz
  have HASK := Lib.hid hask
  have HN := Lib.hid hn
  have HMM := Lib.hid hm
  unfold maxLen at hm0 hm1
  clear hT hr hR hsz hask hn hm
  go_enter Tryd.func5, Tryd.ntmps5
  go_wp2_with fail
  refine HSh.out.mono ?_
  rintro e w1 ⟨hb1, rfl⟩
  have HB1 := Lib.hid hb1
  clear hb1 HSh
  go_upto_block 0 with fail
  go_cut [6, 7, 8, 9, 10, 11, 12] from 30 to 68 (fun v6 v7 v8 v9 v10 v11 v12 wx => ∃ i : Nat, i ≤ 10 ∧ Hid (Below w.heap.size w wx) ∧ Hid (ChR wx w.heap.size v6 v7 i))
  case first =>
    go_wp2_with fail
    go_loopg [6, 7, 8] 10 (fun k s6 s7 s8 wr => ∃ i : Nat, s8 = .int .i64 (i : Int) ∧ i + k = 10 ∧ Hid (Below w.heap.size w wr) ∧ Hid (ChR wr w.heap.size s6 s7 i))
    case atStart => exact ⟨0, rfl, rfl, HB1, Lib.hid ⟨none, none, [], [], ChI.nil _ _, rfl, rfl, rfl, fun T hT => by cases hT⟩⟩
    case round =>
      obtain ⟨i, rfl, hik, HB, HC⟩ := hrel
      by_cases hl : i < n
      · have hl1 : (i : Int) < (n : Int) := by omega
        by_cases h10 : i < 10
        · have h101 : (i : Int) < 10 := by omega
          obtain ⟨s, hs⟩ : ∃ s, L[i]? = some s := ⟨_, List.getElem?_eq_getElem (by rw [HN.out]; exact hl)⟩
          obtain ⟨b, off, rfl, hbl, kcs0⟩ : ∃ b off, A0 = some ⟨b, off, none⟩ ∧ b < w.heap.size ∧ w.cell? ⟨b, off + i, none⟩ = some (.string s) := by
            obtain ⟨b, off, h1, h2, h3⟩ := HRS.out.at_ (show i < L.length by rw [HN.out]; exact hl)
            refine ⟨b, off, h1, h2, ?_⟩
            obtain ⟨q1, q2⟩ := List.getElem?_eq_some_iff.1 hs
            rw [h3 i q1, st_getElem q1, q2]
          have kcs := Lib.hid kcs0
          have k1 := (HB.out.cell (p := ⟨b, off + i, none⟩) hbl).trans kcs0
          have hss := HSZ.out s (List.mem_of_getElem? hs)
          have hsl : s.data.toList.length ≤ 9223372036854775807 := by rw [Array.length_toList]; unfold maxLen at hss; exact hss
          have KP : Hid (Calls Tryd.prog 8 #[.string s] wr (PPostN wr (parseP s.data.toList))) := Lib.hid (by have h := parse_any s.data.toList wr hsl (tabsT_below HT.out HB.out); rw [bs_of] at h; exact h)
          have KR : Hid (∀ w', Calls Tryd.prog 7 #[.string s] w' (RPPost w' (refP s.data.toList))) := Lib.hid (fun w' => by have h := rparse_walk s.data.toList w' hsl; rw [bs_of] at h; exact h)
          clear kcs0 hs hss hsl
          go_wp2_with fail
          refine KP.out.mono ?_
          rintro e w2 hp
          have HP := Lib.hid hp
          clear KP k1
          rcases hp.2 with ⟨q, tb, S, rfl, t1, t2, t3, t4⟩ | ⟨q, rfl⟩
          · clear q t1 t2 t3 t4
            have HB2 := Lib.hid (HB.out.trans (hp.1.mono HB.out.size))
            have hba := (Below.refl w2.heap.size w2).alloc (Nat.le_refl _) (.cells #[.int .i64 0, .int .i64 0] 27)
            have HB3 := Lib.hid (HB2.out.trans (hba.mono HB2.out.size))
            have HW23 := Lib.hid (hp.1.trans (hba.mono hp.1.size))
            have k3 := (HB3.out.cell (p := ⟨b, off + i, none⟩) hbl).trans kcs.out
            clear hp hba
            go_wp2_with fail
            refine (KR.out _).mono ?_
            rintro e w4 hp2
            have pc := parse_cases HP.out hp2
            generalize HW3 : w2.alloc (.cells #[.int .i64 0, .int .i64 0] 27) = w3 at *
            rcases pc with ⟨tb', S', T, rb, e1, rfl, u1, u2, u3, u4, u5, u6, u7⟩ | ⟨cq, aq, d, bq, e1, rfl⟩
            · obtain rfl : tb = tb' := by simpa using e1
              obtain ⟨g6, g7, LT, LR, hI, hl6, hl7, hsame, hok⟩ := HC.out
              obtain ⟨A6, n6, c6, rfl, -⟩ := hI.r6.sl
              obtain ⟨A7, n7, c7, rfl, -⟩ := hI.r7.sl
              have hba := (Below.refl w4.heap.size w4).alloc (Nat.le_refl _) (.cells #[.int .i64 0, .int .i64 0] 27)
              have hw34 := hp2.1.trans (hba.mono hp2.1.size)
              have hwA := HW23.out.trans (hw34.mono HW23.out.size)
              have hIA := hI.below hwA
              have hTA := (hI.newT u1 u2).keep (N' := Nn g6 g7) (Nat.le_trans (by rw [← HW3]; simp) hw34.size) fun k hk hn => ⟨((hw34.mono (by rw [← HW3]; simp)).block k hk).trans (by rw [← HW3]; exact Below.heap_alloc _ _ _ hk), hn⟩
              have hRA := ((hI.below HW23.out).newR u3 u4).keep (N' := Nn g6 g7) hba.size fun k hk hn => ⟨hba.block k hk, hn⟩
              have HTA := Lib.hid hTA
              have HRA := Lib.hid hRA
              have HTO := Lib.hid (show AsciiT T ∧ sortE T ∧ T.length ≤ 2000 from ⟨u5, u6, u7⟩)
              clear hTA hRA u1 u2 u3 u4 u5 u6 u7
              have HIA := Lib.hid hIA
              have HBA := Lib.hid (HB.out.trans (hwA.mono HB.out.size))
              have HSM := Lib.hid (show LT.length = i ∧ LR.length = i ∧ LT.map tOf = LR.map tOf ∧ OkT LT from ⟨hl6, hl7, hsame, hok⟩)
              clear hp2 hba hw34 hwA hIA hI hl6 hl7 hsame hok HC HP KR e1 HW3
              go_upto_region 9 with fail
              generalize w4.alloc (.cells #[.int .i64 0, .int .i64 0] 27) = wA at *
              have HX6 := Lib.hid (HIA.out.r6.below ((Below.refl wA.heap.size wA).alloc (Nat.le_refl _) (.cells #[.pointer (some ⟨tb, 0, none⟩)] 30)) fun k hk => HIA.out.r6.lt hk)
              go_wp2_with (first
                | (at_builtin; refine wpList_appX _ uxP (.tmp 61) (.tmp 63) rfl rfl rfl HX6.out (some ⟨wA.heap.size, 0, none⟩) 1 1 rfl [.pointer (some ⟨tb, 0, none⟩)] rfl (fun h => by cases h) (news_of wA 30 [_]) (one_ptr _) (by rw [List.length_map, List.length_map]; have := HSM.out.1; omega) ?_; intro v5 g5 w5 hX5 hG5 ho5; obtain ⟨A5, n5, c5, rfl, -⟩ := hX5.sl; have hI5 := HIA.out.app6 (some (tb, T)) (.cells #[.pointer (some ⟨tb, 0, none⟩)] 30) hG5 ho5 HBA.out.size (fun p hp => by obtain rfl := Option.some.inj hp; exact HTA.out) hX5; have hk5 := HIA.out.keep6 (.cells #[.pointer (some ⟨tb, 0, none⟩)] 30) hG5 ho5; have HRA5 := Lib.hid (HRA.out.keep (by have := hG5.size; simp at this; omega) hk5); have HI5 := Lib.hid hI5; have HX7 := Lib.hid (hI5.r7.below ((Below.refl w5.heap.size w5).alloc (Nat.le_refl _) (.cells #[.pointer (some ⟨rb, 0, none⟩)] 24)) fun k hk => hI5.r7.lt hk); have HB5 := Lib.hid (HBA.out.trans (HIA.out.belowB6 (.cells #[.pointer (some ⟨tb, 0, none⟩)] 30) hG5 HBA.out.size)); clear hX5 hG5 ho5 hI5 hk5)
                | (at_builtin; refine wpList_appX _ uxQ (.tmp 65) (.tmp 67) rfl rfl rfl HX7.out (some ⟨w5.heap.size, 0, none⟩) 1 1 rfl [.pointer (some ⟨rb, 0, none⟩)] rfl (fun h => by cases h) (news_of w5 24 [_]) (one_ptr _) (by rw [List.length_map, List.length_map]; have := HSM.out.2.1; omega) ?_; intro v8 g8 w8 hX8 hG8 ho8; obtain ⟨A8, n8, c8, rfl, -⟩ := hX8.sl; have HI8 := Lib.hid (HI5.out.app7 (some (rb, T)) (.cells #[.pointer (some ⟨rb, 0, none⟩)] 24) hG8 ho8 HB5.out.size (fun p hp => by obtain rfl := Option.some.inj hp; exact HRA5.out) hX8); have HB8 := Lib.hid (HB5.out.trans (HI5.out.belowB7 (.cells #[.pointer (some ⟨rb, 0, none⟩)] 24) hG8 HB5.out.size)); clear hX8 hG8 ho8))
              go_roundg (gk - 1)
              case rel => exact ⟨i + 1, by go_num, by omega, HB8, Lib.hid ⟨_, _, _, _, HI8.out, by rw [List.length_append, HSM.out.1]; rfl, by rw [List.length_append, HSM.out.2.1]; rfl, (by rw [List.map_append, List.map_append, HSM.out.2.2.1]; first | done | rfl), HSM.out.2.2.2.add (fun T2 h => by obtain rfl := Option.some.inj h; exact HTO.out)⟩⟩
              case measure => omega
            · exact absurd e1 (by simp)
          · clear q
            have HB2 := Lib.hid (HB.out.trans (hp.1.mono HB.out.size))
            have hba := (Below.refl w2.heap.size w2).alloc (Nat.le_refl _) (.cells #[.int .i64 (parseP s.data.toList).2.1, .int .i64 (parseP s.data.toList).2.2] 27)
            have HB3 := Lib.hid (HB2.out.trans (hba.mono HB2.out.size))
            have HW23 := Lib.hid (hp.1.trans (hba.mono hp.1.size))
            have k3 := (HB3.out.cell (p := ⟨b, off + i, none⟩) hbl).trans kcs.out
            clear hp hba
            go_wp2_with fail
            refine (KR.out _).mono ?_
            rintro e w4 hp2
            have pc := parse_cases HP.out hp2
            generalize HW3 : w2.alloc (.cells #[.int .i64 (parseP s.data.toList).2.1, .int .i64 (parseP s.data.toList).2.2] 27) = w3 at *
            rcases pc with ⟨tb', S', T, rb, e1, rfl, u1, u2, u3, u4, u5, u6, u7⟩ | ⟨cq, aq, d, bq, e1, rfl⟩
            · exact absurd e1 (by simp)
            · skip
              obtain ⟨g6, g7, LT, LR, hI, hl6, hl7, hsame, hok⟩ := HC.out
              obtain ⟨A6, n6, c6, rfl, -⟩ := hI.r6.sl
              obtain ⟨A7, n7, c7, rfl, -⟩ := hI.r7.sl
              have hba := (Below.refl w4.heap.size w4).alloc (Nat.le_refl _) (.cells #[.int .i64 d, .int .i64 bq] 27)
              have hw34 := hp2.1.trans (hba.mono hp2.1.size)
              have hwA := HW23.out.trans (hw34.mono HW23.out.size)
              have hIA := hI.below hwA
              have HIA := Lib.hid hIA
              have HBA := Lib.hid (HB.out.trans (hwA.mono HB.out.size))
              have HSM := Lib.hid (show LT.length = i ∧ LR.length = i ∧ LT.map tOf = LR.map tOf ∧ OkT LT from ⟨hl6, hl7, hsame, hok⟩)
              clear hp2 hba hw34 hwA hIA hI hl6 hl7 hsame hok HC HP KR e1 HW3
              go_upto_region 9 with fail
              generalize w4.alloc (.cells #[.int .i64 d, .int .i64 bq] 27) = wA at *
              have HX6 := Lib.hid (HIA.out.r6.below ((Below.refl wA.heap.size wA).alloc (Nat.le_refl _) (.cells #[.pointer (none)] 30)) fun k hk => HIA.out.r6.lt hk)
              go_wp2_with (first
                | (at_builtin; refine wpList_appX _ uxP (.tmp 61) (.tmp 63) rfl rfl rfl HX6.out (some ⟨wA.heap.size, 0, none⟩) 1 1 rfl [.pointer (none)] rfl (fun h => by cases h) (news_of wA 30 [_]) (one_ptr _) (by rw [List.length_map, List.length_map]; have := HSM.out.1; omega) ?_; intro v5 g5 w5 hX5 hG5 ho5; obtain ⟨A5, n5, c5, rfl, -⟩ := hX5.sl; have hI5 := HIA.out.app6 none (.cells #[.pointer (none)] 30) hG5 ho5 HBA.out.size (fun p hp => by cases hp) hX5; have hk5 := HIA.out.keep6 (.cells #[.pointer (none)] 30) hG5 ho5; have HI5 := Lib.hid hI5; have HX7 := Lib.hid (hI5.r7.below ((Below.refl w5.heap.size w5).alloc (Nat.le_refl _) (.cells #[.pointer (none)] 24)) fun k hk => hI5.r7.lt hk); have HB5 := Lib.hid (HBA.out.trans (HIA.out.belowB6 (.cells #[.pointer (none)] 30) hG5 HBA.out.size)); clear hX5 hG5 ho5 hI5 hk5)
                | (at_builtin; refine wpList_appX _ uxQ (.tmp 65) (.tmp 67) rfl rfl rfl HX7.out (some ⟨w5.heap.size, 0, none⟩) 1 1 rfl [.pointer (none)] rfl (fun h => by cases h) (news_of w5 24 [_]) (one_ptr _) (by rw [List.length_map, List.length_map]; have := HSM.out.2.1; omega) ?_; intro v8 g8 w8 hX8 hG8 ho8; obtain ⟨A8, n8, c8, rfl, -⟩ := hX8.sl; have HI8 := Lib.hid (HI5.out.app7 none (.cells #[.pointer (none)] 24) hG8 ho8 HB5.out.size (fun p hp => by cases hp) hX8); have HB8 := Lib.hid (HB5.out.trans (HI5.out.belowB7 (.cells #[.pointer (none)] 24) hG8 HB5.out.size)); clear hX8 hG8 ho8))
              go_roundg (gk - 1)
              case rel => exact ⟨i + 1, by go_num, by omega, HB8, Lib.hid ⟨_, _, _, _, HI8.out, by rw [List.length_append, HSM.out.1]; rfl, by rw [List.length_append, HSM.out.2.1]; rfl, (by rw [List.map_append, List.map_append, HSM.out.2.2.1]; first | done | rfl), HSM.out.2.2.2.add (fun T2 h => by cases h)⟩⟩
              case measure => omega
        · have h101 : ¬ (i : Int) < 10 := by omega
          go_wp2_with fail
          go_meet
          exact ⟨i, by omega, HB, HC⟩
      · have hl1 : ¬ (i : Int) < (n : Int) := by omega
        go_wp2_with fail
        go_meet
        exact ⟨i, by omega, HB, HC⟩
  case rest =>
    obtain ⟨i, hi10, HB, HC⟩ := hcut
    obtain ⟨g6, g7, LT, LR, hI, hl6, hl7, hsame, hok⟩ := HC.out
    obtain ⟨A6, n6, c6, rfl, hx6, hn6, hm6⟩ := hI.r6.sl
    obtain ⟨A7, n7, c7, rfl, -⟩ := hI.r7.sl
    rw [List.length_map, List.length_map, Nat.mul_one] at hx6
    unfold maxLen at hm6
    have JK := Lib.hid (join_walk wc A6 n6 c6 g6 (LT.map pOf) hI.r6 (by rw [List.length_map]; omega))
    have HI := Lib.hid hI
    have HSM := Lib.hid (show LT.map tOf = LR.map tOf ∧ OkT LT ∧ LT.length ≤ 10 ∧ LR.length ≤ 10 from ⟨hsame, hok, by omega, by omega⟩)
    clear hI hsame hok HC HB1
    go_wp2_with fail
    refine JK.out.mono ?_
    rintro e w2 ⟨ch, rfl, hch, hb2⟩
    have HF := Lib.hid (Fin2.of HI.out hb2 hch)
    have HX := Lib.hid (HI.out.r6.below hb2 fun k hk => HI.out.r6.lt hk)
    have HB2 := Lib.hid (HB.out.trans (hb2.mono HB.out.size))
    clear hch hb2 JK
    go_wp2_with fail
    go_loopg [14] n6 (fun k s14 wr => ∃ (j : Nat) (xs : List Value), s14 = .int .i64 (j : Int) ∧ j + k = n6 ∧ Hid (OwnX 1 wr g6 (.slice A6 n6 c6) xs) ∧ Hid (Fin2 wr wc.heap.size g6 g7 (.slice A7 n7 c7) ch LT LR) ∧ Hid (Below w.heap.size w wr))
    case atStart => exact ⟨0, _, rfl, by omega, HX, HF, HB2⟩
    case round =>
      clear HX HF HB2
      obtain ⟨j, xs, rfl, hj, HX, HF, HB2⟩ := hrel
      by_cases hlt : j < n6
      · have hlt1 : (j : Int) < (n6 : Int) := by omega
        obtain ⟨gb, off, hgo, rfl, hgl, hcell, hroom⟩ := HX.out.at_ (by omega)
        have hxl : xs.length = n6 := by have := HX.out.form.1; omega
        obtain ⟨r1, r2⟩ := hroom j (by omega)
        obtain ⟨u, hu⟩ := Option.isSome_iff_exists.1 r1
        have HX2 := Lib.hid (HX.out.set_ (by omega) j (by omega) (.pointer none))
        have HF2 := Lib.hid (HF.out.set_ (p := ⟨gb, off + j, none⟩) hgo (.pointer none))
        have HB3 := Lib.hid (HB2.out.setCell (p := ⟨gb, off + j, none⟩) (HI.out.b6 gb hgo) (.pointer none))
        clear hcell hroom r1 HX HF HB2
        go_wp2_with fail
        go_roundg (gk - 1)
        case rel => exact ⟨j + 1, _, by go_num, by omega, HX2, HF2, HB3⟩
        case measure => omega
      · have hlt1 : ¬ (j : Int) < (n6 : Int) := by omega
        have HT2 := Lib.hid (HF.out.tabs HSM.out.2.1)
        have HR2 := Lib.hid (HF.out.rtabs HSM.out.1 HSM.out.2.1)
        clear HF HX
        go_wp2_with fail
        obtain ⟨wo, rfl⟩ : ∃ wo, wo = wr := ⟨_, rfl⟩
        go_loopg [15] 100 (fun k s15 wr => ∃ t : Nat, s15 = .int .i64 (t : Int) ∧ t + k = 100 ∧ Hid (Below wo.heap.size wo wr))
        case atStart => exact ⟨0, rfl, rfl, Lib.hid (Below.refl _ _)⟩
        case round =>
          obtain ⟨t, rfl, ht, HBt⟩ := hrel
          by_cases hlt : t < m
          · have hlt2 : (t : Int) < (m : Int) := by omega
            by_cases h100 : t < 100
            · have h1001 : (t : Int) < 100 := by omega
              obtain ⟨x, y, z, b, off, rfl, hbl, kx, ky, kz, sx, sy, sz⟩ := ask_cells HRC.out HASK.out (t := t) (by rw [HMM.out]; exact hlt)
              have HBw := Lib.hid (HB2.out.trans (HBt.out.mono HB2.out.size))
              have k0 := (HBw.out.cell (p := ⟨b, off + t * 3, none⟩) hbl).trans kx
              have k1 := (HBw.out.cell (p := ⟨b, off + t * 3 + 1, none⟩) hbl).trans ky
              have k2 := (HBw.out.cell (p := ⟨b, off + t * 3 + 2, none⟩) hbl).trans kz
              clear kx ky kz hbl
              obtain ⟨r1, e1⟩ : ∃ r, askP (fun T => exP T x.data.toList) ((LT.filterMap id).map (·.2)) = r := ⟨_, rfl⟩
              obtain ⟨r2, e2⟩ : ∃ r, askP (fun T => adX (exP T) y.data.toList z.data.toList) ((LT.filterMap id).map (·.2)) = r := ⟨_, rfl⟩
              obtain ⟨r3, e3⟩ : ∃ r, askP (fun T => dmX (exP T) z.data.toList) ((LT.filterMap id).map (·.2)) = r := ⟨_, rfl⟩
              have HLn : Hid ((LT.filterMap id).length ≤ 1000 ∧ LR.length ≤ 1000) := Lib.hid ⟨by have := List.length_filterMap_le id LT; have := HSM.out.2.2.1; omega, by have := HSM.out.2.2.2; omega⟩
              have hex : ∀ T, some T ∈ LT.map tOf → exP T = exR T := fun T hT => ex_same (HSM.out.2.1 T hT).2.1 (HSM.out.2.1 T hT).1
              have P1 := Lib.hid (fun (w2 : World) (hb : Below wo.heap.size wo w2) => by have h := chain_ex w2 ch (LT.filterMap id) (HT2.out.below hb) HLn.out.1 x.data.toList (by rw [← size_len]; omega) (tabsT_below HT.out (HB2.out.trans (hb.mono HB2.out.size))); rw [bs_of, e1] at h; exact h)
              have P2 := Lib.hid (fun (w2 : World) (hb : Below wo.heap.size wo w2) => by have h := chain_ad w2 ch (LT.filterMap id) (HT2.out.below hb) HLn.out.1 y.data.toList z.data.toList (by rw [← size_len]; omega) (by rw [← size_len]; omega) (tabsT_below HT.out (HB2.out.trans (hb.mono HB2.out.size))); rw [bs_of, bs_of, e2] at h; exact h)
              have P3 := Lib.hid (fun (w2 : World) (hb : Below wo.heap.size wo w2) => by have h := chain_dm w2 ch (LT.filterMap id) (HT2.out.below hb) HLn.out.1 z.data.toList (by rw [← size_len]; omega) (tabsT_below HT.out (HB2.out.trans (hb.mono HB2.out.size))); rw [bs_of, e3] at h; exact h)
              rw [← filter_snd, ask_same (q2 := fun T => exR T x.data.toList) _ (fun T hT => by show exP T _ = exR T _; rw [hex T hT]), HSM.out.1] at e1
              rw [← filter_snd, ask_same (q2 := fun T => adX (exR T) y.data.toList z.data.toList) _ (fun T hT => by show adX (exP T) _ _ = _; rw [hex T hT]), HSM.out.1] at e2
              rw [← filter_snd, ask_same (q2 := fun T => dmX (exR T) z.data.toList) _ (fun T hT => by show dmX (exP T) _ = _; rw [hex T hT]), HSM.out.1] at e3
              have R1 := Lib.hid (fun (w2 : World) (hb : Below wo.heap.size wo w2) => by have h := rask_ex w2 g7 A7 n7 c7 LR (HR2.out.below hb) HLn.out.2 x.data.toList [] (by rw [← size_len]; omega) (by simp); rw [bs_of, e1] at h; exact (show Calls Tryd.prog 16 #[.slice A7 n7 c7, .int .i64 0, .string x, .string ⟨#[]⟩] w2 _ from h))
              have R2 := Lib.hid (fun (w2 : World) (hb : Below wo.heap.size wo w2) => by have h := rask_ad w2 g7 A7 n7 c7 LR (HR2.out.below hb) HLn.out.2 y.data.toList z.data.toList (by rw [← size_len]; omega) (by rw [← size_len]; omega); rw [bs_of, bs_of, e2] at h; exact h)
              have R3 := Lib.hid (fun (w2 : World) (hb : Below wo.heap.size wo w2) => by have h := rask_dm w2 g7 A7 n7 c7 LR (HR2.out.below hb) HLn.out.2 z.data.toList [] (by rw [← size_len]; omega) (by simp); rw [bs_of, e3] at h; exact (show Calls Tryd.prog 16 #[.slice A7 n7 c7, .int .i64 2, .string z, .string ⟨#[]⟩] w2 _ from h))
              clear e1 e2 e3 hex sx sy sz
              have HX0 := Lib.hid (Blk.new wr 43 #[.string x, .string y, .string z])
              have HY0 := Lib.hid (HBt.out.alloc HBt.out.size (.cells #[.string x, .string y, .string z] 43))
              go_upto_region 24 with fail
              have hsz : wr.heap.size < (wr.alloc (.cells #[.string x, .string y, .string z] 43)).heap.size := by simp
              generalize wr.alloc (.cells #[.string x, .string y, .string z] 43) = wa at *
              generalize wr.heap.size = ab at *
              clear k0 k1 k2
              have q0 := HX0.out.cell 0
              have q1 := HX0.out.cell 1
              have q2 := HX0.out.cell 2
              go_wp2_with fail
              refine (P1.out _ HY0.out).mono ?_
              rintro e v0 ⟨hbv, rfl⟩
              have HX1 := Lib.hid (HX0.out.keep hbv)
              have HY1 := Lib.hid (HY0.out.trans (hbv.mono HY0.out.size))
              clear hbv P1 HX0 HY0 q0 q1 q2
              have q0 := HX1.out.cell 0
              have q1 := HX1.out.cell 1
              have q2 := HX1.out.cell 2
              go_wp2_with fail
              refine (R1.out _ HY1.out).mono ?_
              rintro e v1 ⟨hbv, rfl⟩
              have HX2 := Lib.hid (HX1.out.keep hbv)
              have HY2 := Lib.hid (HY1.out.trans (hbv.mono HY1.out.size))
              clear hbv R1 HX1 HY1 q0 q1 q2
              have q0 := HX2.out.cell 0
              have q1 := HX2.out.cell 1
              have q2 := HX2.out.cell 2
              go_wp2_with fail
              refine (P2.out _ HY2.out).mono ?_
              rintro e v2 ⟨hbv, rfl⟩
              have HX3 := Lib.hid (HX2.out.keep hbv)
              have HY3 := Lib.hid (HY2.out.trans (hbv.mono HY2.out.size))
              clear hbv P2 HX2 HY2 q0 q1 q2
              have q0 := HX3.out.cell 0
              have q1 := HX3.out.cell 1
              have q2 := HX3.out.cell 2
              go_wp2_with fail
              refine (R2.out _ HY3.out).mono ?_
              rintro e v3 ⟨hbv, rfl⟩
              have HX4 := Lib.hid (HX3.out.keep hbv)
              have HY4 := Lib.hid (HY3.out.trans (hbv.mono HY3.out.size))
              clear hbv R2 HX3 HY3 q0 q1 q2
              have q0 := HX4.out.cell 0
              have q1 := HX4.out.cell 1
              have q2 := HX4.out.cell 2
              go_wp2_with fail
              refine (P3.out _ HY4.out).mono ?_
              rintro e v4 ⟨hbv, rfl⟩
              have HX5 := Lib.hid (HX4.out.keep hbv)
              have HY5 := Lib.hid (HY4.out.trans (hbv.mono HY4.out.size))
              clear hbv P3 HX4 HY4 q0 q1 q2
              have q0 := HX5.out.cell 0
              have q1 := HX5.out.cell 1
              have q2 := HX5.out.cell 2
              go_wp2_with fail
              refine (R3.out _ HY5.out).mono ?_
              rintro e v5 ⟨hbv, rfl⟩
              have HX6 := Lib.hid (HX5.out.keep hbv)
              have HY6 := Lib.hid (HY5.out.trans (hbv.mono HY5.out.size))
              clear hbv R3 HX5 HY5 q0 q1 q2
              go_wp2_with fail
              go_roundg (gk - 1)
              case rel => exact ⟨t + 1, by go_num, by omega, HY6⟩
              case measure => omega
            · have h1001 : ¬ (t : Int) < 100 := by omega
              go_wp2_with fail
              go_ret
              exact ⟨HB2.out.trans (HBt.out.mono HB2.out.size), rfl⟩
          · have hlt2 : ¬ (t : Int) < (m : Int) := by omega
            go_wp2_with fail
            go_ret
            exact ⟨HB2.out.trans (HBt.out.mono HB2.out.size), rfl⟩
end Go.Proofs.YtlknclkkhincfaaDoor
