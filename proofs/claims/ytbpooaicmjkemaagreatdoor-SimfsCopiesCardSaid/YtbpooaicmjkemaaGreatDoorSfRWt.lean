/-
  The walk of the document's Wait. Conditions: the lengths.
-/
import Derived.Test.YtbpooaicmjkemaaGreatDoorRun18
import Derived.Test.YtbpooaicmjkemaaGreatDoorRun19
namespace Go.Proofs.YtbpooaicmjkemaaGreatDoor
open Go.RowKit Go.Maps
set_option linter.unusedVariables false
theorem pathM_no {L : Es} {k i : Nat} {e : Tx × Nat} (he : L[k]? = some e) (h : e.2 ≠ i) : pathM (L.take (k + 1)) i = pathM (L.take k) i := by
  obtain ⟨h1, h2⟩ := List.getElem?_eq_some_iff.1 he
  unfold pathM
  rw [List.take_succ_eq_append_getElem h1, h2, List.find?_append]
  have : List.find? (fun e => decide (e.2 = i)) [e] = none := by simp [h]
  rw [this, Option.or_none]
theorem pathM_yes {L : Es} {k i : Nat} {p : Tx} (hj : InjE L) (he : L[k]? = some (p, i)) : pathM (L.take (k + 1)) i = p := by
  obtain ⟨h1, h2⟩ := List.getElem?_eq_some_iff.1 he
  unfold pathM
  rw [List.take_succ_eq_append_getElem h1, h2, List.find?_append]
  cases hf : List.find? (fun e => decide (e.2 = i)) (L.take k) with
  | none => simp
  | some e =>
    have h3 := List.find?_some hf
    have h4 := List.mem_of_find?_eq_some hf
    have h5 : e.2 = i := by simpa using h3
    simp only [Option.some_or]
    refine hj e.1 p i ?_ (List.mem_of_getElem? he)
    rw [← h5]
    exact List.mem_of_mem_take h4
section
variable {z db K : Nat} {w : World} {own : Nat → Nat × Nat} {d : Dk}
set_option maxRecDepth 100000 in
set_option maxHeartbeats 8000000 in
theorem rwait_walk (h : RDkI z w own db d K) (hK : K ≤ 8000) :
    Calls Tryz.prog 73 #[ptrV db] w (WtPost w d.waits (tellM d)) := by
  obtain ⟨⟨q, hd⟩, hw, hsw⟩ := h
  have HD := Lib.hid hd
  have HW := Lib.hid hw
  obtain ⟨A, n, c, hn, hvc, hat⟩ := hd.chAt
  have HAT := Lib.hid hat
  have HN := Lib.hid hn
  have hn1 : n ≤ 8000 := by have := hw.wk; omega
  obtain ⟨nf, hnf⟩ : ∃ nf, d.nodes.length = nf := ⟨_, rfl⟩
  have HNF := Lib.hid hnf
  have hnf1 : nf ≤ 8000 := by have := hw.nk; omega
  obtain ⟨An, nn, cn, en, hxn, -⟩ := hd.rest.nodes.sl
  obtain rfl : nn = nf := by
    rw [flat_len (nd_all _), List.length_map, hd.rest.len] at hxn
    omega
  have HK2 : Hid (∀ W, Below w.heap.size w W → W.cell? ⟨db, 2, none⟩ = some (.slice An nn cn)) := Lib.hid fun W hb => by rw [← en]; exact (hd.blk.keep hb).cell 2
  obtain ⟨Ae, ce, hve, hce, hme, hre, -⟩ := hd.rest.now.en
  obtain ⟨nl, hnl⟩ : ∃ nl, d.now.length = nl := ⟨_, rfl⟩
  have HNL := Lib.hid hnl
  have hnl1 : nl ≤ 8000 := by have := hw.cpn; omega
  rw [hnl] at hve
  have HK3 : Hid (∀ W, Below w.heap.size w W → W.cell? ⟨db, 3, none⟩ = some (.slice Ae nl ce)) := Lib.hid fun W hb => by rw [← hve]; exact (hd.blk.keep hb).cell 3
  have HEA : Hid (∀ W, Below w.heap.size w W → ∀ (j : Nat) (e : Tx × Nat), d.now[j]? = some e → ∃ b off, Ae = some ⟨b, off, none⟩ ∧ W.cell? ⟨b, off + j * 2, none⟩ = some (.string (bs e.1)) ∧ W.cell? ⟨b, off + j * 2 + 1, none⟩ = some (.int .i64 (e.2 : Int))) := Lib.hid fun W hb j e he => by
    obtain ⟨b, off, e1, -, e3, e4⟩ := (hre.below hb).at_ he
    exact ⟨b, off, e1, e3, e4⟩
  have hdb := hd.blk.lt
  unfold ptrV
  clear hd hw hsw hn hvc hat hnf en hxn hve hce hme hre hnl
  go_enter Tryz.func73, Tryz.ntmps73
  go_upto_region 3 with fail
  go_loopg [4, 5] n (fun k s4 s5 wr => ∃ (j : Nat) (g4 : Option Nat), s5 = .int .i64 (j : Int) ∧ j + k = n ∧ Hid (OwnX 3 wr g4 s4 ((d.waits.take j).map cgC).flatten) ∧ Hid (∀ k, g4 = some k → w.heap.size ≤ k) ∧ Hid (Below w.heap.size w wr))
  case atStart => exact ⟨0, none, rfl, by omega, Lib.hid (OwnX.nil _ _), Lib.hid (fun k e => by cases e), Lib.hid (Below.refl _ _)⟩
  case round =>
    obtain ⟨j, g4, rfl, hj, HX, HG, HB⟩ := hrel
    obtain ⟨k5, hrow⟩ := HAT.out wr HB.out
    by_cases hlt : j < n
    · have hlt1 : (j : Int) < (n : Int) := by omega
      obtain ⟨x, hx⟩ : ∃ x, d.waits[j]? = some x := ⟨_, List.getElem?_eq_getElem (by rw [← HN.out]; exact hlt)⟩
      obtain ⟨bb, off, rfl, q0, q1, q2, -⟩ := hrow j x hx
      have HTK : Hid (d.waits.take (j + 1) = d.waits.take j ++ [x]) := Lib.hid (by
        obtain ⟨h1, h2⟩ := List.getElem?_eq_some_iff.1 hx
        rw [List.take_succ_eq_append_getElem h1, h2])
      have HA1 := Lib.hid (HX.out.below ((Below.refl wr.heap.size wr).alloc (Nat.le_refl _) (.cells #[.int .i64 x.kind, .string (bs x.fr), .string (bs x.tt)] 78)) fun k hk => HX.out.lt hk)
      have HB1 := Lib.hid (HB.out.alloc HB.out.size (.cells #[.int .i64 x.kind, .string (bs x.fr), .string (bs x.tt)] 78))
      have HLR : Hid (((d.waits.take j).map cgC).flatten.length ≤ 30000) := Lib.hid (by rw [flat_len (cg_all _), List.length_map, List.length_take]; omega)
      clear hrow hx
      go_wp2_with (at_builtin; refine wpList_appX _ uxG (.tmp 21) (.tmp 30) rfl rfl rfl HA1.out (some ⟨wr.heap.size, 0, none⟩) 1 1 rfl [.int .i64 x.kind, .string (bs x.fr), .string (bs x.tt)] rfl (fun h => by cases h) (news_of wr 78 [.int .i64 x.kind, .string (bs x.fr), .string (bs x.tt)]) (fun u hu => by simp only [List.mem_cons, List.not_mem_nil, or_false] at hu; rcases hu with rfl | rfl | rfl <;> rfl) (by have := HLR.out; omega) ?_; intro v7 g7 w7 hX7 hG7 ho7; have HX7 := Lib.hid hX7; have HG7 := Lib.hid hG7; have HO7 := Lib.hid ho7; clear hX7 hG7 ho7)
      go_roundg (gk - 1)
      case rel =>
        have hg47 : ∀ k, g7 = some k → w.heap.size ≤ k := fun k e => by
          rcases HO7.out with h7 | h7
          · exact HG.out k (h7.symm.trans e)
          · rw [h7] at e
            injection e with e
            have := HB1.out.size
            rw [← e]
            exact this
        exact ⟨j + 1, g7, by go_num, by omega, Lib.hid (by rw [HTK.out, List.map_append, List.flatten_append]; simpa [cgC] using HX7.out), Lib.hid hg47, Lib.hid (belowX HB1.out HG7.out (fun k e => HG.out k e) HB1.out.size)⟩
      case measure => omega
    · have hlt1 : ¬ (j : Int) < (n : Int) := by omega
      obtain rfl : j = n := by omega
      obtain ⟨w9, hw9⟩ : ∃ w9, w9 = wr := ⟨_, rfl⟩
      subst hw9
      have hX9 := HX.out
      rw [show d.waits.take j = d.waits by rw [HN.out, List.take_length]] at hX9
      have HX9 := Lib.hid hX9
      clear hX9
      obtain ⟨A4, n4, c4, rfl, -⟩ := HX9.out.sl
      clear HX hj hrow
      go_upto_region 8 with fail
      go_loopg [6, 7, 8, 9, 10, 11] nn (fun k s6 s7 s8 s9 s10 s11 wr => ∃ (i : Nat) (g7 : Option Nat) (T : List (Tx × Nat)), s7 = .int .i64 (i : Int) ∧ i + k = nn ∧ T.length ≤ i ∧ Hid (OwnX 2 wr g7 s6 (T.map tlC).flatten) ∧ Hid (∀ k, g7 = some k → w9.heap.size ≤ k) ∧ Hid (T ++ tellGo d.now (d.nodes.drop i) i = tellM d) ∧ Hid (Below w9.heap.size w9 wr))
      case atStart => exact ⟨0, none, [], rfl, by omega, by simp, Lib.hid (OwnX.nil _ _), Lib.hid (fun k e => by cases e), Lib.hid rfl, Lib.hid (Below.refl _ _)⟩
      case round =>
        obtain ⟨i, g7, T, rfl, hi, hTl, HX7, HG7, HT, HB7⟩ := hrel
        clear k5
        have HBW : Hid (Below w.heap.size w wr) := Lib.hid (HB.out.trans (HB7.out.mono HB.out.size))
        have k2 := HK2.out wr HBW.out
        by_cases hlt : i < nn
        · have hlt1 : (i : Int) < (nn : Int) := by omega
          obtain ⟨x, hx⟩ : ∃ x, d.nodes[i]? = some x := ⟨_, List.getElem?_eq_getElem (by rw [HNF.out]; exact hlt)⟩
          have HXX := Lib.hid hx
          obtain ⟨g, off, nn', cn', Aw, nw, cw, hnn, hnw, hwat⟩ := HD.out.wtAt hx
          obtain ⟨k2', r2, HWA0⟩ := hwat wr HBW.out
          obtain ⟨e1, e2, e3⟩ : An = some ⟨g, off, none⟩ ∧ nn = nn' ∧ cn = cn' := by
            rw [k2] at k2'
            injection k2' with k2'
            injection k2' with e1 e2 e3
            exact ⟨e1, e2, e3⟩
          subst e1
          subst e3
          clear hnn k2'
          clear hwat
          clear e2
          have HWA := Lib.hid HWA0
          have HNW := Lib.hid hnw
          have HOK : Hid (NdOk x K) := Lib.hid (HW.out.nd x (List.mem_of_getElem? hx))
          have hnw8 : nw ≤ 8000 := by have := HOK.out.lw; omega
          have HWTB := Lib.hid (fun j => wtS_le HOK.out j)
          have HK6 : Hid (K * 67108864 ≤ 8000 * 67108864) := Lib.hid (Nat.mul_le_mul_right _ hK)
          have HI := Lib.hid hi
          have HTL := Lib.hid hTl
          have HLT := Lib.hid hlt
          clear hx hnw HWA0 hi hTl hlt
          go_upto_region 12 with fail
          obtain ⟨wo, hwo⟩ : ∃ wo, wo = wr := ⟨_, rfl⟩
          go_loopg [8, 9] nw (fun k s8 s9 wq => ∃ j : Nat, s9 = .int .i64 (j : Int) ∧ s8 = .int .i64 (wtS x j : Int) ∧ j + k = nw ∧ wq = wo)
          case atStart => exact ⟨0, rfl, by rw [wtS_zero]; rfl, by omega, hwo.symm⟩
          case round =>
            obtain ⟨jj, rfl, rfl, hjj, hwq⟩ := hrel
            subst hwq
            subst hwo
            by_cases hlj : jj < nw
            · have hlj1 : (jj : Int) < (nw : Int) := by omega
              obtain ⟨y, hy⟩ : ∃ y, x.waits[jj]? = some y := ⟨_, List.getElem?_eq_getElem (by rw [← HNW.out]; exact hlj)⟩
              obtain ⟨b, o, Ab, cb, rfl, hc⟩ := HWA.out jj y hy
              have hs := wtS_succ hy
              have hb1 := HWTB.out (jj + 1)
              have hb2 := HK6.out
              rw [hs] at hb1
              have HS1 := Lib.hid hs
              obtain ⟨u, hu⟩ : ∃ u, wtS x jj = u := ⟨_, rfl⟩
              obtain ⟨l, hl⟩ : ∃ l, y.b.length = l := ⟨_, rfl⟩
              rw [hu, hl] at hb1 HS1
              rw [hl] at hc
              rw [hu]
              have hsum : (u : Int) + (l : Int) ≤ 1000000000000 := by omega
              clear hs hy hb1 hb2 hu hl
              go_wp2_with fail
              go_roundg (gk - 1)
              case rel => exact ⟨jj + 1, by go_num, by rw [HS1.out]; go_num, by omega, rfl⟩
              case measure => omega
            · have hlj1 : ¬ (jj : Int) < (nw : Int) := by omega
              obtain rfl : jj = nw := by omega
              have hwn : wtS x jj = waitN x := by rw [HNW.out]; exact wtS_full
              rw [hwn]
              clear hwn hjj
              by_cases h0 : waitN x = 0
              · have HT1 : Hid (T ++ tellGo d.now (d.nodes.drop (i + 1)) (i + 1) = tellM d) := Lib.hid (by rw [← tellGo_no HXX.out h0]; exact HT.out)
                rw [h0]
                clear h0
                go_wp2_with fail
                go_roundg (nn - (i + 1))
                case rel => exact ⟨i + 1, g7, T, by go_num, by have := HLT.out; omega, by have := HTL.out; omega, HX7, HG7, HT1, HB7⟩
                case measure => have := HI.out; have := HLT.out; omega
              · have hpos : ((waitN x : Int) == 0) = false := by rw [beq_eq_false_iff_ne]; omega
                have HT1 : Hid ((T ++ [(pathM d.now i, waitN x)]) ++ tellGo d.now (d.nodes.drop (i + 1)) (i + 1) = tellM d) := Lib.hid (by rw [List.append_assoc, List.singleton_append, ← tellGo_yes HXX.out h0]; exact HT.out)
                obtain ⟨wn, hwn⟩ : ∃ wn, waitN x = wn := ⟨_, rfl⟩
                rw [hwn] at HT1 hpos
                rw [hwn]
                have k3 := HK3.out wr HBW.out
                clear h0 hwn hlj1
                go_upto_region 18 with fail
                have HBq : Hid (Below wr.heap.size wr (wr.alloc (.cells #[.string ⟨#[]⟩, .int .i64 (wn : Int)] 106))) := Lib.hid ((Below.refl wr.heap.size wr).alloc (Nat.le_refl _) _)
                have HXq : Hid (Blk (wr.alloc (.cells #[.string ⟨#[]⟩, .int .i64 (wn : Int)] 106)) wr.heap.size 106 #[.string (bs (pathM (d.now.take 0) i)), .int .i64 (wn : Int)]) := Lib.hid (Blk.new wr 106 #[.string ⟨#[]⟩, .int .i64 (wn : Int)])
                generalize hwq0 : wr.alloc (.cells #[.string ⟨#[]⟩, .int .i64 (wn : Int)] 106) = wq0 at *
                clear hwq0 k3 k2 r2
                obtain ⟨wv, hwv⟩ : ∃ wv, wv = wr := ⟨_, rfl⟩
                subst hwv
                go_loopg [11] nl (fun k s11 wr => ∃ jj : Nat, s11 = .int .i64 (jj : Int) ∧ jj + k = nl ∧ Hid (Blk wr wv.heap.size 106 #[.string (bs (pathM (d.now.take jj) i)), .int .i64 (wn : Int)]) ∧ Hid (Below wv.heap.size wv wr))
                case atStart => exact ⟨0, rfl, by omega, HXq, HBq⟩
                case round =>
                  obtain ⟨jj, rfl, hjj, HBx, HBL⟩ := hrel
                  clear HBq HXq
                  have HBW2 : Hid (Below w.heap.size w wr) := Lib.hid (HBW.out.trans (HBL.out.mono HBW.out.size))
                  have k3 := HK3.out wr HBW2.out
                  by_cases hlk : jj < nl
                  · have hlk1 : (jj : Int) < (nl : Int) := by omega
                    obtain ⟨ee, hee⟩ : ∃ ee, d.now[jj]? = some ee := ⟨_, List.getElem?_eq_getElem (by rw [HNL.out]; exact hlk)⟩
                    obtain ⟨b, o, rfl, z0, z1⟩ := HEA.out wr HBW2.out jj ee hee
                    obtain ⟨pe, ne⟩ := ee
                    simp only [] at z0 z1
                    have y0 : wr.cell? ⟨wv.heap.size, 0, none⟩ = some (.string (bs (pathM (d.now.take jj) i))) := HBx.out.cell 0
                    have yf : wr.frozen? ⟨wv.heap.size, 0, none⟩ = false := HBx.out.frozen 0
                    by_cases hne : ne = i
                    · subst hne
                      have HPM : Hid (pathM (d.now.take (jj + 1)) ne = pe) := Lib.hid (pathM_yes HW.out.ijn hee)
                      generalize pathM (d.now.take jj) ne = pj at *
                      clear hee
                      go_wp2_with fail
                      go_roundg (gk - 1)
                      case rel => exact ⟨jj + 1, by go_num, by omega, Lib.hid (by rw [HPM.out]; exact HBx.out.set_ 0 _), Lib.hid (HBL.out.setCell (Nat.le_refl _) _)⟩
                      case measure => omega
                    · have hne1 : ((ne : Int) == (i : Int)) = false := by rw [beq_eq_false_iff_ne]; omega
                      have HPM : Hid (pathM (d.now.take (jj + 1)) i = pathM (d.now.take jj) i) := Lib.hid (pathM_no hee hne)
                      clear hee y0 yf
                      go_wp2_with fail
                      go_roundg (gk - 1)
                      case rel => exact ⟨jj + 1, by go_num, by omega, by rw [HPM.out]; exact HBx, HBL⟩
                      case measure => omega
                  · have hlk1 : ¬ (jj : Int) < (nl : Int) := by omega
                    obtain rfl : jj = nl := by omega
                    have hpf : d.now.take jj = d.now := by rw [← HNL.out, List.take_length]
                    rw [hpf] at HBx
                    obtain ⟨pp, hpp⟩ : ∃ pp, pathM d.now i = pp := ⟨_, rfl⟩
                    rw [hpp] at HBx HT1
                    have x0 : wr.cell? ⟨wv.heap.size, 0, none⟩ = some (.string (bs pp)) := HBx.out.cell 0
                    have x1 : wr.cell? ⟨wv.heap.size, 1, none⟩ = some (.int .i64 (wn : Int)) := HBx.out.cell 1
                    have HX5 := Lib.hid (HX7.out.below HBL.out fun k hk => HX7.out.lt hk)
                    have HA5 := Lib.hid (HX5.out.below ((Below.refl wr.heap.size wr).alloc (Nat.le_refl _) (.cells #[.string (bs pp), .int .i64 (wn : Int)] 106)) fun k hk => HX5.out.lt hk)
                    have HLR : Hid ((T.map tlC).flatten.length ≤ 20000) := Lib.hid (by rw [flat_len (tl_all _), List.length_map]; have := HTL.out; have := HLT.out; omega)
                    have HBv : Hid (Below w9.heap.size w9 wr) := Lib.hid (HB7.out.trans (HBL.out.mono HB7.out.size))
                    clear hpf hpp hjj
                    go_wp2_with (at_builtin; refine wpList_appX _ uxH (.tmp 101) (.tmp 103) rfl rfl rfl HA5.out (some ⟨wr.heap.size, 0, none⟩) 1 1 rfl [.string (bs pp), .int .i64 (wn : Int)] rfl (fun h => by cases h) (news_of wr 106 [.string (bs pp), .int .i64 (wn : Int)]) (fun u hu => by simp only [List.mem_cons, List.not_mem_nil, or_false] at hu; rcases hu with rfl | rfl <;> rfl) (by have := HLR.out; omega) ?_; intro v8 g8 w8 hX8 hG8 ho8; have HX8 := Lib.hid hX8; have HG8 := Lib.hid hG8; have HO8 := Lib.hid ho8; clear hX8 hG8 ho8)
                    go_roundg (nn - (i + 1))
                    case rel =>
                      have hB2 := HBv.out.alloc HBv.out.size (.cells #[.string (bs pp), .int .i64 (wn : Int)] 106)
                      have hg8 : ∀ k, g8 = some k → w9.heap.size ≤ k := fun k e => by
                        rcases HO8.out with h7 | h7
                        · exact HG7.out k (h7.symm.trans e)
                        · rw [h7] at e
                          injection e with e
                          have := hB2.size
                          omega
                      exact ⟨i + 1, g8, T ++ [(pp, wn)], by go_num, by have := HLT.out; omega, by rw [List.length_append]; have := HTL.out; simp; omega, Lib.hid (by rw [List.map_append, List.flatten_append]; simpa [tlC] using HX8.out), Lib.hid hg8, HT1, Lib.hid (belowX hB2 HG8.out (fun k e => HG7.out k e) hB2.size)⟩
                    case measure => have := HI.out; have := HLT.out; omega
        · have hlt1 : ¬ (i : Int) < (nn : Int) := by omega
          obtain rfl : i = nn := by omega
          have HTF : Hid (T = tellM d) := Lib.hid (by
            have := HT.out
            rw [List.drop_of_length_le (by rw [HNF.out]; exact Nat.le_refl _)] at this
            rw [← this]
            show T = T ++ []
            rw [List.append_nil])
          obtain ⟨A7, n7, c7, rfl, -⟩ := HX7.out.sl
          go_wp2_with fail
          go_ret2
          exact ⟨HBW.out, g4, _, g7, _, rfl, HX9.out.below HB7.out fun k hk => HX9.out.lt hk, by rw [← HTF.out]; exact HX7.out, HG.out, (fun k hk => Nat.le_trans HB.out.size (HG7.out k hk)), fun k e e2 => by have h1 := HX9.out.lt e; have h2 := HG7.out k e2; omega⟩
end
end Go.Proofs.YtbpooaicmjkemaaGreatDoor
