/-
  The walk of the document's Crash. Conditions: the lengths.
-/
import Derived.Test.YtbpooaicmjkemaaGreatDoorRun18
namespace Go.Proofs.YtbpooaicmjkemaaGreatDoor
open Go.RowKit Go.Maps
set_option linter.unusedVariables false
theorem KpPost.form (x : Nd) (n : Int) : keepN x n = ⟨(keepN x n).now, (keepN x n).now, []⟩ := rfl
section
variable {z db K : Nat} {w : World} {own : Nat → Nat × Nat} {d : Dk}
set_option maxRecDepth 100000 in
set_option maxHeartbeats 8000000 in
theorem rcrash_walk0 (h : RDkI z w own db d K) (hown : ∀ k, w.heap.size ≤ k → own k = (0, 0)) (hK : K ≤ 8000) (kc : List Bool) (kw : List Int) (Ac Aw : Option Addr) (cc cw : Nat)
    (hcc : kc.length ≤ cc ∧ cc ≤ maxLen) (hcw : kw.length ≤ cw ∧ cw ≤ maxLen) (hrc : RCo z w own Ac (kc.map .bool)) (hrw : RCo z w own Aw (kw.map (.int .i64))) (hzw : ∀ x ∈ kw, -9223372036854775808 ≤ x ∧ x ≤ 9223372036854775807) :
    Calls Tryz.prog 57 #[ptrV db, .agg #[.slice Ac kc.length cc, .slice Aw kw.length cw]] w (REntPost z w own db (crashM d kc kw)) := by
  obtain ⟨⟨q, hd⟩, hw, hsw⟩ := h
  have hbx := (Below.refl w.heap.size w).alloc (Nat.le_refl _) (.cells #[.slice Ac kc.length cc, .slice Aw kw.length cw] 26)
  have hK0 := Blk.new w 26 #[.slice Ac kc.length cc, .slice Aw kw.length cw]
  have hs0 : (w.alloc (.cells #[.slice Ac kc.length cc, .slice Aw kw.length cw] 26)).heap.size = w.heap.size + 1 := by simp
  have HBX := Lib.hid hbx
  have HK0 := Lib.hid hK0
  have HS0 := Lib.hid hs0
  have HP := Lib.hid hd
  have HW := Lib.hid hw
  have HOWN := Lib.hid hown
  have HRC := Lib.hid hrc
  have HRW := Lib.hid hrw
  have HZW := Lib.hid hzw
  obtain ⟨A, n, c, hn, hvc, hat⟩ := hd.chAt
  have HAT := Lib.hid hat
  have HN := Lib.hid hn
  have hn1 : n ≤ 8000 := by have := hw.wk; omega
  have hdb := hd.blk.lt
  obtain ⟨S, hS⟩ : ∃ S, survM d.waits kc = S := ⟨_, rfl⟩
  have HS := Lib.hid hS
  have HSL : Hid (S.length = n) := Lib.hid (by rw [← hS, hn]; exact surv_len _ _ _)
  have hcc1 : (kc.length : Int) ≤ 9223372036854775807 := by have := hcc.1; have := hcc.2; unfold maxLen at this; omega
  have hcw1 : (kw.length : Int) ≤ 9223372036854775807 := by have := hcw.1; have := hcw.2; unfold maxLen at this; omega
  unfold ptrV
  clear hd hw hown hrc hrw hzw hn hat hbx hK0 hs0 hcc hcw hS hvc hsw
  go_enter Tryz.func57, Tryz.ntmps57
  go_upto_region 1 with fail
  generalize hw0 : w.alloc (.cells #[.slice Ac kc.length cc, .slice Aw kw.length cw] 26) = w0 at *
  clear hw0
  have c6 : w0.cell? ⟨db, 5, none⟩ = some (.slice A n c) := (HAT.out w0 HBX.out).1
  have hmk := mk_bo w0 n (by omega)
  have hba := (Below.refl w0.heap.size w0).alloc (Nat.le_refl _) (.cells (boA (List.replicate n false)) 4)
  have HBA := Lib.hid hba
  have HBO := Lib.hid (Blk.new w0 4 (boA (List.replicate n false)))
  clear hba
  go_upto_region 3 with fail
  go_loopg [5, 6, 7] n (fun k s5 s6 s7 wr => ∃ (i : Nat) (L : List Bool), s5 = .int .i64 (i : Int) ∧ i + k = n ∧ Hid (BoB wr w0.heap.size L) ∧ Hid (L.length = n) ∧ Hid (L.take i = S.take i) ∧ Hid (Below w0.heap.size w0 wr))
  case atStart => exact ⟨0, List.replicate n false, rfl, by omega, HBO, Lib.hid List.length_replicate, Lib.hid rfl, HBA⟩
  case round =>
    obtain ⟨i, L, rfl, hi, HB, HL, HT, HBL⟩ := hrel
    clear HBA HBO c6 hmk
    have hwsz : w0.heap.size < wr.heap.size := HB.out.lt
    have HBW : Hid (Below w.heap.size w wr) := Lib.hid (HBX.out.trans (HBL.out.mono HBX.out.size))
    obtain ⟨c6, hrow⟩ := HAT.out wr HBW.out
    by_cases hlt : i < n
    · have hlt1 : (i : Int) < (n : Int) := by omega
      obtain ⟨x, hx⟩ : ∃ x, d.waits[i]? = some x := ⟨_, List.getElem?_eq_getElem (by rw [← HN.out]; exact hlt)⟩
      have HX := Lib.hid hx
      obtain ⟨bx, hbx⟩ : ∃ bx, L[i]? = some bx := ⟨_, List.getElem?_eq_getElem (by rw [HL.out]; exact hlt)⟩
      have d0 : wr.cell? ⟨w0.heap.size, i, none⟩ = some (.bool bx) := HB.out.cell hbx
      have f0 : wr.frozen? ⟨w0.heap.size, i, none⟩ = false := HB.out.free i
      have kk0 : wr.cell? ⟨w.heap.size, 0, none⟩ = some (.slice Ac kc.length cc) := (HK0.out.below HBL.out (by rw [HS0.out]; omega)).cell 0
      obtain ⟨kv0, hkv0⟩ : ∃ kv0, kc.getD i false = kv0 := ⟨_, rfl⟩
      have HKV := Lib.hid hkv0
      clear hrow hx hbx
      go_upto_region 5 with fail
      go_cut [41] from 28 to 42 (fun s41 wx => s41 = .bool kv0 ∧ wx = wr.setCell ⟨w0.heap.size, i, none⟩ (.bool kv0))
      case first =>
        by_cases hkc : i < kc.length
        · have hkc1 : (i : Int) < (kc.length : Int) := by omega
          obtain ⟨kv, hkv⟩ : ∃ kv, kc[i]? = some kv := ⟨_, List.getElem?_eq_getElem hkc⟩
          obtain ⟨bk, ok, rfl, hbk, -, hck⟩ := HRC.out i (.bool kv) (by rw [List.getElem?_map, hkv]; rfl)
          have e0 : wr.cell? ⟨bk, ok + i, none⟩ = some (.bool kv) := (HBW.out.cell (p := ⟨bk, ok + i, none⟩) hbk).trans hck
          obtain rfl : kv = kv0 := by rw [← hkv0, List.getD_eq_getElem?_getD, hkv]; rfl
          clear hck hbk hkv hkv0
          go_wp2_with fail
          go_meet
          case rel => exact ⟨rfl, rfl⟩
        · have hkc1 : ¬ (i : Int) < (kc.length : Int) := by omega
          obtain rfl : false = kv0 := by rw [← hkv0, List.getD_eq_getElem?_getD, List.getElem?_eq_none (by omega)]; rfl
          clear hkv0
          go_wp2_with fail
          go_meet
          case rel => exact ⟨rfl, rfl⟩
      case rest =>
        obtain ⟨rfl, hwc⟩ := hcut
        have HB5 : Hid (BoB wc w0.heap.size (L.set i (svM d.waits S x kv0 0))) := Lib.hid (by rw [hwc, svM_zero]; exact HB.out.set_ i kv0)
        have HBL5 : Hid (Below w0.heap.size w0 wc) := Lib.hid (by rw [hwc]; exact HBL.out.setCell (Nat.le_refl _) _)
        clear hwc hkv0 d0 f0 kk0 c6
        go_upto_region 7 with fail
        go_loopg [6, 7] i (fun k s6 s7 wr => ∃ j : Nat, s6 = .int .i64 (j : Int) ∧ j + k = i ∧ Hid (BoB wr w0.heap.size (L.set i (svM d.waits S x kv0 j))) ∧ Hid (Below w0.heap.size w0 wr))
        case atStart => exact ⟨0, rfl, by omega, HB5, HBL5⟩
        case round =>
          obtain ⟨j, rfl, hj, HBj, HBLj⟩ := hrel
          clear HB5 HBL5 HB HBL HBW
          have HBW : Hid (Below w.heap.size w wr) := Lib.hid (HBX.out.trans (HBLj.out.mono HBX.out.size))
          obtain ⟨c6, hrow⟩ := HAT.out wr HBW.out
          by_cases hlj : j < i
          · have hlj1 : (j : Int) < (i : Int) := by omega
            have hjn1 : (j : Int) < (n : Int) := by omega
            obtain ⟨y, hy⟩ : ∃ y, d.waits[j]? = some y := ⟨_, List.getElem?_eq_getElem (by rw [← HN.out]; omega)⟩
            obtain ⟨b1, o1, e1, x0, x1, x2, -⟩ := hrow i x HX.out
            subst e1
            obtain ⟨b2, o2, e2, y0, y1, y2, -⟩ := hrow j y hy
            cases e2
            have KSH := Lib.hid (rshare_walk y x wr.drew)
            obtain ⟨v1, hv1⟩ : ∃ v1, S[j]? = some v1 := ⟨_, List.getElem?_eq_getElem (by rw [HSL.out]; omega)⟩
            obtain ⟨v0, hv0⟩ : ∃ v0, svM d.waits S x kv0 j = v0 := ⟨_, rfl⟩
            have hsu : svM d.waits S x kv0 (j + 1) = (v0 && (v1 || !shareC y x)) := by rw [svM_succ hy hv1, hv0]
            have HSU := Lib.hid hsu
            rw [hv0] at HBj
            have HAT1 : Hid ((L.set i v0)[j]? = some v1) := Lib.hid (by
              rw [List.getElem?_set_ne (by omega)]
              have h1 : (L.take i)[j]? = (S.take i)[j]? := by rw [HT.out]
              rw [List.getElem?_take_of_lt hlj, List.getElem?_take_of_lt hlj, hv1] at h1
              exact h1)
            obtain ⟨F, hF⟩ : ∃ F, shareC y x = F := ⟨_, rfl⟩
            rw [hF] at KSH HSU
            unfold fsV at KSH
            have k5d : wr.drew.cell? ⟨db, 5, none⟩ = some (.slice (some ⟨b1, o1, none⟩) n c) := c6
            have x0d : wr.drew.cell? ⟨b1, o1 + i * 4, none⟩ = some (.int .i64 x.kind) := x0
            have x1d : wr.drew.cell? ⟨b1, o1 + i * 4 + 1, none⟩ = some (.string (bs x.fr)) := x1
            have x2d : wr.drew.cell? ⟨b1, o1 + i * 4 + 2, none⟩ = some (.string (bs x.tt)) := x2
            have y0d : wr.drew.cell? ⟨b1, o1 + j * 4, none⟩ = some (.int .i64 y.kind) := y0
            have y1d : wr.drew.cell? ⟨b1, o1 + j * 4 + 1, none⟩ = some (.string (bs y.fr)) := y1
            have y2d : wr.drew.cell? ⟨b1, o1 + j * 4 + 2, none⟩ = some (.string (bs y.tt)) := y2
            clear hrow hy hv1 hv0 hsu hF
            go_upto_region 9 with fail
            go_cut [7] from 48 to 64 (fun s7 wx => s7 = .bool F ∧ Hid (Below wr.heap.size wr wx))
            case first =>
              go_region_law (refine step_calls rfl #[.tmp 55, .tmp 63] #[78, 78] (by rfl) Tryz.func102 (by kernel_rfl) (by kernel_rfl) #[.agg #[.int .i64 y.kind, .string (bs y.fr), .string (bs y.tt)], .agg #[.int .i64 x.kind, .string (bs x.fr), .string (bs x.tt)]] (by simp [Act.eval, Act.put]) KSH.out ?_; rintro e1 w7 ⟨rfl, hb7⟩; refine ⟨_, rfl, ?_⟩; have HB7 : Hid (Below wr.heap.size wr w7) := Lib.hid ⟨hb7.os, hb7.tape, hb7.output, hb7.size, hb7.block⟩; clear hb7)
              all_goals
                go_wp2_with fail
                go_meet
                case rel => exact ⟨rfl, HB7⟩
            case rest =>
              obtain ⟨rfl, HBC⟩ := hcut
              have HBO7 : Hid (BoB wc w0.heap.size (L.set i v0)) := Lib.hid (HBj.out.keep HBC.out)
              have HBL7 : Hid (Below w0.heap.size w0 wc) := Lib.hid (HBLj.out.trans (HBC.out.mono HBLj.out.size))
              have z1 : wc.cell? ⟨w0.heap.size, j, none⟩ = some (.bool v1) := HBO7.out.cell HAT1.out
              have z0 : wc.cell? ⟨w0.heap.size, i, none⟩ = some (.bool v0) := HBO7.out.cell (List.getElem?_set_self (by rw [HL.out]; exact hlt))
              have zf : wc.frozen? ⟨w0.heap.size, i, none⟩ = false := HBO7.out.free _
              clear c6 k5d x0 x1 x2 y0 y1 y2 x0d x1d x2d y0d y1d y2d KSH
              cases F with
              | false =>
                go_wp2_with fail
                go_roundg (gk - 1)
                case rel => exact ⟨j + 1, by go_num, by omega, Lib.hid (by rw [HSU.out, Bool.not_false, Bool.or_true, Bool.and_true]; exact HBO7.out), HBL7⟩
                case measure => omega
              | true =>
                cases v1 with
                | true =>
                  go_wp2_with fail
                  go_roundg (gk - 1)
                  case rel => exact ⟨j + 1, by go_num, by omega, Lib.hid (by rw [HSU.out, Bool.true_or, Bool.and_true]; exact HBO7.out), HBL7⟩
                  case measure => omega
                | false =>
                  go_wp2_with fail
                  go_roundg (gk - 1)
                  case rel => exact ⟨j + 1, by go_num, by omega, Lib.hid (by
                    have h1 := HBO7.out.set_ i false
                    rw [List.set_set] at h1
                    rw [HSU.out, Bool.not_true, Bool.or_false, Bool.and_false]
                    exact h1), Lib.hid (HBL7.out.setCell (Nat.le_refl _) _)⟩
                  case measure => omega
          · have hlj1 : ¬ (j : Int) < (i : Int) := by omega
            obtain rfl : j = i := by omega
            clear hrow
            go_wp2_with fail
            go_roundg (n - (j + 1))
            case rel => exact ⟨j + 1, _, by go_num, by omega, HBj, Lib.hid (by rw [List.length_set]; exact HL.out), Lib.hid (by
              have h1 := surv_at (ks := kc) HX.out
              rw [HS.out, HKV.out] at h1
              obtain ⟨h2, h3⟩ := List.getElem?_eq_some_iff.1 h1
              rw [take_set _ _ _ (by rw [HL.out]; exact hlt), HT.out, List.take_succ_eq_append_getElem h2, h3]), HBLj⟩
            case measure => omega
    · have hlt1 : ¬ (i : Int) < (n : Int) := by omega
      obtain rfl : i = n := by omega
      have hSl : S.length = i := by rw [← HS.out, HN.out]; exact surv_len _ _ _
      have HLS : Hid (L = S) := Lib.hid (by
        have := HT.out
        rw [List.take_of_length_le (by rw [HL.out]; exact Nat.le_refl _), List.take_of_length_le (by rw [hSl]; exact Nat.le_refl _)] at this
        exact this)
      have hbr : ∀ m v, S[m]? = some v → ∃ b off, (some ⟨w0.heap.size, 0, none⟩ : Option Addr) = some ⟨b, off, none⟩ ∧ (b < wr.heap.size ∧ b ≠ db) ∧ wr.cell? ⟨b, off + m, none⟩ = some (.bool v) := fun m v hv =>
        ⟨w0.heap.size, 0, rfl, ⟨hwsz, by have := HBX.out.size; omega⟩, by rw [Nat.zero_add]; exact HB.out.cell (by rw [HLS.out]; exact hv)⟩
      have KL := Lib.hid (rlasting_walk z wr own db d q (HP.out.below HBW.out) HW.out (by omega) S (some ⟨w0.heap.size, 0, none⟩) i i hSl (by rw [hSl, HN.out]) hbr)
      clear hrow hbr hSl
      go_wp2_with fail
      refine KL.out.mono ?_
      rintro e w2 ⟨own2, ⟨q2, hd2⟩, ht2, rfl⟩
      have HD2 := Lib.hid hd2
      have k5' : w2.cell? ⟨db, 5, none⟩ = some q2.vc := hd2.blk.cell 5
      have f5 := hd2.blk.frozen 5
      have k3' : w2.cell? ⟨db, 3, none⟩ = some q2.ve := hd2.blk.cell 3
      have f3 := hd2.blk.frozen 3
      obtain ⟨Al2, cl2, hl2, -⟩ := hd2.rest.lasts
      generalize hnl2 : (lastM d S).lasts.length = nl2 at hl2
      have k4' : w2.cell? ⟨db, 4, none⟩ = some (.slice Al2 nl2 cl2) := by rw [← hl2]; exact hd2.blk.cell 4
      obtain ⟨own3, ⟨q3, hd3⟩, ht3⟩ := rcut_end hd2
      rw [hl2] at hd3 ht3
      have HE : Hid (({ lastM d S with waits := [], now := (lastM d S).lasts } : Dk).nodes = d.nodes ∧ ({ lastM d S with waits := [], now := (lastM d S).lasts } : Dk) = { d with lasts := didAll d.lasts (selC (d.waits.zip S)), now := didAll d.lasts (selC (d.waits.zip S)), waits := [] }) := Lib.hid ⟨rfl, rfl⟩
      have ht23 := ht2.trans ht3
      have htw : Turn (isD z) w ((w2.setCell ⟨db, 5, none⟩ (.slice none 0 0)).setCell ⟨db, 3, none⟩ (.slice Al2 nl2 cl2)) own own3 := (Turn.of_below HBW.out fun _ _ => rfl).trans ht23
      have HT3 := Lib.hid htw
      have hob : own w.heap.size = (0, 0) := HOWN.out _ (Nat.le_refl _)
      have hnd : ¬ isD z (own w.heap.size) := by rw [hob]; unfold isD; simp
      have hkb : Blk wr w.heap.size 26 #[.slice Ac kc.length cc, .slice Aw kw.length cw] := HK0.out.below HBL.out (by rw [HS0.out]; omega)
      have HBK : Hid (∀ W ownW, Turn (isD z) ((w2.setCell ⟨db, 5, none⟩ (.slice none 0 0)).setCell ⟨db, 3, none⟩ (.slice Al2 nl2 cl2)) W own3 ownW → Blk W w.heap.size 26 #[.slice Ac kc.length cc, .slice Aw kw.length cw]) := Lib.hid fun W ownW hT => by
        have h2 := ht23.trans hT
        exact hkb.at_ (h2.block _ hkb.lt hnd)
      have HKW : Hid (∀ W ownW, Turn (isD z) ((w2.setCell ⟨db, 5, none⟩ (.slice none 0 0)).setCell ⟨db, 3, none⟩ (.slice Al2 nl2 cl2)) W own3 ownW → ∀ (m : Nat) (v : Value), (kw.map (Value.int .i64))[m]? = some v → ∃ b off, Aw = some ⟨b, off, none⟩ ∧ W.cell? ⟨b, off + m, none⟩ = some v) := Lib.hid fun W ownW hT m v hv => by
        obtain ⟨b, off, e1, e2, e3, e4⟩ := HRW.out m v hv
        refine ⟨b, off, e1, ?_⟩
        rw [← e4]
        have h1 := htw.trans hT
        exact World.cell?_of_block (h1.block b e2 e3)
      generalize hd3e : ({ lastM d S with waits := [], now := (lastM d S).lasts } : Dk) = d3 at *
      clear hd3e
      have HI0 : Hid (RCrI z ((w2.setCell ⟨db, 5, none⟩ (.slice none 0 0)).setCell ⟨db, 3, none⟩ (.slice Al2 nl2 cl2)) own3 db d3 kw 0 ((w2.setCell ⟨db, 5, none⟩ (.slice none 0 0)).setCell ⟨db, 3, none⟩ (.slice Al2 nl2 cl2))) := Lib.hid ⟨own3, ⟨q3, by rw [ndK_zero]; exact hd3⟩, Turn.refl _ _ _⟩
      clear hd2 ht2 hd3 ht3 ht23 htw hob hnd hkb hl2 hnl2 HB HL HT HLS KL HK0 HRC HBL HBW hwsz HAT HP HRW HSL
      obtain ⟨nf, hnf⟩ : ∃ nf, d.nodes.length = nf := ⟨_, rfl⟩
      have hnfK : nf ≤ 8000 := by have := HW.out.nk; omega
      have HNF := Lib.hid hnf
      clear hnf
      go_upto_region 17 with fail
      generalize hw3 : (w2.setCell ⟨db, 5, none⟩ (.slice none 0 0)).setCell ⟨db, 3, none⟩ (.slice Al2 nl2 cl2) = w3 at *
      clear hw3 k5' f5 k3' f3 k4'
      go_loopg [8, 9, 10, 11, 12] nf (fun k s8 s9 s10 s11 s12 wr => ∃ i : Nat, s9 = .int .i64 (i : Int) ∧ s8 = .int .i64 (wtN (d.nodes.take i) : Int) ∧ i + k = nf ∧ Hid (RCrI z w3 own3 db d3 kw i wr))
      case atStart => exact ⟨0, rfl, rfl, by omega, HI0⟩
      case round =>
        obtain ⟨i', rfl, rfl, hi', HI⟩ := hrel
        clear HI0
        by_cases hlf : i' < nf
        · have hlf1 : (i' : Int) < (nf : Int) := by omega
          obtain ⟨x, hx⟩ : ∃ x, d.nodes[i']? = some x := ⟨_, List.getElem?_eq_getElem (by rw [HNF.out]; exact hlf)⟩
          have hx3 : d3.nodes[i']? = some x := by rw [HE.out.1]; exact hx
          obtain ⟨ownr, ⟨qr, hdr⟩, htr⟩ := HI.out
          have hxr : ({ d3 with nodes := ndK d3.nodes kw i' } : Dk).nodes[i']? = some x := ndK_at hx3
          have HX3 := Lib.hid hx3
          have HXR := Lib.hid hxr
          have HDR := Lib.hid hdr
          have HTR := Lib.hid htr
          have HOK : Hid (NdOk x K) := Lib.hid (HW.out.nd x (List.mem_of_getElem? hx))
          obtain ⟨m, g, off, nn, cn, hm, hg, hvn, hnn, hnc, hgl, n0, n1, n2, hN⟩ := hdr.rest.ndAt hxr
          have HM := Lib.hid (⟨hm, hg, hvn⟩ : qr.ms[i']? = some m ∧ qr.gn = some g ∧ qr.vn = .slice (some ⟨g, off, none⟩) nn cn)
          obtain ⟨An1, cn1, en1, -⟩ := hN.now
          obtain ⟨Al1, cl1, el1, -⟩ := hN.lasts
          obtain ⟨Aw1, nw, cw1, ew1, hxw, hcw1', hmw⟩ := hN.wts.sl
          have hWx := hN.wts
          rw [ew1] at hWx
          obtain ⟨hnw, -, -⟩ := hWx.count (by decide) (wrRow_all _ _)
          rw [wrRow_len hN.wrs.1] at hnw
          have HWA : Hid (∀ (j : Nat) (y : Wr), x.waits[j]? = some y → ∃ b o Ab cb, Aw1 = some ⟨b, o, none⟩ ∧ wr.cell? ⟨b, o + j * 2 + 1, none⟩ = some (.slice Ab y.b.length cb)) := Lib.hid fun j y hy => by
            have hj := (List.getElem?_eq_some_iff.1 hy).1
            obtain ⟨v, hv⟩ : ∃ v, m.vs[j]? = some v := ⟨_, List.getElem?_eq_getElem (by rw [hN.wrs.1]; exact hj)⟩
            obtain ⟨-, -, -, -, bb, o, -, e2, hlt, hc⟩ := hWx.elem (by decide) (wrRow_all _ _) (wrRow_at hv hy)
            obtain ⟨Ab, cb, ev, -⟩ := hN.wrs.2 j v y hv hy
            have h1 := (hc 1 (by decide)).1
            rw [ev] at h1
            exact ⟨bb, o, Ab, cb, e2, h1⟩
          have hrowx : (qr.ms.map ndC)[i']? = some (ndC m) := by rw [List.getElem?_map, hm]; rfl
          have hO := hdr.rest.nodes
          rw [hvn] at hO
          obtain ⟨-, -, -, hin, g', off', hg', ea, -, hcl⟩ := hO.elem (by decide) (nd_all _) hrowx
          cases ea
          have HFR : Hid (wr.frozen? ⟨g, off + i' * 3, none⟩ = false ∧ wr.frozen? ⟨g, off + i' * 3 + 1, none⟩ = false ∧ wr.frozen? ⟨g, off + i' * 3 + 2, none⟩ = false) := Lib.hid ⟨(hcl 0 (by decide)).2, (hcl 1 (by decide)).2, (hcl 2 (by decide)).2⟩
          have hnf2 : nn = nf := by
            rw [hnn]
            show (ndK d3.nodes kw i').length = nf
            have h3 : d3.nodes.length = nf := by rw [HE.out.1, HNF.out]
            rw [ndK_len _ _ _ (by omega)]
            exact h3
          subst hnf2
          obtain ⟨nf, hnf⟩ : ∃ nf', nf' = nn := ⟨_, rfl⟩
          subst hnf
          have k2 : wr.cell? ⟨db, 2, none⟩ = some (.slice (some ⟨g, off, none⟩) nf cn) := by rw [← hvn]; exact hdr.blk.cell 2
          have HGL : Hid (g < wr.heap.size) := Lib.hid hgl
          have HDB : Hid (db < wr.heap.size) := Lib.hid hdr.blk.lt
          have KK : Hid (∀ m1 : Int, -9223372036854775808 ≤ m1 → m1 ≤ 9223372036854775807 → Calls Tryz.prog 104 #[.agg #[m.vn, m.vl, m.vw], .int .i64 m1] wr.drew (KpPost wr.drew ownr x m1)) := Lib.hid fun m1 h1 h2 => rkeeps_walk z wr.drew ownr i' m x (hN.goes (keep := fun _ => True) ⟨Nat.le_refl _, fun k hk _ => ⟨rfl, rfl⟩⟩ trivial trivial) HOK.out (by omega) m1 h1 h2
          rw [en1, el1, ew1] at KK
          rw [en1] at n0
          rw [el1] at n1
          rw [ew1] at n2
          generalize hln1 : x.now.length = ln1 at n0 KK
          generalize hll1 : x.lasts.length = ll1 at n1 KK
          have r0 := n0
          have r1 := n1
          have r2 := n2
          have k2d : wr.drew.cell? ⟨db, 2, none⟩ = some (.slice (some ⟨g, off, none⟩) nf cn) := k2
          have r0d : wr.drew.cell? ⟨g, off + i' * 3, none⟩ = some (.slice An1 ln1 cn1) := r0
          have r1d : wr.drew.cell? ⟨g, off + i' * 3 + 1, none⟩ = some (.slice Al1 ll1 cl1) := r1
          have r2d : wr.drew.cell? ⟨g, off + i' * 3 + 2, none⟩ = some (.slice Aw1 nw cw1) := r2
          have HNW := Lib.hid hnw
          have hnw8 : nw ≤ 8000 := by have := HOK.out.lw; omega
          have HKB := Lib.hid (HBK.out wr ownr htr)
          have HKV := Lib.hid (HKW.out wr ownr htr)
          have kb1 : wr.cell? ⟨w.heap.size, 1, none⟩ = some (.slice Aw kw.length cw) := HKB.out.cell 1
          have hwl := wtN_le d.nodes i'
          have HWS := Lib.hid (wtN_succ hx)
          have HWTB := Lib.hid (fun j => wtS_le HOK.out j)
          have hK6 : K * 67108864 ≤ 8000 * 67108864 := Nat.mul_le_mul_right _ hK
          have HK6 := Lib.hid hK6
          clear hx hx3 hxr hdr htr hm hg hvn hnn hnc hgl n0 n1 n2 hN en1 el1 ew1 hxw hcw1' hmw hWx hrowx hO hin hg' hcl hln1 hll1 hnw hK6
          go_upto_region 22 with fail
          obtain ⟨wo, hwo⟩ : ∃ wo, wo = wr := ⟨_, rfl⟩
          go_loopg [11, 12] nw (fun k s11 s12 wq => ∃ j : Nat, s12 = .int .i64 (j : Int) ∧ s11 = .int .i64 (wtS x j : Int) ∧ j + k = nw ∧ wq = wo)
          case atStart => exact ⟨0, rfl, by rw [wtS_zero]; rfl, by omega, hwo.symm⟩
          case round =>
            obtain ⟨j, rfl, rfl, hj, hwq⟩ := hrel
            subst hwq
            subst hwo
            by_cases hlj : j < nw
            · have hlj1 : (j : Int) < (nw : Int) := by omega
              obtain ⟨y, hy⟩ : ∃ y, x.waits[j]? = some y := ⟨_, List.getElem?_eq_getElem (by rw [← HNW.out]; exact hlj)⟩
              obtain ⟨b, o, Ab, cb, rfl, hc⟩ := HWA.out j y hy
              have hs := wtS_succ hy
              have hb1 := HWTB.out (j + 1)
              have hb2 := HK6.out
              rw [hs] at hb1
              have HS1 := Lib.hid hs
              obtain ⟨u, hu⟩ : ∃ u, wtS x j = u := ⟨_, rfl⟩
              obtain ⟨l, hl⟩ : ∃ l, y.b.length = l := ⟨_, rfl⟩
              rw [hu, hl] at hb1 HS1
              rw [hl] at hc
              rw [hu]
              have hsum : (u : Int) + (l : Int) ≤ 1000000000000 := by omega
              clear hs hy hb1 hb2 hu hl
              go_wp2_with fail
              go_roundg (gk - 1)
              case rel => exact ⟨j + 1, by go_num, by rw [HS1.out]; go_num, by omega, rfl⟩
              case measure => omega
            · have hlj1 : ¬ (j : Int) < (nw : Int) := by omega
              obtain rfl : j = nw := by omega
              have hwn : wtS x j = waitN x := by rw [HNW.out]; exact wtS_full
              have hbn := HWTB.out j
              have hb2 := HK6.out
              rw [hwn]
              rw [hwn] at hbn
              obtain ⟨wt, hwt⟩ : ∃ wt, wtN (d.nodes.take i') = wt := ⟨_, rfl⟩
              have HWT := Lib.hid hwt
              rw [hwt] at hwl HWS
              rw [hwt]
              clear hwt hwn hj
              by_cases h0 : waitN x = 0
              · obtain ⟨nv, hnv⟩ : ∃ nv : Int, nv = 0 := ⟨_, rfl⟩
                have HKP : Hid (kpN d.nodes kw i' x = nv) := Lib.hid (by unfold kpN; rw [if_pos h0, hnv])
                have HWS1 : Hid (wtN (d.nodes.take (i' + 1)) = wt) := Lib.hid (by rw [HWS.out, if_pos h0]; rfl)
                have hnvb : -9223372036854775808 ≤ nv ∧ nv ≤ 9223372036854775807 := by omega
                rw [h0]
                clear h0 hbn hb2
                subst hnv
                have hmb : -9223372036854775808 ≤ (0 : Int) ∧ (0 : Int) ≤ 9223372036854775807 := hnvb
                obtain ⟨l4, hl4⟩ : ∃ l4, (keepN x (0 : Int)).now = l4 := ⟨_, rfl⟩
                have KKn : Hid (Calls Tryz.prog 104 #[.agg #[.slice An1 ln1 cn1, .slice Al1 ll1 cl1, .slice Aw1 j cw1], .int .i64 (0 : Int)] wr.drew fun e w' => Below wr.heap.size wr w' ∧ ∃ A4 n4 c4, e = .returned (.agg #[.slice A4 n4 c4, .slice A4 n4 c4, .slice none 0 0]) ∧ Hid (FzN wr ownr w' (.slice A4 n4 c4) l4)) := Lib.hid ((KK.out (0 : Int) hmb.1 hmb.2).mono fun e w' ⟨h1, v, h2, h3, h4⟩ => by
                  rw [hl4] at h3
                  obtain ⟨A4, c4, rfl, h5⟩ := h3
                  exact ⟨⟨h1.os, h1.tape, h1.output, h1.size, h1.block⟩, A4, l4.length, c4, h2, Lib.hid ⟨A4, c4, rfl, h5⟩⟩)
                have HK4 : Hid (keepN x (0 : Int) = ⟨l4, l4, []⟩) := Lib.hid (by
                  have h1 := KpPost.form x (0 : Int)
                  rw [hl4] at h1
                  exact h1)
                have HHI := Lib.hid hi'
                have HRR : Hid (wr.cell? ⟨db, 2, none⟩ = some (.slice (some ⟨g, off, none⟩) nf cn) ∧ wr.cell? ⟨g, off + i' * 3, none⟩ = some (.slice An1 ln1 cn1) ∧ wr.cell? ⟨g, off + i' * 3 + 1, none⟩ = some (.slice Al1 ll1 cl1) ∧ wr.cell? ⟨g, off + i' * 3 + 2, none⟩ = some (.slice Aw1 j cw1)) := Lib.hid ⟨k2, r0, r1, r2⟩
                have hlfx := hlf1
                clear hmb hnvb KK hl4 hi' hcc1 hcw1 hn1 c6 hlt hlt1 hnw8 hwl HBX HS0 HZW HOWN HS HBK HKW HKB HKV HWTB HK6 hi HN HOK HW r0 r1 hdb hK hlf
                go_upto_region 29 with fail
                clear kb1 k2 r2 hlj1
                go_region_law (refine step_calls rfl #[.tmp 151, .tmp 152] #[117, 3] (by rfl) Tryz.func104 (by kernel_rfl) (by kernel_rfl) #[.agg #[.slice An1 ln1 cn1, .slice Al1 ll1 cl1, .slice Aw1 j cw1], .int .i64 (0 : Int)] (by simp [Act.eval, Act.put]) KKn.out ?_; rintro e1 w4 ⟨hb4, A4, n4, c4, rfl, HF4⟩; refine ⟨_, rfl, ?_⟩; have HB4 := Lib.hid hb4; have p2 : w4.cell? ⟨db, 2, none⟩ = some (.slice (some ⟨g, off, none⟩) nf cn) := (hb4.cell (p := ⟨db, 2, none⟩) HDB.out).trans HRR.out.1; have p0 : w4.cell? ⟨g, off + i' * 3, none⟩ = some (.slice An1 ln1 cn1) := (hb4.cell (p := ⟨g, off + i' * 3, none⟩) HGL.out).trans HRR.out.2.1; have p1 : w4.cell? ⟨g, off + i' * 3 + 1, none⟩ = some (.slice Al1 ll1 cl1) := (hb4.cell (p := ⟨g, off + i' * 3 + 1, none⟩) HGL.out).trans HRR.out.2.2.1; have p3 : w4.cell? ⟨g, off + i' * 3 + 2, none⟩ = some (.slice Aw1 j cw1) := (hb4.cell (p := ⟨g, off + i' * 3 + 2, none⟩) HGL.out).trans HRR.out.2.2.2; have g0 : w4.frozen? ⟨g, off + i' * 3, none⟩ = false := (World.frozen?_of_block (hb4.block g HGL.out)).trans HFR.out.1; have g1 : w4.frozen? ⟨g, off + i' * 3 + 1, none⟩ = false := (World.frozen?_of_block (hb4.block g HGL.out)).trans HFR.out.2.1; have g2 : w4.frozen? ⟨g, off + i' * 3 + 2, none⟩ = false := (World.frozen?_of_block (hb4.block g HGL.out)).trans HFR.out.2.2; clear hb4)
                all_goals
                  go_wp2_with fail
                  go_roundg (nf - (i' + 1))
                  case rel =>
                    obtain ⟨own5, hd5, ht5⟩ := rkp_end HDR.out HM.out.1 HXR.out HM.out.2.1 HM.out.2.2 HB4.out HF4.out
                    refine ⟨i' + 1, by go_num, by rw [HWS1.out] <;> go_num, by have := HHI.out; omega, Lib.hid ⟨own5, ?_, HTR.out.trans ht5⟩⟩
                    obtain ⟨q5, hd5⟩ := hd5
                    refine ⟨q5, ?_⟩
                    rw [ndK_succ HX3.out, show kpN d3.nodes kw i' x = (0 : Int) by rw [HE.out.1]; exact HKP.out, HK4.out]
                    exact hd5
                  case measure => have := HHI.out; omega
              · have hpos : (0 : Int) < (waitN x : Int) := by omega
                have HWS1 : Hid (wtN (d.nodes.take (i' + 1)) = wt + 1) := Lib.hid (by rw [HWS.out, if_neg h0])
                have hwt1 : (wt : Int) ≤ 10000 := by omega
                have hwtw : IntKind.i64.wrap ((wt : Int) + 1) = ((wt + 1 : Nat) : Int) := by rw [IntWalk.i64_in _ (by omega)]; omega
                obtain ⟨wn, hwn⟩ : ∃ wn, waitN x = wn := ⟨_, rfl⟩
                by_cases hkl : wt < kw.length
                · have hkl1 : (wt : Int) < (kw.length : Int) := by omega
                  obtain ⟨nv, hm⟩ : ∃ nv, kw[wt]? = some nv := ⟨_, List.getElem?_eq_getElem hkl⟩
                  have hnvb := HZW.out nv (List.mem_of_getElem? hm)
                  obtain ⟨bw, ow, rfl, hcw2⟩ := HKV.out wt (.int .i64 nv) (by rw [List.getElem?_map, hm]; rfl)
                  have HKP : Hid (kpN d.nodes kw i' x = nv) := Lib.hid (by unfold kpN; rw [if_neg h0, HWT.out, List.getD_eq_getElem?_getD, hm]; rfl)
                  rw [hwn] at hpos
                  rw [hwn]
                  clear hm h0 hbn hb2 hwn
                  have hmb : -9223372036854775808 ≤ nv ∧ nv ≤ 9223372036854775807 := hnvb
                  obtain ⟨l4, hl4⟩ : ∃ l4, (keepN x nv).now = l4 := ⟨_, rfl⟩
                  have KKn : Hid (Calls Tryz.prog 104 #[.agg #[.slice An1 ln1 cn1, .slice Al1 ll1 cl1, .slice Aw1 j cw1], .int .i64 nv] wr.drew fun e w' => Below wr.heap.size wr w' ∧ ∃ A4 n4 c4, e = .returned (.agg #[.slice A4 n4 c4, .slice A4 n4 c4, .slice none 0 0]) ∧ Hid (FzN wr ownr w' (.slice A4 n4 c4) l4)) := Lib.hid ((KK.out nv hmb.1 hmb.2).mono fun e w' ⟨h1, v, h2, h3, h4⟩ => by
                    rw [hl4] at h3
                    obtain ⟨A4, c4, rfl, h5⟩ := h3
                    exact ⟨⟨h1.os, h1.tape, h1.output, h1.size, h1.block⟩, A4, l4.length, c4, h2, Lib.hid ⟨A4, c4, rfl, h5⟩⟩)
                  have HK4 : Hid (keepN x nv = ⟨l4, l4, []⟩) := Lib.hid (by
                    have h1 := KpPost.form x nv
                    rw [hl4] at h1
                    exact h1)
                  have HHI := Lib.hid hi'
                  have HRR : Hid (wr.cell? ⟨db, 2, none⟩ = some (.slice (some ⟨g, off, none⟩) nf cn) ∧ wr.cell? ⟨g, off + i' * 3, none⟩ = some (.slice An1 ln1 cn1) ∧ wr.cell? ⟨g, off + i' * 3 + 1, none⟩ = some (.slice Al1 ll1 cl1) ∧ wr.cell? ⟨g, off + i' * 3 + 2, none⟩ = some (.slice Aw1 j cw1)) := Lib.hid ⟨k2, r0, r1, r2⟩
                  have hlfx := hlf1
                  clear hmb hnvb KK hl4 hi' hcc1 hcw1 hn1 c6 hlt hlt1 hnw8 hwl HBX HS0 HZW HOWN HS HBK HKW HKB HKV HWTB HK6 hi HN HOK HW r0 r1 hdb hK hlf
                  go_upto_region 29 with fail
                  clear kb1 k2 r2 hlj1
                  go_region_law (refine step_calls rfl #[.tmp 151, .tmp 152] #[117, 3] (by rfl) Tryz.func104 (by kernel_rfl) (by kernel_rfl) #[.agg #[.slice An1 ln1 cn1, .slice Al1 ll1 cl1, .slice Aw1 j cw1], .int .i64 nv] (by simp [Act.eval, Act.put]) KKn.out ?_; rintro e1 w4 ⟨hb4, A4, n4, c4, rfl, HF4⟩; refine ⟨_, rfl, ?_⟩; have HB4 := Lib.hid hb4; have p2 : w4.cell? ⟨db, 2, none⟩ = some (.slice (some ⟨g, off, none⟩) nf cn) := (hb4.cell (p := ⟨db, 2, none⟩) HDB.out).trans HRR.out.1; have p0 : w4.cell? ⟨g, off + i' * 3, none⟩ = some (.slice An1 ln1 cn1) := (hb4.cell (p := ⟨g, off + i' * 3, none⟩) HGL.out).trans HRR.out.2.1; have p1 : w4.cell? ⟨g, off + i' * 3 + 1, none⟩ = some (.slice Al1 ll1 cl1) := (hb4.cell (p := ⟨g, off + i' * 3 + 1, none⟩) HGL.out).trans HRR.out.2.2.1; have p3 : w4.cell? ⟨g, off + i' * 3 + 2, none⟩ = some (.slice Aw1 j cw1) := (hb4.cell (p := ⟨g, off + i' * 3 + 2, none⟩) HGL.out).trans HRR.out.2.2.2; have g0 : w4.frozen? ⟨g, off + i' * 3, none⟩ = false := (World.frozen?_of_block (hb4.block g HGL.out)).trans HFR.out.1; have g1 : w4.frozen? ⟨g, off + i' * 3 + 1, none⟩ = false := (World.frozen?_of_block (hb4.block g HGL.out)).trans HFR.out.2.1; have g2 : w4.frozen? ⟨g, off + i' * 3 + 2, none⟩ = false := (World.frozen?_of_block (hb4.block g HGL.out)).trans HFR.out.2.2; clear hb4)
                  all_goals
                    go_wp2_with fail
                    go_roundg (nf - (i' + 1))
                    case rel =>
                      obtain ⟨own5, hd5, ht5⟩ := rkp_end HDR.out HM.out.1 HXR.out HM.out.2.1 HM.out.2.2 HB4.out HF4.out
                      refine ⟨i' + 1, by go_num, by rw [HWS1.out] <;> go_num, by have := HHI.out; omega, Lib.hid ⟨own5, ?_, HTR.out.trans ht5⟩⟩
                      obtain ⟨q5, hd5⟩ := hd5
                      refine ⟨q5, ?_⟩
                      rw [ndK_succ HX3.out, show kpN d3.nodes kw i' x = nv by rw [HE.out.1]; exact HKP.out, HK4.out]
                      exact hd5
                    case measure => have := HHI.out; omega
                · have hkl1 : ¬ (wt : Int) < (kw.length : Int) := by omega
                  have HKP : Hid (kpN d.nodes kw i' x = 0) := Lib.hid (by unfold kpN; rw [if_neg h0, HWT.out, List.getD_eq_getElem?_getD, List.getElem?_eq_none (by omega)]; rfl)
                  rw [hwn] at hpos
                  rw [hwn]
                  clear h0 hbn hb2 hwn
                  have hnvb : -9223372036854775808 ≤ (0 : Int) ∧ (0 : Int) ≤ 9223372036854775807 := by omega
                  have hmb : -9223372036854775808 ≤ (0 : Int) ∧ (0 : Int) ≤ 9223372036854775807 := hnvb
                  obtain ⟨l4, hl4⟩ : ∃ l4, (keepN x (0 : Int)).now = l4 := ⟨_, rfl⟩
                  have KKn : Hid (Calls Tryz.prog 104 #[.agg #[.slice An1 ln1 cn1, .slice Al1 ll1 cl1, .slice Aw1 j cw1], .int .i64 (0 : Int)] wr.drew fun e w' => Below wr.heap.size wr w' ∧ ∃ A4 n4 c4, e = .returned (.agg #[.slice A4 n4 c4, .slice A4 n4 c4, .slice none 0 0]) ∧ Hid (FzN wr ownr w' (.slice A4 n4 c4) l4)) := Lib.hid ((KK.out (0 : Int) hmb.1 hmb.2).mono fun e w' ⟨h1, v, h2, h3, h4⟩ => by
                    rw [hl4] at h3
                    obtain ⟨A4, c4, rfl, h5⟩ := h3
                    exact ⟨⟨h1.os, h1.tape, h1.output, h1.size, h1.block⟩, A4, l4.length, c4, h2, Lib.hid ⟨A4, c4, rfl, h5⟩⟩)
                  have HK4 : Hid (keepN x (0 : Int) = ⟨l4, l4, []⟩) := Lib.hid (by
                    have h1 := KpPost.form x (0 : Int)
                    rw [hl4] at h1
                    exact h1)
                  have HHI := Lib.hid hi'
                  have HRR : Hid (wr.cell? ⟨db, 2, none⟩ = some (.slice (some ⟨g, off, none⟩) nf cn) ∧ wr.cell? ⟨g, off + i' * 3, none⟩ = some (.slice An1 ln1 cn1) ∧ wr.cell? ⟨g, off + i' * 3 + 1, none⟩ = some (.slice Al1 ll1 cl1) ∧ wr.cell? ⟨g, off + i' * 3 + 2, none⟩ = some (.slice Aw1 j cw1)) := Lib.hid ⟨k2, r0, r1, r2⟩
                  have hlfx := hlf1
                  clear hmb hnvb KK hl4 hi' hcc1 hcw1 hn1 c6 hlt hlt1 hnw8 hwl HBX HS0 HZW HOWN HS HBK HKW HKB HKV HWTB HK6 hi HN HOK HW r0 r1 hdb hK hlf
                  go_upto_region 29 with fail
                  clear kb1 k2 r2 hlj1
                  go_region_law (refine step_calls rfl #[.tmp 151, .tmp 152] #[117, 3] (by rfl) Tryz.func104 (by kernel_rfl) (by kernel_rfl) #[.agg #[.slice An1 ln1 cn1, .slice Al1 ll1 cl1, .slice Aw1 j cw1], .int .i64 (0 : Int)] (by simp [Act.eval, Act.put]) KKn.out ?_; rintro e1 w4 ⟨hb4, A4, n4, c4, rfl, HF4⟩; refine ⟨_, rfl, ?_⟩; have HB4 := Lib.hid hb4; have p2 : w4.cell? ⟨db, 2, none⟩ = some (.slice (some ⟨g, off, none⟩) nf cn) := (hb4.cell (p := ⟨db, 2, none⟩) HDB.out).trans HRR.out.1; have p0 : w4.cell? ⟨g, off + i' * 3, none⟩ = some (.slice An1 ln1 cn1) := (hb4.cell (p := ⟨g, off + i' * 3, none⟩) HGL.out).trans HRR.out.2.1; have p1 : w4.cell? ⟨g, off + i' * 3 + 1, none⟩ = some (.slice Al1 ll1 cl1) := (hb4.cell (p := ⟨g, off + i' * 3 + 1, none⟩) HGL.out).trans HRR.out.2.2.1; have p3 : w4.cell? ⟨g, off + i' * 3 + 2, none⟩ = some (.slice Aw1 j cw1) := (hb4.cell (p := ⟨g, off + i' * 3 + 2, none⟩) HGL.out).trans HRR.out.2.2.2; have g0 : w4.frozen? ⟨g, off + i' * 3, none⟩ = false := (World.frozen?_of_block (hb4.block g HGL.out)).trans HFR.out.1; have g1 : w4.frozen? ⟨g, off + i' * 3 + 1, none⟩ = false := (World.frozen?_of_block (hb4.block g HGL.out)).trans HFR.out.2.1; have g2 : w4.frozen? ⟨g, off + i' * 3 + 2, none⟩ = false := (World.frozen?_of_block (hb4.block g HGL.out)).trans HFR.out.2.2; clear hb4)
                  all_goals
                    go_wp2_with fail
                    go_roundg (nf - (i' + 1))
                    case rel =>
                      obtain ⟨own5, hd5, ht5⟩ := rkp_end HDR.out HM.out.1 HXR.out HM.out.2.1 HM.out.2.2 HB4.out HF4.out
                      refine ⟨i' + 1, by go_num, by rw [HWS1.out] <;> go_num, by have := HHI.out; omega, Lib.hid ⟨own5, ?_, HTR.out.trans ht5⟩⟩
                      obtain ⟨q5, hd5⟩ := hd5
                      refine ⟨q5, ?_⟩
                      rw [ndK_succ HX3.out, show kpN d3.nodes kw i' x = (0 : Int) by rw [HE.out.1]; exact HKP.out, HK4.out]
                      exact hd5
                    case measure => have := HHI.out; omega
        · have hlf1 : ¬ (i' : Int) < (nf : Int) := by omega
          obtain rfl : i' = nf := by omega
          obtain ⟨ownr, ⟨qr, hdr⟩, htr⟩ := HI.out
          have HDR := Lib.hid hdr
          have HTR := Lib.hid htr
          obtain ⟨An, nn, cn, en, hxn, -⟩ := hdr.rest.nodes.sl
          have hnn : nn = i' := by
            have h1 := hdr.rest.len
            rw [flat_len (nd_all _), List.length_map] at hxn
            have h3 : d3.nodes.length = i' := by rw [HE.out.1, HNF.out]
            have h4 : ({ d3 with nodes := ndK d3.nodes kw i' } : Dk).nodes.length = i' := by
              show (ndK d3.nodes kw i').length = i'
              rw [ndK_len _ _ _ (by omega)]; exact h3
            omega
          subst hnn
          have k2 : wr.cell? ⟨db, 2, none⟩ = some (.slice An nn cn) := by rw [← en]; exact hdr.blk.cell 2
          have y6 := hdr.blk.cell 6
          have y8 := hdr.blk.cell 8
          have y9 := hdr.blk.cell 9
          have g6 := hdr.blk.frozen 6
          have g8 := hdr.blk.frozen 8
          have g9 := hdr.blk.frozen 9
          have j6 : wr.cell? ⟨db, 6, none⟩ = some (.bool d3.off) := y6
          have j8 : wr.cell? ⟨db, 8, none⟩ = some (.int .i64 (d3.arm : Int)) := y8
          have j9 : wr.cell? ⟨db, 9, none⟩ = some (.int .i64 (d3.fail : Int)) := y9
          have HFIN : Hid (REntPost z w own db (crashM d kc kw) (.returned (.tuple #[])) (((wr.setCell ⟨db, 6, none⟩ (.bool false)).setCell ⟨db, 8, none⟩ (.int .i64 0)).setCell ⟨db, 9, none⟩ (.int .i64 0))) := Lib.hid (by
            have ho := (((Only.refl (g := db) wr).set_ 6 (.bool false)).set_ 8 (.int .i64 0)).set_ 9 (.int .i64 0)
            have hb := ((hdr.blk.set_ 6 (.bool false)).set_ 8 (.int .i64 0)).set_ 9 (.int .i64 0)
            have hek : ndK d3.nodes kw nn = keptM d.nodes kw := by
              rw [HE.out.1, ← HNF.out]; exact ndK_full _ _
            have hee : crashM d kc kw = { d3 with nodes := ndK d3.nodes kw nn, off := false, arm := 0, fail := 0 } := by
              rw [hek, HE.out.2]
              unfold crashM
              rw [HS.out]
            have hsame : SameD { d3 with nodes := ndK d3.nodes kw nn } (crashM d kc kw) := by rw [hee]; exact ⟨rfl, rfl, rfl, rfl, rfl, rfl⟩
            refine ⟨ownr, ⟨qr, hdr.switch ho ?_ hsame⟩, (HT3.out.trans htr).trans (turn_only hdr.mark ho), rfl⟩
            rw [hee]
            exact hb)
          clear hdr htr en hxn y6 y8 y9 HI HDR HTR HBK HKW HE
          go_wp2_with fail
          refine bodyPost_ret (res0 rfl _ _ _) rfl ?_
          exact HFIN.out
/-- Crash, whatever the marks behind the world say -/
theorem rcrash_walk (h : RDkI z w own db d K) (hK : K ≤ 8000) (kc : List Bool) (kw : List Int) (Ac Aw : Option Addr) (cc cw : Nat)
    (hcc : kc.length ≤ cc ∧ cc ≤ maxLen) (hcw : kw.length ≤ cw ∧ cw ≤ maxLen) (hrc : RCo z w own Ac (kc.map .bool)) (hrw : RCo z w own Aw (kw.map (.int .i64))) (hzw : ∀ x ∈ kw, -9223372036854775808 ≤ x ∧ x ≤ 9223372036854775807) :
    Calls Tryz.prog 57 #[ptrV db, .agg #[.slice Ac kc.length cc, .slice Aw kw.length cw]] w (REntPost z w own db (crashM d kc kw)) := by
  obtain ⟨⟨q, hd⟩, hw, hsw⟩ := h
  have h1 : RSt z w (cutM w own) db d q := hd.goes (keep := fun _ => True) ⟨Nat.le_refl _, fun k hk _ => ⟨rfl, cutM_old hk⟩⟩ trivial fun _ _ => trivial
  have hr : ∀ {A : Option Addr} {vs : List Value}, RCo z w own A vs → RCo z w (cutM w own) A vs := fun hr i v hv => by
    obtain ⟨b, off, e1, e2, e3, e4⟩ := hr i v hv
    exact ⟨b, off, e1, e2, by rw [cutM_old e2]; exact e3, e4⟩
  refine (rcrash_walk0 ⟨⟨q, h1⟩, hw, hsw⟩ (fun k hk => by unfold cutM; rw [if_neg (by omega)]) hK kc kw Ac Aw cc cw hcc hcw (hr hrc) (hr hrw) hzw).mono fun e w' hp => ?_
  obtain ⟨own', h4, h5, h6⟩ := hp
  exact ⟨own', h4, ⟨h5.os, h5.tape, h5.output, h5.size, fun k hk hn => h5.block k hk (by rw [cutM_old hk]; exact hn), fun k hk hn => (h5.mark k hk (by rw [cutM_old hk]; exact hn)).trans (cutM_old hk)⟩, h6⟩
end
end Go.Proofs.YtbpooaicmjkemaaGreatDoor
