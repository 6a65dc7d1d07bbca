/-
  The walk of the document's SyncDir. Conditions: the lengths.
-/
import Derived.Test.YtbpooaicmjkemaaGreatDoorSfRLa
import Derived.BigQuiet
import Derived.Deep.CutBlock
import Derived.Deep.DeepCutAuto
namespace Go.Proofs.YtbpooaicmjkemaaGreatDoor
open Go.RowKit Go.Maps
set_option linter.unusedVariables false
theorem set_dropR {α : Type} (v : α) : ∀ (L : List α) (i : Nat), i < L.length → (L.set i v).drop i = v :: L.drop (i + 1)
  | [], i, h => by simp at h
  | x :: r, 0, h => rfl
  | x :: r, i + 1, h => set_dropR v r i (by simpa using h)
section
variable {z db K : Nat} {w : World} {own : Nat → Nat × Nat} {d : Dk}
/-- the rows that wait, in every later world -/
theorem RSt.chAt {q : RParts} (h : RSt z w own db d q) : ∃ A n c, n = d.waits.length ∧ q.vc = .slice A n c ∧ ∀ W, Below w.heap.size w W → W.cell? ⟨db, 5, none⟩ = some (.slice A n c) ∧ ∀ (j : Nat) (x : Ch), d.waits[j]? = some x → ∃ b off, A = some ⟨b, off, none⟩ ∧
    W.cell? ⟨b, off + j * 4, none⟩ = some (.int .i64 x.kind) ∧ W.cell? ⟨b, off + j * 4 + 1, none⟩ = some (.string (bs x.fr)) ∧ W.cell? ⟨b, off + j * 4 + 2, none⟩ = some (.string (bs x.tt)) ∧ W.cell? ⟨b, off + j * 4 + 3, none⟩ = some (.int .i64 (x.node : Int)) := by
  obtain ⟨A, n, c, ev, -⟩ := h.rest.chs.sl
  have hX := h.rest.chs
  rw [ev] at hX
  obtain ⟨hn, -, -, hat⟩ := rc_at hX
  refine ⟨A, n, c, hn, ev, fun W hb => ⟨by rw [← ev]; exact (h.blk.keep hb).cell 5, fun j x hx => ?_⟩⟩
  obtain ⟨b, off, -, e2, e3, c0, c1, c2, c3⟩ := hat j x hx
  exact ⟨b, off, e2, (hb.cell (p := ⟨b, off + j * 4, none⟩) e3).trans c0, (hb.cell (p := ⟨b, off + j * 4 + 1, none⟩) e3).trans c1, (hb.cell (p := ⟨b, off + j * 4 + 2, none⟩) e3).trans c2, (hb.cell (p := ⟨b, off + j * 4 + 3, none⟩) e3).trans c3⟩
theorem risdir_op (h : RDkI z w own db d K) (p : Tx) : Calls Tryz.prog 93 #[ptrV db, .string (bs p)] w fun e w' => e = .returned (.bool (d.dirs.contains p)) ∧ w' = w := by
  obtain ⟨q, hq⟩ := h.dk
  obtain ⟨A, c, hv, h1, h2, h3⟩ := hq.rest.dirs
  refine risdir_walk w db A d.dirs.length c d.dirs (by rw [← hv]; exact hq.blk.cell 1) rfl ?_ p (by have := h.wf.dl; omega)
  rcases h3 with h3 | ⟨b, off, rfl, -, hlt, hc⟩
  · exact .inl h3
  · exact .inr ⟨b, off, rfl, hlt, hc⟩
set_option maxRecDepth 100000 in
set_option maxHeartbeats 8000000 in
theorem rsyncDir_walk (h : RDkI z w own db d K) (hK : K ≤ 8000) (dir : Tx) :
    Calls Tryz.prog 54 #[ptrV db, .string (bs dir)] w (ROpPost z w own db (syncDirM d dir)) := by
  have H := Lib.hid h
  have KI := Lib.hid (risdir_op h dir)
  have KS := Lib.hid (rstep_op h hK)
  have k6 : w.cell? ⟨db, 6, none⟩ = some (.bool d.off) := by
    have := h.offc 0
    exact this
  cases ho : d.off with
  | true =>
    have E : Hid (syncDirM d dir = (d, 10)) := Lib.hid (by unfold syncDirM; rw [if_pos ho])
    rw [ho] at k6
    clear h ho KS
    unfold ptrV at *
    generalize d.dirs.contains dir = is at *
    go_enter Tryz.func54, Tryz.ntmps54
    go_wp2_with fail
    refine KI.out.mono ?_
    rintro e w1 ⟨rfl, rfl⟩
    go_wp2_with fail
    go_ret
    rw [E.out]
    exact ROpPost.same H.out (Below.refl _ _) 10
  | false =>
    rw [ho] at k6
    cases his : d.dirs.contains dir with
    | false =>
      have E : Hid (syncDirM d dir = (d, 12)) := Lib.hid (by unfold syncDirM; rw [if_neg (by rw [ho]; decide), if_pos his])
      rw [his] at KI
      clear h ho KS his
      unfold ptrV at *
      go_enter Tryz.func54, Tryz.ntmps54
      go_wp2_with fail
      refine KI.out.mono ?_
      rintro e w1 ⟨rfl, rfl⟩
      go_wp2_with fail
      go_ret
      rw [E.out]
      exact ROpPost.same H.out (Below.refl _ _) 12
    | true =>
      rw [his] at KI
      cases he : (stepM d).2 == 0 with
      | false =>
        have t1 : ((stepM d).2 == 0) = false := he
        have E : Hid (syncDirM d dir = ((stepM d).1, (stepM d).2)) := Lib.hid (by unfold syncDirM; rw [if_neg (by rw [ho]; decide), if_neg (by rw [his]; decide), if_pos (by simpa using he)])
        clear h ho his he
        unfold ptrV at *
        go_enter Tryz.func54, Tryz.ntmps54
        go_wp2_with fail
        refine KI.out.mono ?_
        rintro e w1 ⟨rfl, rfl⟩
        go_wp2_with fail
        refine KS.out.mono ?_
        rintro e w3 ⟨-, hd1, ho1, rfl⟩
        have HD1 := Lib.hid hd1
        have HO1 := Lib.hid ho1
        clear hd1 ho1
        generalize hsm : (stepM d).2 = se at *
        clear hsm
        go_wp2_with fail
        go_ret
        rw [E.out]
        exact ROpPost.no H.out (Below.refl _ _) HD1.out HO1.out
      | true =>
        have he0 : (stepM d).2 = 0 := by simpa using he
        rw [he0] at KS
        have E : Hid (syncDirM d dir = (lastM (stepM d).1 (broughtM dir (stepM d).1.waits), 0)) := Lib.hid (by unfold syncDirM; rw [if_neg (by rw [ho]; decide), if_neg (by rw [his]; decide), if_neg (by rw [he0]; decide), (step_same d).2.2.2.2.1])
        have HWS := Lib.hid h.wf.step
        have HKK := Lib.hid hK
        clear h ho his he he0
        unfold ptrV at *
        generalize hsd : (stepM d).1 = d1 at *
        clear hsd
        go_enter Tryz.func54, Tryz.ntmps54
        go_wp2_with fail
        refine KI.out.mono ?_
        rintro e w1 ⟨rfl, rfl⟩
        go_wp2_with fail
        refine KS.out.mono ?_
        rintro e w3 ⟨-, ⟨q, hd1⟩, ho1, rfl⟩
        have HD1 := Lib.hid hd1
        have HO1 := Lib.hid ho1
        obtain ⟨A, n, c, hn, hvc, hat⟩ := hd1.chAt
        have HAT := Lib.hid hat
        have HN := Lib.hid hn
        have hn8 : n ≤ 8000 := by have := HWS.out.wk; omega
        have hdb := hd1.blk.lt
        have hmk := mk_bo w3 n (by omega)
        have k5 := (hat w3 (Below.refl _ _)).1
        have HB4 : Hid (Below w3.heap.size w3 (w3.alloc (.cells (boA (List.replicate n false)) 4))) := Lib.hid ((Below.refl w3.heap.size w3).alloc (Nat.le_refl _) _)
        have HBO4 : Hid (BoB (w3.alloc (.cells (boA (List.replicate n false)) 4)) w3.heap.size (List.replicate n false)) := Lib.hid (Blk.new w3 4 (boA (List.replicate n false)))
        have k5b := (HAT.out _ HB4.out).1
        have hw0 : IntKind.i64.wrap ((n : Int) - 1) = (n : Int) - 1 := IntWalk.i64_in _ (by omega)
        clear hd1 ho1 hn hvc hat KI KS k6
        go_upto_region 11 with fail
        generalize hw4 : w3.alloc (.cells (boA (List.replicate n false)) 4) = w4 at *
        clear hw4 hmk k5 k5b hw0
        go_loopg [8, 9, 10] n (fun k s8 s9 s10 wr => ∃ L : List Bool, s8 = .int .i64 ((k : Int) - 1) ∧ k ≤ n ∧ Hid (BoB wr w3.heap.size L) ∧ Hid (L.length = n ∧ L.drop k = broughtM dir (d1.waits.drop k)) ∧ Hid (Below w3.heap.size w3 wr))
        case atStart => exact ⟨List.replicate n false, rfl, Nat.le_refl _, HBO4, Lib.hid ⟨by simp, by rw [List.drop_of_length_le (by simp), List.drop_of_length_le (by rw [← HN.out]; exact Nat.le_refl _)]; rfl⟩, HB4⟩
        case round =>
          obtain ⟨L, rfl, hkn, HBO, HL, HBW⟩ := hrel
          obtain ⟨wo, hwo⟩ : ∃ wo, wo = wr := ⟨_, rfl⟩
          subst hwo
          have hsz := HBO.out.lt
          rcases Nat.eq_zero_or_pos gk with hk0 | hk0
          · subst hk0
            have e8 : ((0 : Nat) : Int) - 1 = -1 := rfl
            rw [e8]
            have k5 := (HAT.out _ HBW.out).1
            have hbr : ∀ i x, (broughtM dir d1.waits)[i]? = some x → ∃ b off, (some ⟨w3.heap.size, 0, none⟩ : Option Addr) = some ⟨b, off, none⟩ ∧ (b < wo.heap.size ∧ b ≠ db) ∧ wo.cell? ⟨b, off + i, none⟩ = some (.bool x) := fun i x hx => by
              have h1 := HL.out.2
              rw [List.drop_zero, List.drop_zero] at h1
              rw [← h1] at hx
              exact ⟨w3.heap.size, 0, rfl, ⟨hsz, by omega⟩, by rw [Nat.zero_add]; exact HBO.out.cell hx⟩
            have KL := Lib.hid (rlasting_walk z wo own db d1 q (HD1.out.below HBW.out) HWS.out (by have := HKK.out; omega) (broughtM dir d1.waits) (some ⟨w3.heap.size, 0, none⟩) n n (by rw [brought_len]; exact HN.out.symm) (brought_len _ _) hbr)
            clear hbr k5
            go_wp2_with fail
            refine KL.out.mono ?_
            rintro e w9 hp
            have HP := Lib.hid (ROpPost.ent2 H.out (Below.refl _ _) HO1.out (REntPost.ent (Turn.of_below HBW.out fun _ _ => rfl) hp))
            obtain ⟨-, -, -, rfl⟩ := hp
            clear KL
            generalize lastM d1 (broughtM dir d1.waits) = d9 at *
            go_wp2_with fail
            go_ret
            rw [E.out]
            exact HP.out
          · obtain ⟨i', hi'⟩ : ∃ i', gk = i' + 1 := ⟨gk - 1, by omega⟩
            subst hi'
            have e8 : ((i' + 1 : Nat) : Int) - 1 = (i' : Int) := by omega
            rw [e8]
            have hge : (i' : Int) ≥ 0 := by omega
            have hin : i' < n := by omega
            have hin1 : (i' : Int) < (n : Int) := by omega
            obtain ⟨x, hx⟩ : ∃ x, d1.waits[i']? = some x := ⟨_, List.getElem?_eq_getElem (by rw [← HN.out]; exact hin)⟩
            obtain ⟨k5, hrow⟩ := HAT.out _ HBW.out
            obtain ⟨bb, off, rfl, q0, q1, q2, -⟩ := hrow i' x hx
            have hxl := HWS.out.wlen (List.mem_of_getElem? hx)
            have KW := Lib.hid (rwithin_walk x dir wo (by unfold maxLen; omega) (by unfold maxLen; omega))
            obtain ⟨wv, hwv⟩ : ∃ wv, withinC x dir = wv := ⟨_, rfl⟩
            rw [hwv] at KW
            unfold fsV at KW
            have HWV := Lib.hid hwv
            have HX := Lib.hid hx
            clear hrow hwv hx hxl hkn e8
            go_upto_region 13 with fail
            go_wp2_with fail
            refine KW.out.mono ?_
            rintro e2 w5 ⟨rfl, hb5⟩
            have HB5 : Hid (Below w3.heap.size w3 w5) := Lib.hid (HBW.out.trans (hb5.mono HBW.out.size))
            have hBO5 : BoB w5 w3.heap.size L := HBO.out.keep hb5
            obtain ⟨bx, hbx⟩ : ∃ bx, L[i']? = some bx := ⟨_, List.getElem?_eq_getElem (by rw [HL.out.1]; exact hin)⟩
            have d0 : w5.cell? ⟨w3.heap.size, i', none⟩ = some (.bool bx) := hBO5.cell hbx
            have f0 : w5.frozen? ⟨w3.heap.size, i', none⟩ = false := hBO5.free _
            have HBO6 : Hid (BoB (w5.setCell ⟨w3.heap.size, i', none⟩ (.bool wv)) w3.heap.size (L.set i' wv)) := Lib.hid (hBO5.set_ i' wv)
            have HB6 : Hid (Below w3.heap.size w3 (w5.setCell ⟨w3.heap.size, i', none⟩ (.bool wv))) := Lib.hid (HB5.out.setCell (Nat.le_refl _) _)
            have hw1 : IntKind.i64.wrap ((i' : Int) + 1) = ((i' + 1 : Nat) : Int) := by rw [IntWalk.i64_in _ (by omega)]; omega
            clear hb5 hBO5 hbx KW q0 q1 q2 k5
            go_upto_region 15 with fail
            generalize hw6 : w5.setCell ⟨w3.heap.size, i', none⟩ (.bool wv) = w6 at *
            clear hw6 d0 f0 hw1 HB5
            have HLS : Hid (L.drop (i' + 1) = broughtM dir (d1.waits.drop (i' + 1))) := Lib.hid HL.out.2
            have HLN : Hid (L.length = n) := Lib.hid HL.out.1
            have HDRP : Hid (d1.waits.drop i' = x :: d1.waits.drop (i' + 1)) := Lib.hid (by
              obtain ⟨h1, h2⟩ := List.getElem?_eq_some_iff.1 HX.out
              rw [List.drop_eq_getElem_cons h1, h2])
            obtain ⟨m, hm⟩ : ∃ m, m + (i' + 1) = n := ⟨n - (i' + 1), by omega⟩
            have HM := Lib.hid hm
            clear hm HBO HL hsz
            go_loopg [9, 10] m (fun k s9 s10 wr => ∃ j : Nat, s9 = .int .i64 ((i' + 1 + j : Nat) : Int) ∧ j + k = m ∧ Hid (BoB wr w3.heap.size (L.set i' (bvM x dir (d1.waits.drop (i' + 1)) j))) ∧ Hid (Below w3.heap.size w3 wr))
            case atStart => exact ⟨0, rfl, by omega, by rw [bvM_zero, HWV.out]; exact HBO6, HB6⟩
            case round =>
              obtain ⟨j, rfl, hj, HBO, HBL⟩ := hrel
              obtain ⟨k5, hrow⟩ := HAT.out _ HBL.out
              obtain ⟨t, ht⟩ : ∃ t, i' + 1 + j = t := ⟨_, rfl⟩
              have HT := Lib.hid ht
              rw [ht]
              clear ht
              by_cases hlt : j < m
              · have htn : t < n := by have := HT.out; have := HM.out; omega
                have hlt1 : (t : Int) < (n : Int) := by omega
                obtain ⟨y, hy⟩ : ∃ y, d1.waits[t]? = some y := ⟨_, List.getElem?_eq_getElem (by rw [← HN.out]; exact htn)⟩
                obtain ⟨b1, o1, e1, x0, x1, x2, -⟩ := hrow i' x HX.out
                cases e1
                obtain ⟨b1, o1, e1, y0, y1, y2, -⟩ := hrow t y hy
                cases e1
                have KSH := Lib.hid (rshare_walk x y wr.drew)
                have HY : Hid ((d1.waits.drop (i' + 1))[j]? = some y) := Lib.hid (by rw [List.getElem?_drop, HT.out]; exact hy)
                obtain ⟨v1, hv1⟩ : ∃ v1, (broughtM dir (d1.waits.drop (i' + 1)))[j]? = some v1 := ⟨_, List.getElem?_eq_getElem (by rw [brought_len, List.length_drop, ← HN.out]; have := HM.out; omega)⟩
                have HV1 := Lib.hid hv1
                obtain ⟨v0, hv0⟩ : ∃ v0, bvM x dir (d1.waits.drop (i' + 1)) j = v0 := ⟨_, rfl⟩
                have hsu : bvM x dir (d1.waits.drop (i' + 1)) (j + 1) = (v0 || (v1 && shareC x y)) := by rw [bvM_succ HY.out HV1.out, hv0]
                have HSU := Lib.hid hsu
                rw [hv0] at HBO
                have hat1 : (L.set i' v0)[t]? = some v1 := by
                  rw [List.getElem?_set_ne (by have := HT.out; omega)]
                  have h1 := HLS.out
                  rw [← h1, List.getElem?_drop, HT.out] at hv1
                  exact hv1
                have HAT1 := Lib.hid hat1
                obtain ⟨F, hF⟩ : ∃ F, shareC x y = F := ⟨_, rfl⟩
                rw [hF] at KSH HSU
                unfold fsV at KSH
                have k5d : wr.drew.cell? ⟨db, 5, none⟩ = some (.slice (some ⟨bb, off, none⟩) n c) := k5
                have x0d : wr.drew.cell? ⟨bb, off + i' * 4, none⟩ = some (.int .i64 x.kind) := x0
                have x1d : wr.drew.cell? ⟨bb, off + i' * 4 + 1, none⟩ = some (.string (bs x.fr)) := x1
                have x2d : wr.drew.cell? ⟨bb, off + i' * 4 + 2, none⟩ = some (.string (bs x.tt)) := x2
                have y0d : wr.drew.cell? ⟨bb, off + t * 4, none⟩ = some (.int .i64 y.kind) := y0
                have y1d : wr.drew.cell? ⟨bb, off + t * 4 + 1, none⟩ = some (.string (bs y.fr)) := y1
                have y2d : wr.drew.cell? ⟨bb, off + t * 4 + 2, none⟩ = some (.string (bs y.tt)) := y2
                have hw3 : IntKind.i64.wrap ((t : Int) + 1) = ((t + 1 : Nat) : Int) := by rw [IntWalk.i64_in _ (by omega)]; omega
                clear hrow hy hv1 hv0 hsu hat1 hF
                go_upto_region 17 with fail
                go_cut [10] from 67 to 83 (fun s10 wx => s10 = .bool F ∧ Hid (Below wr.heap.size wr wx))
                case first =>
                  go_region_law (refine step_calls rfl #[.tmp 74, .tmp 82] #[78, 78] (by rfl) Tryz.func102 (by kernel_rfl) (by kernel_rfl) #[.agg #[.int .i64 x.kind, .string (bs x.fr), .string (bs x.tt)], .agg #[.int .i64 y.kind, .string (bs y.fr), .string (bs y.tt)]] (by simp [Act.eval, Act.put]) KSH.out ?_; rintro e1 w7 ⟨rfl, hb7⟩; refine ⟨_, rfl, ?_⟩; have HB7 : Hid (Below wr.heap.size wr w7) := Lib.hid ⟨hb7.os, hb7.tape, hb7.output, hb7.size, hb7.block⟩; clear hb7)
                  all_goals
                    go_wp2_with fail
                    go_meet
                    case rel => exact ⟨rfl, HB7⟩
                case rest =>
                  obtain ⟨rfl, HBC⟩ := hcut
                  have HBO7 : Hid (BoB wc w3.heap.size (L.set i' v0)) := Lib.hid (HBO.out.keep HBC.out)
                  have HBL7 : Hid (Below w3.heap.size w3 wc) := Lib.hid (HBL.out.trans (HBC.out.mono HBL.out.size))
                  have z1 : wc.cell? ⟨w3.heap.size, t, none⟩ = some (.bool v1) := HBO7.out.cell HAT1.out
                  have z0 : wc.cell? ⟨w3.heap.size, i', none⟩ = some (.bool v0) := HBO7.out.cell (List.getElem?_set_self (by rw [HLN.out]; exact hin))
                  have zf : wc.frozen? ⟨w3.heap.size, i', none⟩ = false := HBO7.out.free _
                  clear k5 k5d x0 x1 x2 y0 y1 y2 x0d x1d x2d y0d y1d y2d KSH
                  cases v1 with
                  | false =>
                    go_wp2_with fail
                    go_roundg (gk - 1)
                    case rel => exact ⟨j + 1, by have := HT.out; go_num, by omega, Lib.hid (by rw [HSU.out, Bool.false_and, Bool.or_false]; exact HBO7.out), HBL7⟩
                    case measure => omega
                  | true =>
                    cases F with
                    | false =>
                      go_wp2_with fail
                      go_roundg (gk - 1)
                      case rel => exact ⟨j + 1, by have := HT.out; go_num, by omega, Lib.hid (by rw [HSU.out, Bool.and_false, Bool.or_false]; exact HBO7.out), HBL7⟩
                      case measure => omega
                    | true =>
                      go_wp2_with fail
                      go_roundg (gk - 1)
                      case rel => exact ⟨j + 1, by have := HT.out; go_num, by omega, Lib.hid (by
                        have h1 := HBO7.out.set_ i' true
                        rw [List.set_set] at h1
                        rw [HSU.out, Bool.true_and, Bool.or_true]
                        exact h1), Lib.hid (HBL7.out.setCell (Nat.le_refl _) _)⟩
                      case measure => omega
              · have hlt1 : ¬ (t : Int) < (n : Int) := by have := HT.out; have := HM.out; omega
                obtain rfl : j = m := by omega
                have hw3 : IntKind.i64.wrap ((i' : Int) - 1) = (i' : Int) - 1 := IntWalk.i64_in _ (by omega)
                clear hrow
                go_wp2_with fail
                go_roundg i'
                case rel => exact ⟨_, rfl, by omega, HBO, Lib.hid ⟨by rw [List.length_set]; exact HLN.out, by
                    rw [set_dropR _ _ _ (by rw [HLN.out]; exact hin), HDRP.out, bvM_full (k := j) (by rw [List.length_drop, ← HN.out]; have := HM.out; omega), HLS.out]⟩, HBL⟩
                case measure => omega
end
end Go.Proofs.YtbpooaicmjkemaaGreatDoor
