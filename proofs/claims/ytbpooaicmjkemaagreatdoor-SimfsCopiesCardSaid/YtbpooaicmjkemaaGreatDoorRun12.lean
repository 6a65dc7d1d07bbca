/-
  Several texts in one (merge.py): SfDid, SfRTx, SfRNm. Conditions: each part names its own.
-/
import Derived.Test.YtbpooaicmjkemaaGreatDoorRun11
/-! The walk of the document's did: entries behind an entry change. Conditions: the lengths. -/
namespace Go.Proofs.YtbpooaicmjkemaaGreatDoor
open Go.RowKit Go.Maps
set_option linter.unusedVariables false
def rcV (x : Ch) : List Value := [.int .i64 x.kind, .string (bs x.fr), .string (bs x.tt), .int .i64 (x.node : Int)]
theorem En_in {L : Es} (hs : sortE L) {p : Tx} {m : Nat} (hg : getE L p = some m) : plE L p < L.length ∧ L[plE L p]? = some (p, m) := by
  have h := (pl_split hs p).2
  rw [hg] at h
  exact ⟨(List.getElem?_eq_some_iff.1 h.1).1, h.1⟩
theorem REn.at_ {w : World} {A : Option Addr} {L : Es} (h : REn w A L) {i : Nat} {e : Tx × Nat} (he : L[i]? = some e) : ∃ b off, A = some ⟨b, off, none⟩ ∧ b < w.heap.size ∧ w.cell? ⟨b, off + i * 2, none⟩ = some (.string (bs e.1)) ∧ w.cell? ⟨b, off + i * 2 + 1, none⟩ = some (.int .i64 (e.2 : Int)) := by
  rcases h with rfl | ⟨b, off, h1, h2, h3⟩
  · cases he
  · exact ⟨b, off, h1, h2, (h3 i e he).1, (h3 i e he).2⟩
set_option maxRecDepth 100000 in
set_option maxHeartbeats 2000000 in
theorem did_walk (w : World) (A A0 : Option Addr) (n c : Nat) (L : Es) (x : Ch) (hA0 : A0 = A ∨ L = []) (hs : sortE L) (hr : REn w A L) (hn : n = L.length) (hc : n ≤ c) (hcm : c ≤ maxLen) (hm : n ≤ 1000000) :
    Calls Tryz.prog 121 #[.slice A n c, .agg (rcV x).toArray] w (EnPost w A0 (didE L x)) := by
  have HA := Lib.hid hA0
  clear hA0
  have HB0 := Lib.hid ((Below.refl w.heap.size w).alloc (Nat.le_refl _) (.cells (rcV x).toArray 130))
  have HX0 := Lib.hid (Blk.new w 130 (rcV x).toArray)
  have HS := Lib.hid hs
  have HR := Lib.hid hr
  have HN := Lib.hid hn
  have HCM := Lib.hid hcm
  obtain ⟨kk, fr, tt, nd⟩ := x
  unfold rcV at HB0 HX0 ⊢
  clear hs hr hn hcm
  go_enter Tryz.func121, Tryz.ntmps121
  go_upto_region 1 with fail
  have hBx : Blk (w.alloc (.cells #[.int .i64 kk, .string (bs fr), .string (bs tt), .int .i64 (nd : Int)] 130)) w.heap.size 130 #[.int .i64 kk, .string (bs fr), .string (bs tt), .int .i64 (nd : Int)] := HX0.out
  have hB1 : Below w.heap.size w (w.alloc (.cells #[.int .i64 kk, .string (bs fr), .string (bs tt), .int .i64 (nd : Int)] 130)) := HB0.out
  have hsz : (w.alloc (.cells #[.int .i64 kk, .string (bs fr), .string (bs tt), .int .i64 (nd : Int)] 130)).heap.size = w.heap.size + 1 := by simp
  clear HB0 HX0
  generalize w.alloc (.cells #[.int .i64 kk, .string (bs fr), .string (bs tt), .int .i64 (nd : Int)] 130) = w1 at *
  have x0 : w1.cell? ⟨w.heap.size, 0, none⟩ = some (.int .i64 kk) := hBx.cell 0
  have x1 : w1.cell? ⟨w.heap.size, 1, none⟩ = some (.string (bs fr)) := hBx.cell 1
  have x2 : w1.cell? ⟨w.heap.size, 2, none⟩ = some (.string (bs tt)) := hBx.cell 2
  have x3 : w1.cell? ⟨w.heap.size, 3, none⟩ = some (.int .i64 (nd : Int)) := hBx.cell 3
  have HBX := Lib.hid hBx
  have HB1 := Lib.hid hB1
  have HSZ := Lib.hid hsz
  clear hBx hB1 hsz
  by_cases h1 : kk = 1
  · subst h1
    have KP := Lib.hid (put_walk w1 A n c L tt nd HS.out (HR.out.below HB1.out) HN.out hc HCM.out hm)
    go_wp2_with fail
    refine KP.out.mono ?_
    rintro e w2 hp
    have HP : Hid (EnPost w A0 (putE L tt nd) e w2) := Lib.hid (hp.from HB1.out).wide
    obtain ⟨hb, A2, n2, c2, rfl, h3, h4, h5, h6, h7⟩ := hp
    clear hb h3 h4 h5 h6 h7 KP
    go_wp2_with fail
    go_ret
    exact HP.out
  by_cases h3 : kk = 3
  · subst h3
    clear h1
    have KP := Lib.hid (drop_walk w1 A n c L fr HS.out (HR.out.below HB1.out) HN.out hc HCM.out hm)
    go_wp2_with fail
    refine KP.out.mono ?_
    rintro e w2 hp
    have HP : Hid (EnPost w A0 (dropE L fr) e w2) := Lib.hid (by
      obtain ⟨hb, A2, n2, c2, h2, h3, h4, h5, h6, h7⟩ := hp
      refine ⟨HB1.out.trans (hb.mono HB1.out.size), A2, n2, c2, h2, h3, h4, h5, h6, fun b off e h => ?_⟩
      rcases HA.out with h8 | h8
      · rw [h8]; exact (h7 b off e h).imp (fun h => Nat.le_trans HB1.out.size h) id
      · rw [h8] at h3; simp [dropE] at h3; omega)
    obtain ⟨hb, A2, n2, c2, rfl, h3, h4, h5, h6, h7⟩ := hp
    clear hb h3 h4 h5 h6 h7 KP
    go_wp2_with fail
    go_ret
    exact HP.out
  · have KP := Lib.hid (place_walk w1 A n c L fr (HR.out.below HB1.out) HN.out hm)
    have HD : Hid (didE L ⟨kk, fr, tt, nd⟩ = match getE L fr with
      | none => L
      | some n => putE (dropE L fr) tt n) := Lib.hid (by
        unfold didE
        rw [if_neg h1, if_neg h3]
        show (match getE L fr with
          | none => L
          | some n => putE (dropE L fr) tt n) = _
        cases getE L fr <;> rfl)
    rw [atE_is HS.out] at KP
    cases hg : getE L fr with
    | none =>
      rw [hg] at HD KP
      simp only [Option.isSome_none] at KP
      clear hg
      go_upto_region 6 with fail
      go_wp2_with fail
      refine KP.out.mono ?_
      rintro e w2 ⟨rfl, q, rfl⟩
      clear KP
      go_wp2_with fail
      go_ret
      rw [HD.out]
      refine ⟨⟨HB1.out.os, HB1.out.tape, HB1.out.output, HB1.out.size, HB1.out.block⟩, A, n, c, rfl, HN.out, hc, HCM.out, (HR.out.below HB1.out).drewN q, fun b off e h0 => ?_⟩
      rcases HA.out with h8 | h8
      · rw [h8]; exact .inr ⟨off, e⟩
      · have := HN.out; rw [h8] at this; simp at this; omega
    | some m =>
      obtain ⟨hp1, hp2⟩ := En_in HS.out hg
      obtain ⟨b, off, rfl, hbl, -, c1⟩ := HR.out.at_ hp2
      obtain ⟨k, hk⟩ : ∃ k, plE L fr = k := ⟨_, rfl⟩
      rw [hg] at HD KP
      rw [hk] at KP hp1 c1
      simp only [Option.isSome_some] at KP
      have hkn : (k : Int) < (n : Int) := by have := HN.out; omega
      have c1' : w1.cell? ⟨b, off + k * 2 + 1, none⟩ = some (.int .i64 (m : Int)) := (HB1.out.cell (p := ⟨b, off + k * 2 + 1, none⟩) hbl).trans c1
      clear hg hp1 hp2 c1 hk
      go_upto_region 6 with fail
      go_wp2_with fail
      refine KP.out.mono ?_
      rintro e w2 ⟨rfl, q, rfl⟩
      have z1 : (w1.drewN q).cell? ⟨w.heap.size, 1, none⟩ = some (.string (bs fr)) := x1
      have z2 : (w1.drewN q).cell? ⟨w.heap.size, 2, none⟩ = some (.string (bs tt)) := x2
      have c1 : (w1.drewN q).cell? ⟨b, off + k * 2 + 1, none⟩ = some (.int .i64 (m : Int)) := c1'
      have HB2 : Hid (Below w.heap.size w (w1.drewN q)) := Lib.hid ⟨HB1.out.os, HB1.out.tape, HB1.out.output, HB1.out.size, HB1.out.block⟩
      have HBY : Hid (Blk (w1.drewN q) w.heap.size 130 #[.int .i64 kk, .string (bs fr), .string (bs tt), .int .i64 (nd : Int)]) := Lib.hid HBX.out
      clear KP x0 x1 x2 x3 c1' HBX HB1 HSZ
      generalize w1.drewN q = w2 at *
      have KD := Lib.hid (drop_walk w2 (some ⟨b, off, none⟩) n c L fr HS.out (HR.out.below HB2.out) HN.out hc HCM.out hm)
      go_wp2_with fail
      refine KD.out.mono ?_
      rintro e w3 ⟨hb3, A3, n3, c3, rfl, hn3, hc3, hm3, hr3, -⟩
      have y2 : w3.cell? ⟨w.heap.size, 2, none⟩ = some (.string (bs tt)) := (HBY.out.keep hb3).cell 2
      have hn3' : n3 ≤ 1000000 := by
        have := List.length_filter_le (fun e => decide (e.1 ≠ fr)) L
        have h4 := HN.out
        unfold dropE at hn3
        omega
      have KQ := Lib.hid (put_walk w3 A3 n3 c3 (dropE L fr) tt m (sort_dropE HS.out fr) hr3 hn3 hc3 hm3 hn3')
      have HB3 := Lib.hid (HB2.out.trans (hb3.mono HB2.out.size))
      clear hb3 hn3 hc3 hm3 hr3 hn3' KD z1 z2 c1
      go_wp2_with fail
      refine KQ.out.mono ?_
      rintro e w4 hp
      have HP : Hid (EnPost w A0 (putE (dropE L fr) tt m) e w4) := Lib.hid (hp.from HB3.out).wide
      obtain ⟨hb, A2, n2, c2, rfl, h3, h4, h5, h6, h7⟩ := hp
      clear hb h3 h4 h5 h6 h7 KQ
      go_wp2_with fail
      go_ret
      rw [HD.out]
      exact HP.out
end Go.Proofs.YtbpooaicmjkemaaGreatDoor

/-! The walks of the document's dirOf, isName, names, share, within. Condition: the texts' lengths. -/
namespace Go.Proofs.YtbpooaicmjkemaaGreatDoor
open Go.RowKit Go.Maps
set_option linter.unusedVariables false
theorem slash_here {p : Tx} {j : Nat} (h0 : ∀ i, i < j → p[i]? ≠ some 47) (h1 : p[j]? = some 47) : dirOf p = p.take j ∧ nameOf p = p.drop (j + 1) := by
  have hj := (List.getElem?_eq_some_iff.1 h1).1
  have e : p = p.take j ++ 47 :: p.drop (j + 1) := by
    conv => lhs; rw [← List.take_append_drop j p]
    rw [List.drop_eq_getElem_cons hj, (List.getElem?_eq_some_iff.1 h1).2]
  have hn : (47 : UInt8) ∉ p.take j := fun hm => by
    obtain ⟨i, hi⟩ := List.mem_iff_getElem?.1 hm
    have hij : i < j := by
      have := (List.getElem?_eq_some_iff.1 hi).1
      rw [List.length_take] at this
      omega
    rw [List.getElem?_take_of_lt hij] at hi
    exact h0 i hij hi
  have := dirOf_app (dir := p.take j) (t := p.drop (j + 1)) hn
  rw [← e] at this
  exact this
theorem slash_none {p : Tx} (h0 : ∀ i, i < p.length → p[i]? ≠ some 47) : dirOf p = [] ∧ nameOf p = [] := by
  have h : hasSlash p = false := by
    unfold hasSlash
    rw [← Bool.not_eq_true, List.contains_iff_mem]
    intro hm
    obtain ⟨i, hi⟩ := List.mem_iff_getElem?.1 hm
    exact h0 i (List.getElem?_eq_some_iff.1 hi).1 hi
  unfold dirOf nameOf
  rw [h]
  exact ⟨rfl, rfl⟩
set_option maxRecDepth 100000 in
set_option maxHeartbeats 2000000 in
theorem rdir_walk (p : Tx) (w : World) (hp : p.length ≤ maxLen) :
    Calls Tryz.prog 106 #[.string (bs p)] w fun e w' => e = .returned (.tuple #[.string (bs (dirOf p)), .string (bs (nameOf p))]) ∧ ∃ q, w' = w.drewN q := by
  unfold maxLen at hp
  obtain ⟨n, hn⟩ : ∃ n, p.length = n := ⟨_, rfl⟩
  rw [hn] at hp
  have HN := Lib.hid hn
  have hsz : (bs p).size = n := by rw [bs_size, hn]
  clear hn
  go_enter Tryz.func106, Tryz.ntmps106
  go_wp2_with fail
  go_loopg [4] n (fun k s4 wr => ∃ j : Nat, s4 = .int .i64 (j : Int) ∧ j + k = n ∧ Hid (∀ i, i < j → p[i]? ≠ some 47) ∧ wr = w)
  case atStart => exact ⟨0, rfl, by omega, Lib.hid (fun i hi => by omega), rfl⟩
  case round =>
    obtain ⟨j, rfl, hj, HNO, rfl⟩ := hrel
    by_cases hlt : j < n
    · have hlt1 : (j : Int) < (n : Int) := by omega
      obtain ⟨x, hx⟩ : ∃ x, p[j]? = some x := ⟨_, List.getElem?_eq_getElem (by rw [HN.out]; exact hlt)⟩
      have hjs : j < (bs p).size := by rw [hsz]; exact hlt
      have hxe : (bs p)[j]'hjs = x := (bs_get p j hjs (by rw [HN.out]; exact hlt)).trans (List.getElem?_eq_some_iff.1 hx).2
      have hj1 : (j : Int) + 1 ≤ (n : Int) := by omega
      by_cases h47 : x = 47
      · have hq : (((((bs p)[j]'hjs).toNat : Nat) : Int) == 47) = true := by rw [hxe, h47]; rfl
        rw [h47] at hx
        have HE := Lib.hid (slash_here HNO.out hx)
        clear hx hxe h47 HNO
        have hjc : (j : Int) ≤ (n : Int) := by omega
        go_upto_region 5 with fail
        go_quiet (fail)
        go_wp2_with fail
        go_ret2
        refine ⟨?_, _, rfl⟩
        rw [HE.out.1, HE.out.2, ← bs_take, ← bs_drop]
        congr 1
        simp
        rw [hsz]
      · have hq : (((((bs p)[j]'hjs).toNat : Nat) : Int) == 47) = false := by
          rw [hxe]
          refine beq_eq_false_iff_ne.2 fun e => h47 (UInt8.toNat_inj.1 ?_)
          have : x.toNat = 47 := by omega
          rw [this]; rfl
        have HNO2 : Hid (∀ i, i < j + 1 → p[i]? ≠ some 47) := Lib.hid fun i hi => by
          by_cases hij : i = j
          · rw [hij, hx]; exact fun e => h47 (by injection e)
          · exact HNO.out i (by omega)
        clear hx hxe h47 HNO
        go_wp2_with fail
        go_roundg (gk - 1)
        case rel => exact ⟨j + 1, by go_num, by omega, HNO2, rfl⟩
        case measure => omega
    · have hlt1 : ¬ (j : Int) < (n : Int) := by omega
      obtain rfl : j = n := by omega
      have HE := Lib.hid (slash_none (p := p) (by rw [HN.out]; exact HNO.out))
      go_wp2_with fail
      go_ret2
      rw [HE.out.1, HE.out.2]
      exact ⟨rfl, 0, rfl⟩
/-! ### the entry changes' paths -/
def fsV (x : Ch) : Value := .agg #[.int .i64 x.kind, .string (bs x.fr), .string (bs x.tt)]
set_option maxRecDepth 100000 in
set_option maxHeartbeats 2000000 in
theorem rwithin_walk (x : Ch) (dir : Tx) (w : World) (h1 : x.fr.length ≤ maxLen) (h2 : x.tt.length ≤ maxLen) :
    Calls Tryz.prog 101 #[fsV x, .string (bs dir)] w fun e w' => e = .returned (.bool (withinC x dir)) ∧ Below w.heap.size w w' := by
  have HB0 := Lib.hid ((Below.refl w.heap.size w).alloc (Nat.le_refl _) (.cells #[.int .i64 x.kind, .string (bs x.fr), .string (bs x.tt)] 78))
  have HX0 := Lib.hid (Blk.new w 78 #[.int .i64 x.kind, .string (bs x.fr), .string (bs x.tt)])
  unfold fsV
  go_enter Tryz.func101, Tryz.ntmps101
  go_upto_region 1 with fail
  generalize w.alloc (.cells #[.int .i64 x.kind, .string (bs x.fr), .string (bs x.tt)] 78) = w1 at *
  have x1 : w1.cell? ⟨w.heap.size, 1, none⟩ = some (.string (bs x.fr)) := HX0.out.cell 1
  have K1 := Lib.hid (rdir_walk x.fr w1 h1)
  go_wp2_with fail
  refine K1.out.mono ?_
  rintro e w2 ⟨rfl, q, rfl⟩
  have x2 : (w1.drewN q).cell? ⟨w.heap.size, 2, none⟩ = some (.string (bs x.tt)) := HX0.out.cell 2
  have HB2 : Hid (Below w.heap.size w (w1.drewN q)) := Lib.hid (by have h := HB0.out; exact ⟨h.os, h.tape, h.output, h.size, h.block⟩)
  clear x1 K1 HB0 HX0
  generalize w1.drewN q = w2 at *
  have K2 := Lib.hid (rdir_walk x.tt w2 h2)
  go_wp2_with fail
  refine K2.out.mono ?_
  rintro e w3 ⟨rfl, q3, rfl⟩
  have HB3 : Hid (Below w.heap.size w (w2.drewN q3)) := Lib.hid (by have h := HB2.out; exact ⟨h.os, h.tape, h.output, h.size, h.block⟩)
  clear x2 K2 HB2
  generalize w2.drewN q3 = w3 at *
  obtain ⟨B1, hB1⟩ : ∃ B, B = decide (dirOf x.fr = dir) := ⟨_, rfl⟩
  obtain ⟨B2, hB2⟩ : ∃ B, B = decide (dirOf x.tt = dir) := ⟨_, rfl⟩
  have HW : Hid (withinC x dir = (B1 || B2)) := Lib.hid (by rw [hB1, hB2]; rfl)
  have q1 : ((bs (dirOf x.fr)).toList == (bs dir).toList) = B1 := by rw [bs_eqB, hB1]
  have q2 : ((bs (dirOf x.tt)).toList == (bs dir).toList) = B2 := by rw [bs_eqB, hB2]
  clear hB1 hB2
  cases B1 <;> cases B2
  all_goals
    go_wp2_with fail
    go_ret
    rw [HW.out]
    exact ⟨rfl, HB3.out⟩
set_option maxRecDepth 100000 in
set_option maxHeartbeats 2000000 in
theorem rnames_walk (x : Ch) (p : Tx) (w : World) :
    Calls Tryz.prog 123 #[fsV x, .string (bs p)] w fun e w' => e = .returned (.bool (namesC x p)) ∧ Below w.heap.size w w' := by
  have HB0 := Lib.hid ((Below.refl w.heap.size w).alloc (Nat.le_refl _) (.cells #[.int .i64 x.kind, .string (bs x.fr), .string (bs x.tt)] 78))
  have HX0 := Lib.hid (Blk.new w 78 #[.int .i64 x.kind, .string (bs x.fr), .string (bs x.tt)])
  obtain ⟨P, hP⟩ : ∃ P, P = bs p := ⟨_, rfl⟩
  rw [← hP]
  obtain ⟨B1, hB1⟩ : ∃ B, B = decide (x.fr = p) := ⟨_, rfl⟩
  obtain ⟨B2, hB2⟩ : ∃ B, B = decide (x.tt = p) := ⟨_, rfl⟩
  have HW : Hid (namesC x p = (decide (p ≠ []) && (B1 || B2))) := Lib.hid (by rw [hB1, hB2]; rfl)
  have q1 : ((bs x.fr).toList == P.toList) = B1 := by rw [hP, bs_eqB, hB1]
  have q2 : ((bs x.tt).toList == P.toList) = B2 := by rw [hP, bs_eqB, hB2]
  clear hB1 hB2
  unfold fsV
  by_cases h0 : p = []
  · rw [h0] at hP
    obtain rfl : P = ⟨#[]⟩ := hP
    have HW2 : Hid (namesC x p = false) := Lib.hid (by rw [HW.out, h0]; rfl)
    clear HW q1 q2 h0
    go_enter Tryz.func123, Tryz.ntmps123
    go_upto_region 1 with fail
    generalize w.alloc (.cells #[.int .i64 x.kind, .string (bs x.fr), .string (bs x.tt)] 78) = w1 at *
    go_wp2_with fail
    go_ret
    rw [HW2.out]
    exact ⟨rfl, HB0.out⟩
  · have hn1 : ¬ P.toList = [] := by rw [hP, bs_nil]; exact h0
    have hn2 : (P.toList == []) = false := beq_eq_false_iff_ne.2 hn1
    have HW2 : Hid (namesC x p = (B1 || B2)) := Lib.hid (by rw [HW.out, decide_eq_true h0, Bool.true_and])
    clear HW hP h0
    go_enter Tryz.func123, Tryz.ntmps123
    go_upto_region 1 with fail
    generalize w.alloc (.cells #[.int .i64 x.kind, .string (bs x.fr), .string (bs x.tt)] 78) = w1 at *
    have x1 : w1.cell? ⟨w.heap.size, 1, none⟩ = some (.string (bs x.fr)) := HX0.out.cell 1
    have x2 : w1.cell? ⟨w.heap.size, 2, none⟩ = some (.string (bs x.tt)) := HX0.out.cell 2
    cases B1 <;> cases B2
    all_goals
      go_wp2_with fail
      go_ret
      rw [HW2.out]
      exact ⟨rfl, HB0.out⟩
set_option maxRecDepth 100000 in
set_option maxHeartbeats 2000000 in
theorem rshare_walk (a b : Ch) (w : World) :
    Calls Tryz.prog 102 #[fsV a, fsV b] w fun e w' => e = .returned (.bool (shareC a b)) ∧ Below w.heap.size w w' := by
  obtain ⟨wa, hwa⟩ : ∃ wa, wa = w.alloc (.cells #[.int .i64 a.kind, .string (bs a.fr), .string (bs a.tt)] 78) := ⟨_, rfl⟩
  obtain ⟨wb, hwb⟩ : ∃ wb, wb = wa.alloc (.cells #[.int .i64 b.kind, .string (bs b.fr), .string (bs b.tt)] 78) := ⟨_, rfl⟩
  have hs1 : wa.heap.size = w.heap.size + 1 := by rw [hwa]; simp
  have HA : Blk wa w.heap.size 78 #[.int .i64 a.kind, .string (bs a.fr), .string (bs a.tt)] := by rw [hwa]; exact Blk.new w _ _
  have HB : Blk wb (w.heap.size + 1) 78 #[.int .i64 b.kind, .string (bs b.fr), .string (bs b.tt)] := by rw [hwb, ← hs1]; exact Blk.new wa _ _
  have HA2 : Blk wb w.heap.size 78 #[.int .i64 a.kind, .string (bs a.fr), .string (bs a.tt)] := by rw [hwb]; exact HA.alloc _
  have HAH := Lib.hid HA2
  have HBH := Lib.hid HB
  have HBL : Hid (Below w.heap.size w wb) := Lib.hid (by
    rw [hwb]
    have h1 : Below w.heap.size w wa := by rw [hwa]; exact (Below.refl w.heap.size w).alloc (Nat.le_refl _) _
    exact h1.alloc h1.size _)
  clear HA HB HA2
  have K1 := Lib.hid (rnames_walk a b.fr wb)
  unfold fsV at K1 ⊢
  go_enter Tryz.func102, Tryz.ntmps102
  go_upto_region 1 with fail
  rw [← hwa, ← hwb]
  clear hwa hwb hs1
  have a0 : wb.cell? ⟨w.heap.size, 0, none⟩ = some (.int .i64 a.kind) := HAH.out.cell 0
  have a1 : wb.cell? ⟨w.heap.size, 1, none⟩ = some (.string (bs a.fr)) := HAH.out.cell 1
  have a2 : wb.cell? ⟨w.heap.size, 2, none⟩ = some (.string (bs a.tt)) := HAH.out.cell 2
  have b1 : wb.cell? ⟨w.heap.size + 1, 1, none⟩ = some (.string (bs b.fr)) := HBH.out.cell 1
  go_wp2_with fail
  refine K1.out.mono ?_
  rintro e w2 ⟨rfl, hb2⟩
  have HB2 := Lib.hid (HBL.out.trans (hb2.mono HBL.out.size))
  have hA2 := HAH.out.keep hb2
  have hB2 := HBH.out.keep hb2
  clear a0 a1 a2 b1 K1 hb2
  have a0 : w2.cell? ⟨w.heap.size, 0, none⟩ = some (.int .i64 a.kind) := hA2.cell 0
  have a1 : w2.cell? ⟨w.heap.size, 1, none⟩ = some (.string (bs a.fr)) := hA2.cell 1
  have a2 : w2.cell? ⟨w.heap.size, 2, none⟩ = some (.string (bs a.tt)) := hA2.cell 2
  have b2 : w2.cell? ⟨w.heap.size + 1, 2, none⟩ = some (.string (bs b.tt)) := hB2.cell 2
  clear hA2 hB2
  have K2 := Lib.hid (rnames_walk a b.tt w2)
  unfold fsV at K2
  go_wp2_with fail
  refine K2.out.mono ?_
  rintro e w3 ⟨rfl, hb3⟩
  have HB3 := Lib.hid (HB2.out.trans (hb3.mono HB2.out.size))
  have HW : Hid (shareC a b = (namesC a b.fr || namesC a b.tt)) := Lib.hid rfl
  clear a0 a1 a2 b2 K2 hb3
  generalize namesC a b.fr = B1 at *
  generalize namesC a b.tt = B2 at *
  cases B1 <;> cases B2
  all_goals
    go_wp2_with fail
    go_ret
    rw [HW.out]
    exact ⟨rfl, HB3.out⟩
end Go.Proofs.YtbpooaicmjkemaaGreatDoor

/-! The walks of the document's isName, isDir, may. Condition: the texts' lengths. -/
namespace Go.Proofs.YtbpooaicmjkemaaGreatDoor
open Go.RowKit Go.Maps
set_option linter.unusedVariables false
def okN (n : Nat) : Bool := decide (97 ≤ n ∧ n ≤ 122) || decide (65 ≤ n ∧ n ≤ 90) || decide (48 ≤ n ∧ n ≤ 57) || decide (n = 45) || decide (n = 95) || decide (n = 46)
theorem ok_all : ((List.range 256).all fun n => cs65.contains (UInt8.ofNat n) == okN n) = true := by kernel_rfl
theorem ok_is (c : UInt8) : cs65.contains c = okN c.toNat := by
  have h := List.all_eq_true.1 ok_all c.toNat (List.mem_range.2 c.toNat_lt)
  have h2 := eq_of_beq h
  rwa [UInt8.ofNat_toNat] at h2
set_option maxRecDepth 100000 in
set_option maxHeartbeats 2000000 in
theorem rname_walk (p : Tx) (w : World) (hp : p.length ≤ maxLen) :
    Calls Tryz.prog 92 #[.string (bs p)] w fun e w' => e = .returned (.bool (nameB p)) ∧ w' = w := by
  unfold maxLen at hp
  obtain ⟨n, hn⟩ : ∃ n, p.length = n := ⟨_, rfl⟩
  rw [hn] at hp
  have HN := Lib.hid hn
  have hsz : (bs p).size = n := by rw [bs_size, hn]
  have HB : Hid (nameB p = (decide (1 ≤ n) && decide (n ≤ 32) && p.all (cs65.contains ·))) := Lib.hid (by unfold nameB; rw [hn])
  clear hn
  by_cases h0 : 1 ≤ n ∧ n ≤ 32
  · obtain ⟨g1, g2⟩ := h0
    have hi1 : ¬ (n : Int) < 1 := by omega
    have hi2 : ¬ (n : Int) > 32 := by omega
    have HB2 : Hid (nameB p = p.all (cs65.contains ·)) := Lib.hid (by rw [HB.out, decide_eq_true g1, decide_eq_true g2]; simp)
    clear HB
    go_enter Tryz.func92, Tryz.ntmps92
    go_upto_region 4 with fail
    go_loopg [3] n (fun k s3 wr => ∃ j : Nat, s3 = .int .i64 (j : Int) ∧ j + k = n ∧ Hid (∀ i x, i < j → p[i]? = some x → cs65.contains x = true) ∧ wr = w)
    case atStart => exact ⟨0, rfl, by omega, Lib.hid (fun i x hi => by omega), rfl⟩
    case round =>
      obtain ⟨j, rfl, hj, HNO, rfl⟩ := hrel
      by_cases hlt : j < n
      · have hlt1 : (j : Int) < (n : Int) := by omega
        obtain ⟨x, hx⟩ : ∃ x, p[j]? = some x := ⟨_, List.getElem?_eq_getElem (by rw [HN.out]; exact hlt)⟩
        have hjs : j < (bs p).size := by rw [hsz]; exact hlt
        have hxe : (bs p)[j]'hjs = x := (bs_get p j hjs (by rw [HN.out]; exact hlt)).trans (List.getElem?_eq_some_iff.1 hx).2
        have HX := Lib.hid hx
        have HXE := Lib.hid hxe
        clear hx hxe
        go_upto_region 7 with fail
        generalize hv : ((((bs p)[j]'hjs).toNat : Nat) : Int) = v at *
        have hvx : (x.toNat : Int) = v := by rw [← hv, HXE.out]
        have hok : cs65.contains x = okN x.toNat := ok_is x
        clear hv
        by_cases hC : okN x.toNat = true
        · have HNO2 : Hid (∀ i y, i < j + 1 → p[i]? = some y → cs65.contains y = true) := Lib.hid fun i y hi hy => by
            by_cases hij : i = j
            · rw [hij, HX.out] at hy
              injection hy with hy
              rw [← hy, hok]; exact hC
            · exact HNO.out i y (by omega) hy
          have hcl : (97 ≤ v ∧ v ≤ 122) ∨ (65 ≤ v ∧ v ≤ 90) ∨ (48 ≤ v ∧ v ≤ 57) ∨ v = 45 ∨ v = 95 ∨ v = 46 := by
            unfold okN at hC
            simp only [Bool.or_eq_true, decide_eq_true_eq] at hC
            omega
          clear hvx hok hC HX HXE HNO
          rcases hcl with ⟨e1, e2⟩ | ⟨e1, e2⟩ | ⟨e1, e2⟩ | rfl | rfl | rfl
          all_goals
            go_wp2_with fail
            go_roundg (gk - 1)
            case rel => exact ⟨j + 1, by go_num, by omega, HNO2, rfl⟩
            case measure => omega
        · have HE : Hid (nameB p = false) := Lib.hid (by
            rw [HB2.out, ← Bool.not_eq_true, List.all_eq_true]
            intro h
            exact hC (hok ▸ h x (List.mem_of_getElem? HX.out)))
          have hcl : v < 45 ∨ v = 47 ∨ (58 ≤ v ∧ v ≤ 64) ∨ (91 ≤ v ∧ v ≤ 94) ∨ v = 96 ∨ 122 < v := by
            unfold okN at hC
            simp only [Bool.or_eq_true, decide_eq_true_eq, not_or] at hC
            omega
          clear hvx hok hC HX HXE HNO
          rcases hcl with e1 | rfl | ⟨e1, e2⟩ | ⟨e1, e2⟩ | rfl | e1
          all_goals
            go_wp2_with fail
            all_goals first
              | (go_ret; rw [HE.out]; exact ⟨rfl, rfl⟩)
              | (exfalso; simp only [Bool.not_eq_false', decide_eq_true_eq, beq_iff_eq] at *; omega)
      · have hlt1 : ¬ (j : Int) < (n : Int) := by omega
        obtain rfl : j = n := by omega
        have HE : Hid (nameB p = true) := Lib.hid (by
          rw [HB2.out, List.all_eq_true]
          intro x hx
          obtain ⟨i, hi⟩ := List.mem_iff_getElem?.1 hx
          exact HNO.out i x (by rw [← HN.out]; exact (List.getElem?_eq_some_iff.1 hi).1) hi)
        go_wp2_with fail
        go_ret
        rw [HE.out]
        exact ⟨rfl, rfl⟩
  · have HE : Hid (nameB p = false) := Lib.hid (by
      rw [HB.out]
      by_cases h1 : 1 ≤ n
      · have h2 : ¬ n ≤ 32 := fun h => h0 ⟨h1, h⟩
        rw [decide_eq_false h2]; simp
      · rw [decide_eq_false h1]; simp)
    have hcl : (n : Int) < 1 ∨ (1 ≤ (n : Int) ∧ 32 < (n : Int)) := by omega
    clear h0 HB
    rcases hcl with e1 | ⟨e1, e2⟩
    all_goals
      go_enter Tryz.func92, Tryz.ntmps92
      go_wp2_with fail
      go_ret
      rw [HE.out]
      exact ⟨rfl, rfl⟩
set_option maxRecDepth 100000 in
set_option maxHeartbeats 2000000 in
theorem risdir_walk (w : World) (db : Nat) (A : Option Addr) (n c : Nat) (L : List Tx) (hB : w.cell? ⟨db, 1, none⟩ = some (.slice A n c)) (hn : n = L.length) (hr : RSx w A L) (p : Tx) (hm : n ≤ 1000000) :
    Calls Tryz.prog 93 #[ptrV db, .string (bs p)] w fun e w' => e = .returned (.bool (L.contains p)) ∧ w' = w := by
  have HR := Lib.hid hr
  have HN := Lib.hid hn
  obtain ⟨R, hR⟩ : ∃ R, L.contains p = R := ⟨_, rfl⟩
  have HRR := Lib.hid hR
  rw [hR]
  clear hr hn hR
  unfold ptrV
  go_enter Tryz.func93, Tryz.ntmps93
  go_wp2_with fail
  go_loopg [5] n (fun k s5 wr => ∃ j : Nat, s5 = .int .i64 (j : Int) ∧ j + k = n ∧ Hid (∀ i x, i < j → L[i]? = some x → x ≠ p) ∧ wr = w)
  case atStart => exact ⟨0, rfl, by omega, Lib.hid (fun i x hi => by omega), rfl⟩
  case round =>
    obtain ⟨j, rfl, hj, HNO, rfl⟩ := hrel
    by_cases hlt : j < n
    · have hlt1 : (j : Int) < (n : Int) := by omega
      obtain ⟨x, hx⟩ : ∃ x, L[j]? = some x := ⟨_, List.getElem?_eq_getElem (by rw [← HN.out]; exact hlt)⟩
      obtain ⟨b, off, rfl, -, hc⟩ : ∃ b off, A = some ⟨b, off, none⟩ ∧ b < wr.heap.size ∧ ∀ i l, L[i]? = some l → wr.cell? ⟨b, off + i, none⟩ = some (.string (bs l)) := by
        rcases HR.out with h | h
        · rw [h] at hx; cases hx
        · exact h
      have c0 := hc j x hx
      have hq : ((bs x).toList == (bs p).toList) = decide (x = p) := bs_eqB
      by_cases he : x = p
      · rw [decide_eq_true he] at hq
        have HE : Hid (R = true) := Lib.hid (by rw [← HRR.out, List.contains_iff_mem]; exact he ▸ List.mem_of_getElem? hx)
        clear hc hx he
        go_wp2_with fail
        go_ret
        rw [HE.out]
        exact ⟨rfl, rfl⟩
      · rw [decide_eq_false he] at hq
        have HNO2 : Hid (∀ i y, i < j + 1 → L[i]? = some y → y ≠ p) := Lib.hid fun i y hi hy => by
          by_cases hij : i = j
          · rw [hij, hx] at hy
            injection hy with hy
            rw [← hy]; exact he
          · exact HNO.out i y (by omega) hy
        clear hc hx he HNO
        go_wp2_with fail
        go_roundg (gk - 1)
        case rel => exact ⟨j + 1, by go_num, by omega, HNO2, rfl⟩
        case measure => omega
    · have hlt1 : ¬ (j : Int) < (n : Int) := by omega
      obtain rfl : j = n := by omega
      have HE : Hid (R = false) := Lib.hid (by
        rw [← HRR.out, ← Bool.not_eq_true, List.contains_iff_mem]
        intro hx
        obtain ⟨i, hi⟩ := List.mem_iff_getElem?.1 hx
        exact HNO.out i p (by rw [HN.out]; exact (List.getElem?_eq_some_iff.1 hi).1) hi rfl)
      go_wp2_with fail
      go_ret
      rw [HE.out]
      exact ⟨rfl, rfl⟩
set_option maxRecDepth 100000 in
set_option maxHeartbeats 2000000 in
theorem rmay_walk (w : World) (db : Nat) (A : Option Addr) (n c : Nat) (L : List Tx) (hB : w.cell? ⟨db, 1, none⟩ = some (.slice A n c)) (hn : n = L.length) (hr : RSx w A L) (p : Tx) (hm : n ≤ 1000000) (hp : p.length ≤ maxLen) :
    Calls Tryz.prog 94 #[ptrV db, .string (bs p)] w fun e w' => e = .returned (.bool (mayB L p)) ∧ ∃ q, w' = w.drewN q := by
  have K1 := Lib.hid (rdir_walk p w hp)
  have K2 := Lib.hid (fun q => risdir_walk (w.drewN q) db A n c L hB hn hr (dirOf p) hm)
  have K3 := Lib.hid (fun q => rname_walk (nameOf p) (w.drewN q) (Nat.le_trans (nameOf_le p) hp))
  have HW : Hid (mayB L p = (L.contains (dirOf p) && nameB (nameOf p))) := Lib.hid rfl
  clear hB hn hr
  generalize L.contains (dirOf p) = B1 at *
  generalize nameB (nameOf p) = B2 at *
  unfold ptrV at K2 ⊢
  go_enter Tryz.func94, Tryz.ntmps94
  go_wp2_with fail
  refine K1.out.mono ?_
  rintro e w2 ⟨rfl, q, rfl⟩
  go_wp2_with fail
  refine (K2.out q).mono ?_
  rintro e w2 ⟨rfl, rfl⟩
  go_wp2_with fail
  refine (K3.out q).mono ?_
  rintro e w2 ⟨rfl, rfl⟩
  clear K1 K2 K3
  cases B1 <;> cases B2
  all_goals
    go_wp2_with fail
    go_ret
    rw [HW.out]
    exact ⟨rfl, q, rfl⟩
end Go.Proofs.YtbpooaicmjkemaaGreatDoor
