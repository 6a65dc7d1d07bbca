/-
  The walk of waybillref03's head. No condition but what the message is.
-/
import Derived.Test.YtfnhaddgdfkmcaaDoorRW
import Derived.Test.YtfnhaddgdfkmcaaDoorTabs
import Derived.Deep.CutBlock
import Derived.Deep.DeepCutAuto
namespace Go.Proofs.YtfnhaddgdfkmcaaDoor
open Go.RowKit Go.Sort
set_option linter.unusedVariables false

def mkB (p : Bool) (r : Rc) : UInt8 := if p then 80 else r.mark
/-- what follows the count, up to recipient d's mark -/
def hdR (p : Bool) : Nat → List Rc → List UInt8
  | _, [] => []
  | 0, _ :: _ => [114]
  | d + 1, r :: L => ([114, mkB p r] ++ textB r.to.data.toList) ++ hdR p d L
theorem hdR_plain : ∀ (L : List Rc) (d : Nat), L.length ≤ d → hdR true d L = recB L
  | [], 0, _ => rfl
  | [], _ + 1, _ => rfl
  | r :: L, 0, h => by simp at h
  | r :: L, d + 1, h => by rw [hdR, hdR_plain L d (by simpa using h)]; rfl
theorem hdR_mark : ∀ (L : List Rc) (d : Nat), L.length ≤ d → hdR false d L = recM L
  | [], 0, _ => rfl
  | [], _ + 1, _ => rfl
  | r :: L, 0, h => by simp at h
  | r :: L, d + 1, h => by rw [hdR, hdR_mark L d (by simpa using h)]; rfl
theorem hdR_at : ∀ (L : List Rc) (d n : Nat), d < L.length → (mksI n L)[d]? = some ((n : Int) + (hdR false d L).length)
  | [], _, _, h => by simp at h
  | r :: L, 0, n, h => rfl
  | r :: L, d + 1, n, h => by
    rw [mksI, List.getElem?_cons_succ, hdR_at L d _ (by simpa using h), hdR]
    simp only [List.length_append, List.length_cons, List.length_nil]
    congr 1; omega
def HeadAns (w : World) (m : Msg) (p : Bool) (d : Nat) (e : Ending) (w' : World) : Prop := ∃ v, e = .returned v ∧ OwnB w' w.heap.size 5 v (hdB m ++ hdR p d m.rcpts)

set_option maxRecDepth 100000 in
set_option maxHeartbeats 4000000 in
theorem head_walk (m : Msg) (A1 : Option Addr) (c1 : Nat) (A2 : Option Addr) (c2 : Nat) (d : Nat) (p : Bool) (w : World) (h : MsgAt w w.heap.size m A1 c1 A2 c2) (h200 : m.rcpts.length ≤ 200) (hd : d ≤ m.rcpts.length) :
    Calls Tryd.prog 21 #[.agg (mCells m A1 c1 A2 c2), .int .i64 d, .bool p] w fun e w' => Below w.heap.size w w' ∧ HeadAns w m p d e w' := by
  have HANS := Lib.hid (fun e w' => show (∃ v, e = .returned v ∧ OwnB w' w.heap.size 5 v (hdB m ++ hdR p d m.rcpts)) → HeadAns w m p d e w' from id)
  generalize hANS : HeadAns w m p d = ANS at *
  clear hANS
  have bc := bytes_const
  have hblk := Blk.new w 25 (mCells m A1 c1 A2 c2)
  generalize hw0 : w.alloc (.cells (mCells m A1 c1 A2 c2) 25) = w0 at hblk
  have hb0 : Below w.heap.size w w0 := by rw [← hw0]; exact (Below.refl _ _).alloc (Nat.le_refl _) _
  have hs0 : w0.heap.size = w.heap.size + 1 := by rw [← hw0]; simp
  have HB0 := Lib.hid hb0
  have HS0 := Lib.hid hs0
  have hl1 := h.l1
  have hm1 := h.m1
  have hsf := h.sf
  have ht0 := h.t0
  have ht1 := h.t1
  have HST := Lib.hid h.st
  have HRR := Lib.hid h.rr
  have HHL := Lib.hid (hdB_len m)
  have HD : Hid (hdB m = [] ++ ([87, 49, 59, 116] ++ numB m.time) ++ ([102] ++ textB m.frm.data.toList) ++ ([110] ++ numB (m.rcpts.length : Int))) := Lib.hid rfl
  have K : Hid (∀ w', Below w0.heap.size w0 w' → w'.cell? ⟨w.heap.size, 0, none⟩ = some (.int .i64 m.time) ∧ w'.cell? ⟨w.heap.size, 1, none⟩ = some (.string m.frm) ∧ w'.cell? ⟨w.heap.size, 2, none⟩ = some (.slice A1 m.rcpts.length c1) ∧ w'.cell? ⟨w.heap.size, 3, none⟩ = some (.slice A2 m.data.length c2)) :=
    Lib.hid fun w' hb => ⟨(hblk.keep hb).cell 0, (hblk.keep hb).cell 1, (hblk.keep hb).cell 2, (hblk.keep hb).cell 3⟩
  generalize hdB m = hdr at *
  obtain ⟨t, fr, L, da⟩ := m
  unfold mCells at *
  dsimp only at *
  have hb1 : Below w0.heap.size w0 (w0.alloc (.cells #[.int .u8 87, .int .u8 49, .int .u8 59] 5 (3, 4))) := (Below.refl _ _).alloc (Nat.le_refl _) _
  have hr1 : RB (w0.alloc (.cells #[.int .u8 87, .int .u8 49, .int .u8 59] 5 (3, 4))) (w0.heap.size + 1) (some ⟨w0.heap.size, 0, none⟩) [87, 49, 59] := RB.lit w0 _ _ _ [87, 49, 59] rfl
  have hs1 : (w0.alloc (.cells #[.int .u8 87, .int .u8 49, .int .u8 59] 5 (3, 4))).heap.size = w0.heap.size + 1 := by simp
  rw [← hs1] at hr1
  have HN1 := Lib.hid (rnm_full _ [87, 49, 59] 116 t _ hr1 (by decide) ht0 ht1 (by decide))
  obtain ⟨k0, k1, k2, k3⟩ := K.out _ hb1
  generalize hw1 : w0.alloc (.cells #[.int .u8 87, .int .u8 49, .int .u8 59] 5 (3, 4)) = w1 at *
  have HB1 := Lib.hid hb1
  have HS1 := Lib.hid hs1
  clear h hblk hb0 hs0 hb1 hr1 hs1
  go_enter Tryd.func21, Tryd.ntmps21
  go_wp2_with fail
  refine HN1.out.mono ?_
  rintro e w2 ⟨hb2, v2, rfl, ho2⟩
  have HB2 := Lib.hid (HB1.out.trans (hb2.mono HB1.out.size))
  obtain ⟨k0, k1, k2, k3⟩ := K.out w2 HB2.out
  have hs2 := hb2.size
  have HN2 := Lib.hid (rtx_walk w1.heap.size v2 _ 102 fr w2 ho2 hs2 hsf (by have := numB_len t; simp; omega))
  clear hb2 ho2 HN1
  go_wp2_with fail
  refine HN2.out.mono ?_
  rintro e w3 ⟨hb3, v3, rfl, ho3⟩
  have hw01 := HB1.out.size
  have HB3 := Lib.hid (HB2.out.trans (hb3.mono HB1.out.size))
  obtain ⟨k0, k1, k2, k3⟩ := K.out w3 HB3.out
  have hs3 := hb3.size
  have HN3 := Lib.hid (rnm_walk w1.heap.size v3 _ 110 (L.length : Int) w3 ho3 (Nat.le_trans hs2 hs3) (by omega) (by omega) (by have h1 := numB_len t; have h2 := textB_len fr.data.toList; simp; omega))
  clear hb3 ho3 HN2
  go_wp2_with fail
  refine HN3.out.mono ?_
  rintro e w4 ⟨hb4, v4, rfl, ho4⟩
  have HB4 := Lib.hid (HB3.out.trans (hb4.mono HB1.out.size))
  have HO4 : Hid (OwnB w4 w1.heap.size 5 v4 hdr) := Lib.hid (by rw [HD.out]; simpa using ho4)
  obtain ⟨k0, k1, k2, k3⟩ := K.out w4 HB4.out
  have hs4 := hb4.size
  clear hb4 ho4 HN3 HD hw1
  have hmxI : (L.length : Int) ≤ 200 := by omega
  go_wp2
  go_loopg [8, 7] L.length (fun k i bv wr => ∃ (j : Nat) (l : List UInt8), j + k = L.length ∧ j ≤ d ∧ i = .int .i64 j ∧ Hid (Below w0.heap.size w0 wr) ∧ w1.heap.size ≤ wr.heap.size ∧ Hid (OwnB wr w1.heap.size 5 bv l) ∧ l.length ≤ 1100000 * (j + 1) ∧
    Hid (l ++ hdR p (d - j) (L.drop j) = hdr ++ hdR p d L))
  case atStart => exact ⟨0, hdr, by omega, by omega, rfl, HB4, Nat.le_trans (Nat.le_trans hs2 hs3) hs4, HO4, by have := HHL.out; omega, Lib.hid (by rw [List.drop_zero]; rfl)⟩
  case round =>
    obtain ⟨j, l, hj, hjd, rfl, HB, hsr, HOW, hlb, HL⟩ := hrel
    obtain ⟨q0, q1, q2, q3⟩ := K.out wr HB.out
    by_cases hlt : j < L.length
    · obtain ⟨b, off, rfl, hB, hcell⟩ := (HRR.out.below (HB0.out.trans (HB.out.mono HB0.out.size))).at_ hlt
      obtain ⟨e1, e2⟩ := hcell j hlt
      have hst := HST.out _ (List.getElem_mem hlt)
      rw [List.drop_eq_getElem_cons hlt] at HL
      have hj1 : (j : Int) < (L.length : Int) := by omega
      clear hcell
      generalize L[j] = r at *
      obtain ⟨tx, mk⟩ := r
      dsimp only at *
      go_upto_region 9 with (at_builtin; go_loud (refine wpList_appB _ isU8 (.tmp 39) (.tmp 40) rfl rfl w1.heap.size rfl (HOW.out.alloc _) (k := [114]) _ _ rfl rfl (RB.one _ _ 114 _ rfl) (by simp; omega) (by simp; omega) ?_; intro v2 w2 ho2 hb2; have HO2 := Lib.hid ho2; clear ho2))
      have hs2 := hb2.size
      simp only [World.size_alloc] at hs2
      have hbA := ((Below.refl w1.heap.size wr).alloc hsr (.cells #[.int .u8 114] 5)).trans hb2
      have HBA := Lib.hid (HB.out.trans (hbA.mono (show w0.heap.size ≤ w1.heap.size by omega)))
      obtain ⟨q0, q1, q2, q3⟩ := K.out w2 HBA.out
      have z2 : w2.cell? ⟨b, off + j * 2 + 1, none⟩ = some (.int .u8 (mk.toNat : Int)) := (hbA.cell (p := ⟨b, off + j * 2 + 1, none⟩) (show b < w1.heap.size by have := HS0.out; omega)).trans e2
      have z1 : w2.cell? ⟨b, off + j * 2, none⟩ = some (.string tx) := (hbA.cell (p := ⟨b, off + j * 2, none⟩) (show b < w1.heap.size by have := HS0.out; omega)).trans e1
      have hsr2 : w1.heap.size ≤ w2.heap.size := by omega
      have hB1 : b < w1.heap.size := by have := HS0.out; omega
      by_cases hjd2 : j = d
      · have hl5 : Hid (l ++ [114] = hdr ++ hdR p d L) := Lib.hid (by rw [← HL.out, hjd2, Nat.sub_self]; rfl)
        subst hjd2
        clear hb2 hbA
        go_wp2
        go_ret
        refine ⟨HB0.out.trans (HBA.out.mono HB0.out.size), HANS.out _ _ ⟨_, rfl, ?_⟩⟩
        have := HO2.out
        rw [hl5.out] at this
        exact this.mono (by have := HS0.out; omega)
      · have hjd3 : j < d := by omega
        have hji : ((j : Int) == (d : Int)) = false := beq_eq_false_iff_ne.2 (by omega)
        have hk0 : 0 ≤ (mk.toNat : Int) := by omega
        have hk1 : (mk.toNat : Int) ≤ 255 := by have := mk.toNat_lt; omega
        rw [show d - j = (d - (j + 1)) + 1 by omega, hdR] at HL
        have hmkb : ∃ y : UInt8, y = mkB p ⟨tx, mk⟩ := ⟨_, rfl⟩
        have HT := Lib.hid (fun w' => rtext_any tx w' hst)
        have htl := textB_len tx.data.toList
        generalize textB tx.data.toList = tb at *
        generalize textE tx.data.toList = te at *
        clear hb2 hbA hjd2 hjd
        go_upto_if 52 with (fail)
        go_cut [9] from 53 to 53 (fun x wx => w2 = wx ∧ x = .int .u8 ((mkB p ⟨tx, mk⟩).toNat : Int))
        case first =>
          cases p
          all_goals
            go_wp2
            all_goals
              go_meet
              exact ⟨rfl, rfl⟩
        case rest =>
          obtain ⟨rfl, rfl⟩ := hcut
          generalize mkB p ⟨tx, mk⟩ = mb at *
          have hk2 : 0 ≤ (mb.toNat : Int) := by omega
          have hk3 : (mb.toNat : Int) ≤ 255 := by have := mb.toNat_lt; omega
          go_wp2_with (first
            | (at_builtin; refine wpList_appB _ isU8 (.tmp 53) (.tmp 55) rfl rfl w1.heap.size rfl (HO2.out.alloc _) (k := [mb]) _ _ rfl rfl (RB.one _ _ mb _ (by rfl)) (by simp; omega) (by simp; omega) ?_; intro v3 w3 ho3 hb3; have HO3 := Lib.hid ho3; clear ho3; have hb3' := ((Below.refl w1.heap.size w2).alloc hsr2 (.cells #[.int .u8 (mb.toNat : Int)] 5)).trans hb3; have HB3 := Lib.hid hb3; have HB33 := Lib.hid (HBA.out.trans (hb3'.mono (show w0.heap.size ≤ w1.heap.size by omega))); obtain ⟨q0, q1, q2, q3⟩ := K.out w3 HB33.out; have z3 : w3.cell? ⟨b, off + j * 2, none⟩ = some (.string tx) := (hb3'.cell (p := ⟨b, off + j * 2, none⟩) hB1).trans z1; clear hb3 hb3')
            | (go_at_call 45; refine (HT.out _).mono ?_; rintro e w5 ⟨hb5, v5, rfl, ho5⟩; obtain ⟨A5, c5, rfl, -, -, hr5⟩ := RB.ofOut ho5; have HR5 := Lib.hid hr5; have HO5 := Lib.hid (HO3.out.below hb5); have HB5 := Lib.hid hb5; have HS5 : Hid (w1.heap.size ≤ w5.heap.size) := Lib.hid (by have q1 := hb5.size; have q2 := HB3.out.size; simp only [World.size_alloc] at q2; omega); clear hr5 ho5 hb5)
            | (at_builtin; go_loud (refine wpList_appB _ isU8 (.tmp 67) (.tmp 68) rfl rfl w1.heap.size rfl HO5.out _ _ rfl rfl HR5.out (by simp; omega) HS5.out ?_; intro v6 w6 ho6 hb6; have HO6 := Lib.hid ho6; clear ho6; have HB6 := Lib.hid hb6; clear hb6)))
          have hs36 : w1.heap.size ≤ w3.heap.size := by have q2 := HB3.out.size; simp only [World.size_alloc] at q2; omega
          go_roundg (gk - 1)
          case rel =>
            refine ⟨j + 1, l ++ ([114, mb] ++ tb), by omega, by omega, by go_num, Lib.hid ?_, Nat.le_trans HS5.out HB6.out.size, Lib.hid ?_, ?_, Lib.hid ?_⟩
            · exact HB33.out.trans ((HB5.out.mono (show w0.heap.size ≤ w3.heap.size by omega)).trans (HB6.out.mono (show w0.heap.size ≤ w1.heap.size by omega)))
            · have := HO6.out
              simpa using this
            · simp only [List.length_append, List.length_cons, List.length_nil]; omega
            · rw [← HL.out]; simp
          case measure => omega
    · have hj1 : (L.length : Int) ≤ (j : Int) := by omega
      have hfin : Hid (l = hdr ++ hdR p d L) := Lib.hid (by
        rw [← HL.out, List.drop_eq_nil_of_le (by omega)]
        cases (d - j) <;> simp [hdR])
      go_wp2
      go_ret
      refine ⟨HB0.out.trans (HB.out.mono HB0.out.size), HANS.out _ _ ⟨_, rfl, ?_⟩⟩
      have := HOW.out
      rw [hfin.out] at this
      exact this.mono (by have := HS0.out; omega)
end Go.Proofs.YtfnhaddgdfkmcaaDoor
