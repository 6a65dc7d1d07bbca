/-
  The walk of record's lay. No condition but what the message is.
-/
import Derived.Test.YtfnhaddgdfkmcaaDoorWr
import Derived.Test.YtfnhaddgdfkmcaaDoorMsg
import Derived.Test.YtfnhaddgdfkmcaaDoorPHex
import Derived.Deep.RegionLaw
import Derived.Deep.AppendLies
namespace Go.Proofs.YtfnhaddgdfkmcaaDoor
open Go.RowKit Go.Sort
set_option linter.unusedVariables false

theorem Pow10.keep {w w' : World} (h : Pow10 w) (hb : Below w.heap.size w w') : Pow10 w' := fun x hx => h x (hb.trans (hx.mono hb.size))
/-- the recipients' bytes, each mark a P; where the marks stand -/
def recB : List Rc → List UInt8
  | [] => []
  | r :: L => ([114, 80] ++ textB r.to.data.toList) ++ recB L
def mksI : Nat → List Rc → List Int
  | _, [] => []
  | n, r :: L => ((n : Int) + 1) :: mksI (n + ([114, 80] ++ textB r.to.data.toList).length) L
def hdB (m : Msg) : List UInt8 := [] ++ ([87, 49, 59, 116] ++ numB m.time) ++ ([102] ++ textB m.frm.data.toList) ++ ([110] ++ numB (m.rcpts.length : Int))
/-- all ahead of the sum -/
def layB (m : Msg) : List UInt8 := hdB m ++ recB m.rcpts ++ ([100] ++ textB m.data)
def LayAns (w : World) (m : Msg) (e : Ending) (w' : World) : Prop :=
  ∃ g, e = .returned (.pointer (some ⟨g, 0, none⟩)) ∧ w.heap.size ≤ g ∧ WrAt w' g (layB m) (mksI (hdB m).length m.rcpts)
theorem hdB_len (m : Msg) : (hdB m).length ≤ 1100000 := by
  unfold hdB
  have h1 := numB_len m.time
  have h2 := textB_len m.frm.data.toList
  have h3 := numB_len (m.rcpts.length : Int)
  simp only [List.length_append, List.length_cons, List.length_nil]
  omega

theorem ueI : UE Tryd.prog 51 3 := by
  obtain ⟨i, h1, h2, h3, h4⟩ := info_parts (show (Tryd.prog.info? 3).map (fun i => (i.zero, i.size, i.bytes)) = some (some (.int .i64 0), 1, 8) by kernel_rfl)
  exact ⟨Tryd.underlying51, i, _, h1, h2, rfl, h3, by omega⟩
theorem one_new (w : World) (E : TypeId) (x : Value) (g : Nat) (hg : w.heap.size = g) : ∀ j u, ([x] : List Value)[j]? = some u → (w.alloc (.cells #[x] E)).cell? (Addr.add ⟨g, 0, none⟩ j) = some u := by
  intro j u hu
  have hj : j = 0 := by
    have := (List.getElem?_eq_some_iff.1 hu).1
    simpa using this
  subst hj
  simp at hu
  subst hu
  rw [Addr.add_lit]
  exact cell_new w E x hg
theorem own_sl {w : World} {b E s n : Nat} {v : Value} {xs : List Value} (h : w.ownsRow b E s v n xs) : ∃ A n c, v = .slice A n c := by
  rcases h.2 with ⟨rfl, _⟩ | ⟨g, cap, cur, rfl, _⟩
  · exact ⟨_, _, _, rfl⟩
  · exact ⟨_, _, _, rfl⟩
set_option maxRecDepth 100000 in
set_option maxHeartbeats 4000000 in
theorem lay_walk (m : Msg) (A1 : Option Addr) (c1 : Nat) (A2 : Option Addr) (c2 : Nat) (w : World) (h : MsgAt w w.heap.size m A1 c1 A2 c2) (h200 : m.rcpts.length ≤ 200) (T : Pow10 w) :
    Calls Tryd.prog 24 #[.agg (mCells m A1 c1 A2 c2)] w fun e w' => Below w.heap.size w w' ∧ LayAns w m e w' := by
  have HANS := Lib.hid (fun e w' => show (∃ g, e = .returned (.pointer (some ⟨g, 0, none⟩)) ∧ w.heap.size ≤ g ∧ WrAt w' g (hdB m ++ recB m.rcpts ++ ([100] ++ textB m.data)) (mksI (hdB m).length m.rcpts)) → LayAns w m e w' from id)
  generalize hANS : LayAns w m = ANS at *
  clear hANS
  unfold mCells
  have hl2 := h.l2
  have hm2 := h.m2
  have hl1 := h.l1
  have hm1 := h.m1
  have hsf := h.sf
  have ht0 := h.t0
  have ht1 := h.t1
  have HST := Lib.hid h.st
  have HRR := Lib.hid h.rr
  have HRB := Lib.hid h.rb
  have HHL := Lib.hid (hdB_len m)
  clear h
  have HD : Hid (hdB m = [] ++ ([87, 49, 59, 116] ++ numB m.time) ++ ([102] ++ textB m.frm.data.toList) ++ ([110] ++ numB (m.rcpts.length : Int))) := Lib.hid rfl
  generalize hdB m = hd at *
  obtain ⟨t, fr, L, d⟩ := m
  dsimp only at *
  have hblk := Blk.new w 25 #[.int .i64 t, .string fr, .slice A1 L.length c1, .slice A2 d.length c2]
  generalize hw0 : w.alloc (.cells #[.int .i64 t, .string fr, .slice A1 L.length c1, .slice A2 d.length c2] 25) = w0 at hblk
  have hb0 : Below w.heap.size w w0 := by rw [← hw0]; exact (Below.refl _ _).alloc (Nat.le_refl _) _
  have hs0 : w0.heap.size = w.heap.size + 1 := by rw [← hw0]; simp
  have hblk1 := Blk.new w0 53 #[.slice none 0 0, .slice none 0 0]
  generalize hw1 : w0.alloc (.cells #[.slice none 0 0, .slice none 0 0] 53) = w1 at hblk1
  have hb1 : Below w0.heap.size w0 w1 := by rw [← hw1]; exact (Below.refl _ _).alloc (Nat.le_refl _) _
  have K : Hid (∀ w', Below w0.heap.size w0 w' → w'.cell? ⟨w.heap.size, 0, none⟩ = some (.int .i64 t) ∧ w'.cell? ⟨w.heap.size, 1, none⟩ = some (.string fr) ∧ w'.cell? ⟨w.heap.size, 2, none⟩ = some (.slice A1 L.length c1) ∧ w'.cell? ⟨w.heap.size, 3, none⟩ = some (.slice A2 d.length c2)) :=
    Lib.hid fun w' hb => ⟨(hblk.keep hb).cell 0, (hblk.keep hb).cell 1, (hblk.keep hb).cell 2, (hblk.keep hb).cell 3⟩
  have KW : Hid (∀ w', Below w0.heap.size w0 w' → Below w.heap.size w w') := Lib.hid fun w' hb => hb0.trans (hb.mono (by omega))
  have HT : Hid (∀ w', Below w0.heap.size w0 w' → Pow10 w') := Lib.hid fun w' hb => T.keep (KW.out w' hb)
  have hWr1 : WrAt w1 w0.heap.size [] [] := ⟨_, _, hblk1, OwnB.nil _ _ _, OwnI.nil _ _ _⟩
  have HS0 := Lib.hid hs0
  clear hs0 hblk hblk1 T
  obtain ⟨k0, k1, k2, k3⟩ := K.out w1 hb1
  have HN1 := Lib.hid (wnumber_walk w0.heap.size ⟨#[87, 49, 59, 116]⟩ t [] [] w1 hWr1 ht0 ht1 (HT.out _ hb1) (by decide) (by simp))
  clear hWr1
  go_enter Tryd.func24, Tryd.ntmps24
  go_wp2_with fail
  refine HN1.out.mono ?_
  rintro e w2 ⟨hb2, hWr2, rfl⟩
  have HB2 := Lib.hid (hb1.trans hb2)
  obtain ⟨k0, k1, k2, k3⟩ := K.out w2 HB2.out
  have HN2 := Lib.hid (wtext_walk w0.heap.size ⟨#[102]⟩ fr _ [] w2 hWr2 hsf (HT.out _ HB2.out) (by decide) (by simp only [List.length_append, List.length_nil]; have := numB_len t; simp; omega))
  clear hWr2 HN1 hb2 hb1
  go_wp2_with fail
  refine HN2.out.mono ?_
  rintro e w3 ⟨hb3, hWr3, rfl⟩
  have HB3 := Lib.hid (HB2.out.trans hb3)
  obtain ⟨k0, k1, k2, k3⟩ := K.out w3 HB3.out
  have HN3 := Lib.hid (wnumber_walk w0.heap.size ⟨#[110]⟩ (L.length : Int) _ [] w3 hWr3 (by omega) (by omega) (HT.out _ HB3.out) (by decide) (by have h1 := numB_len t; have h2 := textB_len fr.data.toList; simp only [List.length_append, List.length_nil]; simp; omega))
  clear hWr3 HN2 hb3 HB2
  go_wp2_with fail
  refine HN3.out.mono ?_
  rintro e w4 ⟨hb4, hWr4, rfl⟩
  have HB4 := Lib.hid (HB3.out.trans hb4)
  have HW4 : Hid (WrAt w4 w0.heap.size hd []) := Lib.hid (by rw [HD.out]; exact hWr4)
  obtain ⟨k0, k1, k2, k3⟩ := K.out w4 HB4.out
  clear hWr4 HN3 hb4 HB3 HD hw1
  have hmxI : (L.length : Int) ≤ 200 := by omega
  go_wp2
  go_loopg [24] L.length (fun k i wr => ∃ (j : Nat) (l : List UInt8) (M : List Int), j + k = L.length ∧ i = .int .i64 j ∧ Hid (Below w0.heap.size w0 wr) ∧ Hid (WrAt wr w0.heap.size l M) ∧ Hid (M.length = j) ∧ l.length ≤ 1100000 * (j + 1) ∧
    Hid (l ++ recB (L.drop j) = hd ++ recB L) ∧ Hid (M ++ mksI l.length (L.drop j) = mksI hd.length L))
  case atStart => exact ⟨0, hd, [], by omega, rfl, HB4, HW4, Lib.hid rfl, by have := HHL.out; omega, Lib.hid (by rw [List.drop_zero]), Lib.hid (by rw [List.drop_zero]; rfl)⟩
  case round =>
    obtain ⟨j, l, M, hj, rfl, HB, HW, hM, hlb, HL, HM⟩ := hrel
    obtain ⟨q0, q1, q2, q3⟩ := K.out wr HB.out
    by_cases hlt : j < L.length
    · obtain ⟨b, off, rfl, hB, hcell⟩ := (HRR.out.below (KW.out _ HB.out)).at_ hlt
      obtain ⟨e1, e2⟩ := hcell j hlt
      have hst := HST.out _ (List.getElem_mem hlt)
      rw [List.drop_eq_getElem_cons hlt] at HL HM
      have hj1 : (j : Int) < (L.length : Int) := by omega
      clear hcell
      generalize L[j] = r at *
      obtain ⟨tx, mk⟩ := r
      dsimp only at *
      obtain ⟨v, v2, hB1, hO1, hI1⟩ := HW.out
      obtain ⟨A3, c3, rfl, hc3, hm3, -⟩ := hO1.out
      have hgw := hB1.lt
      have hnb := Blk.new wr 41 #[.string tx, .int .u8 (mk.toNat : Int)]
      have hba : Below wr.heap.size wr (wr.alloc (.cells #[.string tx, .int .u8 (mk.toNat : Int)] 41)) := (Below.refl _ _).alloc (Nat.le_refl _) _
      have hsa : (wr.alloc (.cells #[.string tx, .int .u8 (mk.toNat : Int)] 41)).heap.size = wr.heap.size + 1 := by simp
      generalize hwa : wr.alloc (.cells #[.string tx, .int .u8 (mk.toNat : Int)] 41) = wa at *
      have HBa := Lib.hid (HB.out.trans (hba.mono (HB.out.size)))
      have B2 := hB1.keep hba
      have O2 := hO1.below hba
      have I2 := hI1.below hba
      have x0 : wa.cell? ⟨w0.heap.size, 0, none⟩ = some (.slice A3 l.length c3) := B2.cell 0
      have x1 : wa.cell? ⟨w0.heap.size, 1, none⟩ = some v2 := B2.cell 1
      have f1 := B2.frozen 1
      have y0 : wa.cell? ⟨wr.heap.size, 0, none⟩ = some (.string tx) := hnb.cell 0
      have HNB := Lib.hid hnb
      have HB2 := Lib.hid B2
      have HO2 := Lib.hid O2
      have HI2 := Lib.hid I2
      have HI1 := Lib.hid hI1
      have hgs : w0.heap.size + 1 ≤ wa.heap.size := by omega
      have hlI : (l.length : Int) + 1 ≤ 9223372036854775807 := by omega
      have hwr : IntKind.i64.wrap ((l.length : Int) + 1) = (l.length : Int) + 1 := IntWalk.i64_in _ (by omega)
      have hjM : M.length + 1 ≤ 1000000000000 := by have := hM.out; omega
      have HSA := Lib.hid hsa
      clear B2 O2 I2 hB1 hO1 hI1 hnb hsa
      go_upto_region 8 with fail
      have x1d : (wa.alloc (.cells #[.int .i64 ((l.length : Int) + 1)] 3)).drew.cell? ⟨w0.heap.size, 1, none⟩ = some v2 := (HB2.out.alloc _).drew.cell 1
      obtain ⟨ii, hi1, hi2, hi3, hi4⟩ := info_parts (show (Tryd.prog.info? 3).map (fun i => (i.zero, i.size, i.bytes)) = some (some (.int .i64 0), 1, 8) by kernel_rfl)
      have HII := Lib.hid hi1
      have HII2 := Lib.hid hi2
      have HII3 := Lib.hid hi3
      have HII4 := Lib.hid hi4
      clear hi1 hi2 hi3 hi4
      go_region_law (refine step_append_lies _ rfl (.tmp 32) (.tmp 39) 51 rfl (w0.heap.size + 1) 3 ii (.int .i64 0) 1 8 Tryd.underlying51 HII.out HII2.out HII3.out HII4.out rfl (by decide) v2 M.length _ rfl (World.ownsRow.drew (World.ownsRow.alloc HI2.out _)) ⟨wa.heap.size, 0, none⟩ 1 1 [.int .i64 ((l.length : Int) + 1)] rfl rfl (fun j u hu => one_new wa 3 (.int .i64 ((l.length : Int) + 1)) _ rfl j u hu) (by simp [Value.oneCell']) (by decide) (by simp only [maxLen]; omega) (by omega) (by simp; omega) _ rfl ?_; intro g3 cp3 w3 hi3 hg3 hc3 hlt3; have B3 := (HB2.out.alloc _).drew.own (World.ownsRow.drew (World.ownsRow.alloc HI2.out _)) hg3 (Nat.lt_succ_self _); have f3 := B3.frozen 1; have u3 : w3.cell? ⟨w0.heap.size, 1, none⟩ = some v2 := B3.cell 1; have HB3 := Lib.hid B3; have HI3 := Lib.hid hi3; have HG3 := Lib.hid hg3; clear B3 hi3 hg3 hc3)
      all_goals
        have hd0 : Below wa.heap.size wa (wa.alloc (.cells #[.int .i64 ((l.length : Int) + 1)] 3)).drew := bdrewN ((Below.refl _ _).alloc (Nat.le_refl _) _) 1
        have hgs2 : w0.heap.size + 1 ≤ (wa.alloc (.cells #[.int .i64 ((l.length : Int) + 1)] 3)).drew.heap.size := Nat.le_trans hgs hd0.size
        have hb5 : Below w0.heap.size w0 (w3.setCell ⟨w0.heap.size, 1, none⟩ (.slice (some ⟨g3, 0, none⟩) (M.length + 1) cp3)) :=
          (HBa.out.trans ((hd0.mono (show w0.heap.size ≤ wa.heap.size by omega)).trans ((below_of_own (World.ownsRow.drew (World.ownsRow.alloc HI2.out _)) HG3.out hgs2).mono (Nat.le_succ _)))).setCell (Nat.le_refl _) _
        have hO3 : OwnB w3 (w0.heap.size + 1) 5 (.slice A3 l.length c3) l := OwnB.kept (World.ownsRow.drew (World.ownsRow.alloc HO2.out _)) HG3.out (own_ne HO2.out HI2.out (by decide))
        have hI3 : OwnI w3 (w0.heap.size + 1) 3 (.slice (some ⟨g3, 0, none⟩) (M.length + 1) cp3) (M ++ [(l.length : Int) + 1]) := by
          unfold OwnI; rw [List.length_append, List.map_append]; exact HI3.out
        have hW5 : WrAt (w3.setCell ⟨w0.heap.size, 1, none⟩ (.slice (some ⟨g3, 0, none⟩) (M.length + 1) cp3)) w0.heap.size l (M ++ [(l.length : Int) + 1]) :=
          ⟨_, _, HB3.out.set_ 1 _, hO3.far (p := ⟨w0.heap.size, 1, none⟩) (Nat.lt_succ_self _) _, hI3.far (p := ⟨w0.heap.size, 1, none⟩) (Nat.lt_succ_self _) _⟩
        have hR3 : Blk w3 wr.heap.size 41 #[.string tx, .int .u8 (mk.toNat : Int)] := ((HNB.out.alloc _).drew).grown HG3.out (fun e => by have := (World.ownsRow.lt HI1.out _ e.symm).2; omega)
        have y5 : (w3.setCell ⟨w0.heap.size, 1, none⟩ (.slice (some ⟨g3, 0, none⟩) (M.length + 1) cp3)).cell? ⟨wr.heap.size, 0, none⟩ = some (.string tx) := (hR3.far (p := ⟨w0.heap.size, 1, none⟩) (by simp; omega) _).cell 0
        have HN := Lib.hid (wtext_walk w0.heap.size ⟨#[114, 80]⟩ tx l _ _ hW5 hst (HT.out _ hb5) (by decide) (by omega))
        have HB5 := Lib.hid hb5
        have HHM : Hid ((M ++ [(l.length : Int) + 1]).length = j + 1) := Lib.hid (by simp; exact hM.out)
        generalize hw5 : w3.setCell ⟨w0.heap.size, 1, none⟩ (.slice (some ⟨g3, 0, none⟩) (M.length + 1) cp3) = w5 at *
        clear hd0 hgs2 hb5 hO3 hI3 hW5 hR3 HB3 HI3 HG3 u3 f3 x1d x0 x1 f1 y0
        go_wp2_with fail
        refine HN.out.mono ?_
        rintro e w6 ⟨hb6, hW6, rfl⟩
        have HB6 := Lib.hid (HB5.out.trans hb6)
        have HW6 := Lib.hid hW6
        clear hb6 hW6
        go_wp2
        go_roundg (gk - 1)
        case rel =>
          refine ⟨j + 1, _, _, by omega, by go_num, HB6, HW6, HHM, ?_, Lib.hid ?_, Lib.hid ?_⟩
          · have := textB_len tx.data.toList
            simp only [List.length_append]; simp; omega
          · rw [← HL.out]; simp [recB]
          · rw [← HM.out]; simp [mksI]
        case measure => omega
    · have hj1 : (L.length : Int) ≤ (j : Int) := by omega
      rw [List.drop_eq_nil_of_le (by omega)] at HL HM
      rw [recB, List.append_nil] at HL
      rw [mksI, List.append_nil] at HM
      obtain rfl : j = L.length := by omega
      have hRd := HRB.out.below (KW.out _ HB.out)
      have hcv := cvRB hRd d.length c2 rfl
      have hds : (⟨d.toArray⟩ : ByteArray).size ≤ maxLen := by rw [size_len]; simp only [maxLen]; omega
      have HN := Lib.hid (wtext_walk w0.heap.size ⟨#[100]⟩ ⟨d.toArray⟩ l M wr HW.out hds (HT.out _ HB.out) (by decide) (by omega))
      clear hRd hds
      go_wp2_with fail
      refine HN.out.mono ?_
      rintro e w6 ⟨hb6, hW6, rfl⟩
      have HB6 := Lib.hid (HB.out.trans hb6)
      have HW6 := Lib.hid hW6
      clear hb6 hW6
      go_wp2
      go_ret
      refine ⟨KW.out _ HB6.out, HANS.out _ _ ⟨_, rfl, hb0.size, ?_⟩⟩
      have := HW6.out
      rw [HL.out, HM.out] at this
      exact this
end Go.Proofs.YtfnhaddgdfkmcaaDoor
