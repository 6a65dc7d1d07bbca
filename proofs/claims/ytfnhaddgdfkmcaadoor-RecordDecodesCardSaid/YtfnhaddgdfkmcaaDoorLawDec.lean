/-
  The walk of the law RecordDecodes. Its conditions: what the form gives (the tables of the library, the argument's reading).
-/
import Derived.Test.YtfnhaddgdfkmcaaDoorSz
import Derived.Test.YtfnhaddgdfkmcaaDoorRDec
import Derived.Test.YtfnhaddgdfkmcaaDoorSame
import Derived.Test.YtfnhaddgdfkmcaaDoorShown
namespace Go.Proofs.YtfnhaddgdfkmcaaDoor
open Go.RowKit Go.Sort
set_option linter.unusedVariables false

theorem OwnB.cellN {w : World} {base E g n c : Nat} {l : List UInt8} (h : OwnB w base E (.slice (some ⟨g, 0, none⟩) n c) l) {k : Nat} (hk : k < n) : w.cell? ⟨g, k, none⟩ = some (.int .u8 (bt l k)) ∧ w.frozen? ⟨g, k, none⟩ = false := by
  obtain ⟨rfl, _⟩ := h.len
  exact ⟨h.cell hk, h.free k⟩
theorem OwnB.where_ {w : World} {base E n c : Nat} {A : Option Addr} {l : List UInt8} (h : OwnB w base E (.slice A n c) l) (hb : base < w.heap.size) : ∃ g, base ≤ g ∧ g < w.heap.size ∧ (0 < l.length → A = some ⟨g, 0, none⟩) := by
  rcases Nat.eq_zero_or_pos l.length with h0 | h0
  · exact ⟨base, Nat.le_refl _, hb, fun h => by omega⟩
  · obtain ⟨g, c', hv, h1, h2, _⟩ := h.form h0
    injection hv with hv
    exact ⟨g, h1, h2, fun _ => hv⟩
set_option maxRecDepth 100000 in
set_option maxHeartbeats 4000000 in
theorem lawDecodes (A : Option Addr) (l : List UInt8) (cp : Nat) (w : World) (T : Tabs w) (h : RB w w.heap.size A l) (hl : l.length ≤ cp) (hc : cp ≤ 140737488351232) :
    Calls Tryd.prog 4 #[.slice A l.length cp] w fun e w' => Below w.heap.size w w' ∧ e = .returned (.bool true) := by
  have hcm : cp ≤ maxLen := by simp only [maxLen]; omega
  have HSZ := Lib.hid (resM_sz l)
  have HDC := Lib.hid (fun A c w h hc hm T => decode_walk A l c w h hc hm T)
  have HRD := Lib.hid (fun A c w h hc hm => rdecode_walk A l c w h hc hm)
  generalize decR l = F at *
  go_enter Tryd.func4, Tryd.ntmps4
  go_wp2_with fail
  refine (shown_walk w T).mono ?_
  rintro e w1 ⟨hb1, rfl⟩
  have h1 := h.below hb1
  have HRA := Lib.hid ((h1.mono hb1.size).alloc (Nat.le_refl _) (.cells #[] 5))
  have HB1 := Lib.hid hb1
  have hs1 := hb1.size
  have HM := Lib.hid (OwnB.made w1 w1.heap.size 5 (Nat.le_refl _))
  clear h h1 hb1
  go_wp2_with (at_builtin; go_loud (refine wpList_appB _ isU8 (.tmp 12) (.tmp 13) rfl rfl w1.heap.size rfl HM.out (k := l) _ _ rfl rfl HRA.out (by simp only [List.length_nil]; omega) (by simp) ?_; intro v w2 hv hb2; have HV : Hid (OwnB w2 w1.heap.size 5 v l) := Lib.hid hv; obtain ⟨Av, nv, cv, rfl⟩ := hv.sl; have HB2 := Lib.hid (HB1.out.trans ((((Below.refl w1.heap.size w1).alloc (Nat.le_refl _) (.cells #[] 5)).trans hb2).mono HB1.out.size)); have hs2 := hb2.size; simp only [World.size_alloc] at hs2; have HR2 := Lib.hid ((HRA.out.below hb2).mono (show w1.heap.size ≤ w2.heap.size by omega)); clear hv hb2))
  obtain ⟨A', c', ev, hvc, hvm, hvr⟩ := HV.out.out
  injection ev with e1 e2 e3
  subst e1
  subst e2
  subst e3
  obtain ⟨g, hg1, hg2, hgA⟩ := HV.out.where_ (by omega)
  have hg0 : w.heap.size ≤ g := by omega
  have T2 := T.keep HB2.out
  have HC1 := Lib.hid (HRD.out A cp w2 HR2.out hl hcm)
  have HGA := Lib.hid hgA
  have HVR := Lib.hid hvr
  clear HM HRA HB1 hvr hgA T HR2
  go_wp2_with fail
  refine HC1.out.mono ?_
  rintro e w3 ⟨hb3, he3⟩
  obtain ⟨v1, v2, rfl, ho3⟩ := he3.form
  obtain ⟨B1, d1, B2, d2, rfl, rfl, -⟩ := ho3.out HSZ.out
  have bk3 := Blk.new w3 25 #[.int .i64 (resM F).time, .string (resM F).frm, .slice B1 (resM F).rcpts.length d1, .slice B2 (resM F).data.length d2]
  have hb4 := hb3.alloc hb3.size (.cells #[.int .i64 (resM F).time, .string (resM F).frm, .slice B1 (resM F).rcpts.length d1, .slice B2 (resM F).data.length d2] 25)
  have ho4 := ho3.below ((Below.refl _ _).alloc (Nat.le_refl _) (.cells #[.int .i64 (resM F).time, .string (resM F).frm, .slice B1 (resM F).rcpts.length d1, .slice B2 (resM F).data.length d2] 25))
  have hs3 := hb3.size
  have hs4 : (w3.alloc (.cells #[.int .i64 (resM F).time, .string (resM F).frm, .slice B1 (resM F).rcpts.length d1, .slice B2 (resM F).data.length d2] 25)).heap.size = w3.heap.size + 1 := by simp
  clear he3 hb3 ho3 HC1
  generalize hw4 : w3.alloc (.cells #[.int .i64 (resM F).time, .string (resM F).frm, .slice B1 (resM F).rcpts.length d1, .slice B2 (resM F).data.length d2] 25) = w4 at *
  have BK4 := Lib.hid bk3
  have HB4 := Lib.hid (HB2.out.trans (hb4.mono HB2.out.size))
  have HO4 := Lib.hid ho4
  have HV4 := Lib.hid (HV.out.below hb4)
  have T4 := T2.keep hb4
  have HC2 := Lib.hid (HDC.out Av cv w4 ((HVR.out.below hb4).mono hb4.size) hvc hvm T4)
  clear bk3 hb4 ho4 HB2 HV HVR T2 HRD HDC
  go_wp2_with fail
  refine HC2.out.mono ?_
  rintro e w5 ⟨hb5, he5⟩
  obtain ⟨v1, v2, rfl, ho5⟩ := he5.form
  obtain ⟨D1, q1, D2, q2, rfl, rfl, -⟩ := ho5.out HSZ.out
  have bk5 := Blk.new w5 25 #[.int .i64 (resM F).time, .string (resM F).frm, .slice D1 (resM F).rcpts.length q1, .slice D2 (resM F).data.length q2]
  have hb6 := hb5.alloc hb5.size (.cells #[.int .i64 (resM F).time, .string (resM F).frm, .slice D1 (resM F).rcpts.length q1, .slice D2 (resM F).data.length q2] 25)
  have ho6 := ho5.below ((Below.refl _ _).alloc (Nat.le_refl _) (.cells #[.int .i64 (resM F).time, .string (resM F).frm, .slice D1 (resM F).rcpts.length q1, .slice D2 (resM F).data.length q2] 25))
  have hs5 := hb5.size
  have hs6 : (w5.alloc (.cells #[.int .i64 (resM F).time, .string (resM F).frm, .slice D1 (resM F).rcpts.length q1, .slice D2 (resM F).data.length q2] 25)).heap.size = w5.heap.size + 1 := by simp
  clear he5 hb5 ho5 HC2
  generalize hw6 : w5.alloc (.cells #[.int .i64 (resM F).time, .string (resM F).frm, .slice D1 (resM F).rcpts.length q1, .slice D2 (resM F).data.length q2] 25) = w6 at *
  have BK6 := Lib.hid bk5
  have BK46 := Lib.hid (BK4.out.keep hb6)
  have HB6 := Lib.hid (HB4.out.trans (hb6.mono HB4.out.size))
  have HO6 := Lib.hid ho6
  have HO46 := Lib.hid (HO4.out.below hb6)
  have HV6 := Lib.hid (HV4.out.below hb6)
  clear bk5 hb6 ho6 HB4 HO4 HV4 T4 BK4
  have hlc : (l.length : Int) ≤ 140737488351232 := by omega
  go_wp2_with fail
  go_loopg [9] l.length (fun k i wr => ∃ (j : Nat) (l' : List UInt8), j + k = l.length ∧ i = .int .i64 j ∧ Hid (Only g w6 wr) ∧ Hid (OwnB wr w1.heap.size 5 (.slice Av l.length cv) l'))
  case atStart => exact ⟨0, l, by omega, rfl, Lib.hid (Only.refl _), HV6⟩
  case round =>
    obtain ⟨j, l', hj, rfl, HON, HOV⟩ := hrel
    by_cases hlt : j < l.length
    · have hj1 : (j : Int) < (l.length : Int) := by omega
      obtain rfl := HGA.out (by omega)
      obtain ⟨kc, kf⟩ := HOV.out.cellN hlt
      go_wp2
      go_roundg (gk - 1)
      case rel => exact ⟨j + 1, l'.set j 77, by omega, by go_num, Lib.hid (HON.out.set_ j _), Lib.hid (HOV.out.setN j 77)⟩
      case measure => omega
    · have hj1 : (l.length : Int) ≤ (j : Int) := by omega
      have K1 := BK46.out.only HON.out (by omega)
      have K2 := BK6.out.only HON.out (by omega)
      have a0 : wr.cell? ⟨w3.heap.size, 0, none⟩ = some (.int .i64 (resM F).time) := K1.cell 0
      have a1 : wr.cell? ⟨w3.heap.size, 1, none⟩ = some (.string (resM F).frm) := K1.cell 1
      have a2 : wr.cell? ⟨w3.heap.size, 2, none⟩ = some (.slice B1 (resM F).rcpts.length d1) := K1.cell 2
      have a3 : wr.cell? ⟨w3.heap.size, 3, none⟩ = some (.slice B2 (resM F).data.length d2) := K1.cell 3
      have b0 : wr.cell? ⟨w5.heap.size, 0, none⟩ = some (.int .i64 (resM F).time) := K2.cell 0
      have b1 : wr.cell? ⟨w5.heap.size, 1, none⟩ = some (.string (resM F).frm) := K2.cell 1
      have b2 : wr.cell? ⟨w5.heap.size, 2, none⟩ = some (.slice D1 (resM F).rcpts.length q1) := K2.cell 2
      have b3 : wr.cell? ⟨w5.heap.size, 3, none⟩ = some (.slice D2 (resM F).data.length q2) := K2.cell 3
      have HS := Lib.hid (same_walk (resM F) D1 q1 D2 q2 B1 d1 B2 d2 wr ((HO6.out.only HON.out (by omega)).at_ HSZ.out) ((HO46.out.only HON.out hg2).at_ HSZ.out))
      unfold mCells at HS
      have hw1 := HB6.out.size
      have HBR := Lib.hid (HB6.out.trans (HON.out.to_below (by omega) hg0))
      clear K1 K2 HO6 HO46 BK6 BK46
      go_wp2_with fail
      refine HS.out.mono ?_
      rintro e w8 ⟨hb8, rfl⟩
      go_wp2
      go_ret
      exact ⟨HBR.out.trans (hb8.mono HBR.out.size), rfl⟩
end Go.Proofs.YtfnhaddgdfkmcaaDoor
