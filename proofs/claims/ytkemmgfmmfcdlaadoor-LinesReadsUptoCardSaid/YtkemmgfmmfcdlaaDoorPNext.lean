/-
  The walk of the program's Next. Conditions: the sizes.
-/
import Derived.Test.YtkemmgfmmfcdlaaDoorRNext2
import Derived.Test.YtkemmgfmmfcdlaaDoorLnB
namespace Go.Proofs.YtkemmgfmmfcdlaaDoor
open Go.RowKit
set_option linter.unusedVariables false

/-- what Next gives, where the reader's own block is the old one or none -/
def NextPostS (T : TypeId) (w : World) (base p : Nat) (own : Option Nat) (most : Nat) (l : List UInt8) (e : Ending) (w' : World) : Prop :=
  (nextP most l = none ∧ e = .returned (.tuple #[.slice none 0 0, .int .i64 0, .bool false]) ∧ Below w.heap.size w w' ∧ Rd w' T base p own most l) ∨
  ∃ r y v own', nextP most l = some (r, y) ∧ e = .returned (.tuple #[v, .int .i64 r.2, .bool true]) ∧ OwnV w' w.heap.size v r.1 ∧ Chg p none w w' ∧ Rd w' T base p own' most y ∧ (own' = own ∨ own' = none)
theorem NextPostS.weak {T : TypeId} {w w' : World} {base p : Nat} {own : Option Nat} {most : Nat} {l : List UInt8} {e : Ending} (h : NextPostS T w base p own most l e w') : NextPost T w base p own most l e w' := by
  rcases h with h | ⟨r, y, v, own', h1, h2, h3, h4, h5, h6⟩
  · exact .inl h
  · exact .inr ⟨r, y, v, own', h1, h2, h3, h4, h5, by rcases h6 with h | h; exact .inl h; exact .inr (.inl h)⟩
set_option maxRecDepth 100000 in
set_option maxHeartbeats 4000000 in
theorem next_walk_s (w : World) (base p : Nat) (own : Option Nat) (most : Nat) (l : List UInt8) (hR : Rd w 48 base p own most l) (hb : base ≤ w.heap.size) (hl : l.length ≤ 140737488355328) (hm : most ≤ 65536) :
    Calls Tryd.prog 12 #[.pointer (some ⟨p, 0, none⟩)] w (NextPostS 48 w base p own most l) := by
  have hR' := Lib.hid hR
  obtain ⟨h1, h2, v, hB, hO⟩ := hR
  obtain ⟨A, c, rfl, hlc, hcm, hrb⟩ := hO.out
  have hlt0 := hB.lt
  have c0 : w.cell? ⟨p, 0, none⟩ = some (.int .i64 (most : Int)) := hB.cell 0
  have c1 : w.cell? ⟨p, 1, none⟩ = some (.slice A l.length c) := hB.cell 1
  have HB := Lib.hid hB
  have HO := Lib.hid hO
  have HRB := Lib.hid hrb
  have H2 := Lib.hid h2
  unfold maxLen at hcm
  clear hB hO hrb h2
  go_enter Tryd.func12, Tryd.ntmps12
  go_wp2_with fail
  have hb1 := (Below.refl w.heap.size w).alloc (Nat.le_refl _) (.cells #[.int .u8 10] 5)
  refine (cut_walk _ (HRB.out.below hb1) l.length c w.heap.size 0 1 rfl hlc (by omega) 10 10 rfl (cell_new w _ _ rfl)).mono ?_
  rintro e0 w1 ⟨⟨q, rfl⟩, hcase⟩
  have hb2 := bdrewN hb1 q
  generalize ((w.alloc (.cells #[.int .u8 10] 5)).drewN q) = w2 at *
  clear hb1
  have HB2 := Lib.hid hb2
  rcases hcase with ⟨hn, rfl⟩ | ⟨x, y, hcut, rfl⟩
  · have HN : Hid (nextP most l = none) := Lib.hid (by unfold nextP; rw [hn])
    clear hn hb2
    go_wp2
    go_ret3
    exact .inl ⟨HN.out, rfl, HB2.out, hR'.out.below HB2.out⟩
  have HN : Hid (nextP most l = some (nxLine most x, y)) := Lib.hid (by unfold nextP; rw [hcut])
  obtain ⟨hcl, -⟩ := cutAt_some hcut
  have hll : l.length = x.length + (y.length + 1) := by rw [hcl]; simp
  obtain ⟨htx, hty⟩ := take_cut hcl
  have RX : Hid (RB w2 w2.heap.size A x) := Lib.hid (htx ▸ RB.take ((HRB.out.below hb2).mono hb2.size) x.length)
  have e1 : IntKind.i64.wrap ((x.length : Int) + 1) = (x.length : Int) + 1 := IntWalk.i64_in _ (by omega)
  obtain ⟨own2, ho2, hO2⟩ := (HO.out.below hb2).tail (x.length + 1) (by omega)
  rw [hty] at hO2
  have hyl : l.length - (x.length + 1) = y.length := by omega
  rw [hyl] at hO2 ⊢
  generalize hAT : (if c = x.length + 1 then A else A.map fun a => a.add (x.length + 1)) = AT at *
  generalize hcT : c - (x.length + 1) = cT at *
  have HBk := HB.out.keep hb2
  have k2 := HBk.set_ 1 (.slice AT y.length cT)
  have f1 := HBk.frozen 1
  have d1 : w2.cell? ⟨p, 1, none⟩ = some (.slice A l.length c) := HBk.cell 1
  have hne2 : own2 ≠ some p := by
    rcases ho2 with h | h
    · rw [h]; exact H2.out
    · rw [h]; simp
  have hlt2 : p < w2.heap.size := HBk.lt
  have R3 : Hid (Rd (w2.setCell ⟨p, 1, none⟩ (.slice AT y.length cT)) 48 base p own2 most y) := Lib.hid ⟨h1, hne2, _, k2, hO2.far (p := ⟨p, 1, none⟩) hne2 _⟩
  have CH : Hid (Chg p none w (w2.setCell ⟨p, 1, none⟩ (.slice AT y.length cT))) := Lib.hid ((Chg.of_below hb2).setCell 1 _)
  have HBK := Lib.hid HBk
  have HXL : Hid (x.length ≤ l.length) := Lib.hid (by omega)
  have hxl : x.length ≤ 140737488355328 := by omega
  have hxc : x.length ≤ c := by omega
  clear hcut hcl htx hty hO2 hyl hAT hcT HBk k2 hne2 hb2
  have RX3 : Hid (RB (w2.setCell ⟨p, 1, none⟩ (.slice AT y.length cT)) (w2.setCell ⟨p, 1, none⟩ (.slice AT y.length cT)).heap.size A x) := Lib.hid ((RX.out.store d1 _).mono (by simp))
  have c03 : (w2.setCell ⟨p, 1, none⟩ (.slice AT y.length cT)).cell? ⟨p, 0, none⟩ = some (.int .i64 (most : Int)) := (HBK.out.set_ 1 _).cell 0
  have hw3 : w.heap.size ≤ (w2.setCell ⟨p, 1, none⟩ (.slice AT y.length cT)).heap.size := CH.out.size
  go_upto_region 5 with fail
  clear c0 c1 d1 f1 HBK HB2 HB HO HRB RX H2
  generalize w2.setCell ⟨p, 1, none⟩ (.slice AT y.length cT) = w3 at *
  go_wp2_with fail
  have hb3 := (Below.refl w3.heap.size w3).alloc (Nat.le_refl _) (.cells #[.int .u8 13] 5)
  refine (cutsuf_walk _ (RX3.out.below hb3) (RB.one w3 5 13 13 rfl) x.length c 1 rfl hxc (by omega)).mono ?_
  rintro e0 w4 ⟨rfl, rfl⟩
  have c04 : (w3.alloc (.cells #[.int .u8 13] 5)).cell? ⟨p, 0, none⟩ = some (.int .i64 (most : Int)) := by
    rw [hb3.cell (show p < w3.heap.size by omega)]; exact c03
  have RX4 : Hid (RB (w3.alloc (.cells #[.int .u8 13] 5)) (w3.alloc (.cells #[.int .u8 13] 5)).heap.size A x) := Lib.hid ((RX3.out.below hb3).mono hb3.size)
  have CH4 : Hid (Chg p none w (w3.alloc (.cells #[.int .u8 13] 5))) := Lib.hid (CH.out.trans (Chg.of_below (own := none) hb3) (.inr (.inl rfl)))
  have R4 : Hid (Rd (w3.alloc (.cells #[.int .u8 13] 5)) 48 base p own2 most y) := Lib.hid (R3.out.below hb3)
  have hw4 : w.heap.size ≤ (w3.alloc (.cells #[.int .u8 13] 5)).heap.size := CH4.out.size
  clear CH R3 RX3 c03 hw3 hb3
  generalize (w3.alloc (.cells #[.int .u8 13] 5)) = w4 at *
  obtain ⟨t, ht⟩ : ∃ t, Lib.trimSuffix x [13] = t := ⟨_, rfl⟩
  obtain ⟨sf, hsf⟩ : ∃ sf, Lib.hasSuffix x [13] = sf := ⟨_, rfl⟩
  have HF := Lib.hid (nx_form (most := most) ht hsf)
  have htl : t.length ≤ x.length := by rw [← ht]; unfold Lib.trimSuffix; split <;> simp
  have RT : Hid (RB w4 w4.heap.size A t) := Lib.hid (by
    rw [← ht]; unfold Lib.trimSuffix; split
    · exact RX4.out.take _
    · exact RX4.out)
  rw [ht, hsf]
  obtain ⟨n, hn⟩ : ∃ n, n = t.length := ⟨_, rfl⟩
  rw [← hn] at htl ⊢
  have HT := Lib.hid hn
  have hnc : n ≤ c := by omega
  have hnl : n ≤ 140737488355328 := by omega
  clear ht hsf RX4 hn htl hxc hxl HXL
  have HO2 : Hid (own2 = own ∨ own2 = none) := Lib.hid ho2
  have FIN : Hid (∀ (w5 : World) (v : Value) (r : List UInt8 × Int), nxLine most x = r → Below w4.heap.size w4 w5 → OwnV w5 w4.heap.size v r.1 → ∀ e, e = .returned (.tuple #[v, .int .i64 r.2, .bool true]) → NextPostS 48 w base p own most l e w5) := Lib.hid fun w5 v r hr hb5 hv e he =>
    .inr ⟨r, y, v, own2, by rw [HN.out, hr], he, hv.mono hw4, CH4.out.trans (Chg.of_below (own := none) hb5) (.inr (.inl rfl)), R4.out.below hb5, HO2.out⟩
  obtain ⟨nb, hnb⟩ : ∃ nb, decide ((0 : UInt8) ∈ t) = nb := ⟨_, rfl⟩
  obtain ⟨bb, hbb⟩ : ∃ bb, decide ((13 : UInt8) ∈ t) = bb := ⟨_, rfl⟩
  have K0 := Lib.hid (idx_walk w4 RT.out n c HT.out 0 0 rfl nb hnb)
  have K1 := Lib.hid (idx_walk w4 RT.out n c HT.out 13 13 rfl bb hbb)
  have KC := Lib.hid (clone_walk w4 RT.out n c HT.out hnl)
  have HNB := Lib.hid hnb
  have HBB := Lib.hid hbb
  clear hnb hbb HN CH4 R4 ho2 e1
  by_cases hmn : most < n
  · have hmi : (most : Int) < (n : Int) := by omega
    have hmc : most ≤ c := by omega
    have htk : most = (t.take most).length := by rw [List.length_take, ← HT.out]; omega
    have KC2 := Lib.hid (clone_walk w4 (RT.out.take most) most c htk (by omega))
    clear htk
    go_wp2_with fail
    refine KC2.out.mono ?_
    rintro e5 w5 ⟨hb5, A5, c5, rfl, hV5⟩
    have HS := hV5.sl
    have HV := Lib.hid hV5
    have HB5 := Lib.hid hb5
    clear hb5 hV5
    have KL := Lib.hid (clip_walk w5 A5 most c5 HS.2.1 (by have := HS.2.2.1; unfold maxLen at this; omega))
    clear HS
    go_wp2_with (refine KL.out.mono ?_; rintro e6 w6 ⟨rfl, rfl⟩)
    go_ret3
    exact FIN.out _ _ (t.take most, 120) (by rw [HF.out, ← HT.out]; exact if_pos hmn) HB5.out HV.out.clip _ rfl
  · have hmi : ¬ (most : Int) < (n : Int) := by omega
    go_wp2_with fail
    refine K0.out.mono ?_
    rintro e5 w5 ⟨rfl, i0, rfl, hi0⟩
    clear K0
    cases nb
    case' true =>
      have hi0 := of_decide_eq_true hi0
      go_wp2_with fail
    case' false =>
      have hi0 := of_decide_eq_false hi0
      cases sf
      case' false => go_wp2_with fail
      case' true =>
        go_wp2_with fail
        refine K1.out.mono ?_
        rintro e5 w5 ⟨rfl, i1, rfl, hi1⟩
        clear K1
        cases bb
        case' true =>
          have hi1 := of_decide_eq_true hi1
          go_wp2_with fail
        case' false =>
          have hi1 := of_decide_eq_false hi1
          go_wp2_with fail
    all_goals
      refine KC.out.mono ?_
      rintro e5 w5 ⟨hb5, A5, c5, rfl, hV5⟩
      have HS := hV5.sl
      have HV := Lib.hid hV5
      have HB5 := Lib.hid hb5
      clear hb5 hV5
      have KL := Lib.hid (clip_walk w5 A5 n c5 HS.2.1 (by have := HS.2.2.1; unfold maxLen at this; omega))
      clear HS
      go_wp2_with (refine KL.out.mono ?_; rintro e6 w6 ⟨rfl, rfl⟩)
      go_ret3
    all_goals first
    | exact FIN.out _ _ (t, 122) (by rw [HF.out, ← HT.out, if_neg hmn, if_pos (of_decide_eq_true HNB.out)]) HB5.out HV.out.clip _ rfl
    | exact FIN.out _ _ (t, 121) (by rw [HF.out, ← HT.out, if_neg hmn, if_neg (of_decide_eq_false HNB.out), if_pos (by first | exact .inr (of_decide_eq_true HBB.out) | (simp; done))]) HB5.out HV.out.clip _ rfl
    | exact FIN.out _ _ (t, 0) (by rw [HF.out, ← HT.out, if_neg hmn, if_neg (of_decide_eq_false HNB.out), if_neg (fun h => h.elim (fun e => by simp at e) (of_decide_eq_false HBB.out))]) HB5.out HV.out.clip _ rfl
theorem next_walk (w : World) (base p : Nat) (own : Option Nat) (most : Nat) (l : List UInt8) (hR : Rd w 48 base p own most l) (hb : base ≤ w.heap.size) (hl : l.length ≤ 140737488355328) (hm : most ≤ 65536) :
    Calls Tryd.prog 12 #[.pointer (some ⟨p, 0, none⟩)] w (NextPost 48 w base p own most l) := (next_walk_s w base p own most l hR hb hl hm).mono fun _ _ h => h.weak
end Go.Proofs.YtkemmgfmmfcdlaaDoor
