/-
  The walk of LinesReads. It asks what the library's tables hold, and the sizes.
-/
import Derived.Test.YtkemmgfmmfcdlaaDoorTwoR
import Derived.Test.YtkemmgfmmfcdlaaDoorOpenR
namespace Go.Proofs.YtkemmgfmmfcdlaaDoor
open Go.RowKit
set_option linter.unusedVariables false
/-- what Next answers, in any case -/
def NX (most : Nat) (l : List UInt8) : List UInt8 × Int × Bool × List UInt8 := match nextP most l with
  | none => ([], 0, false, l)
  | some (r, y) => (r.1, r.2, true, y)
theorem NX_len {most : Nat} {l X l' : List UInt8} {er : Int} {is : Bool} (h : NX most l = (X, er, is, l')) : l'.length ≤ l.length := by
  unfold NX at h
  cases e : nextP most l with
  | none => rw [e] at h; injection h with _ h; injection h with _ h; injection h with _ h; rw [← h]; exact Nat.le_refl _
  | some ry =>
    obtain ⟨r, y⟩ := ry
    rw [e] at h
    injection h with _ h; injection h with _ h; injection h with _ h
    rw [← h]
    exact Nat.le_of_lt (next_len e)
section
variable {T : TypeId} {w w' : World} {base p most : Nat} {own : Option Nat} {l X l' : List UInt8} {er : Int} {is : Bool} {e : Ending}
theorem OwnV.nil_ (w : World) (base : Nat) : OwnV w base (.slice none 0 0) [] := ⟨none, 0, rfl, Nat.le_refl _, by simp [maxLen], .inl rfl⟩
theorem NextPostS.form (h : NextPostS T w base p own most l e w') (hx : NX most l = (X, er, is, l')) :
    ∃ A c own', e = .returned (.tuple #[.slice A X.length c, .int .i64 er, .bool is]) ∧ OwnV w' w.heap.size (.slice A X.length c) X ∧ Chg p none w w' ∧ Rd w' T base p own' most l' ∧ (own' = own ∨ own' = none) := by
  unfold NX at hx
  rcases h with ⟨h1, h2, h3, h4⟩ | ⟨r, y, v, own', h1, h2, h3, h4, h5, h6⟩
  · rw [h1] at hx
    injection hx with x1 hx; injection hx with x2 hx; injection hx with x3 x4
    subst x1 x2 x3 x4
    exact ⟨none, 0, own, h2, OwnV.nil_ _ _, Chg.of_below h3, h4, .inl rfl⟩
  · rw [h1] at hx
    injection hx with x1 hx; injection hx with x2 hx; injection hx with x3 x4
    subst x1 x2 x3 x4
    obtain ⟨A, c, rfl, _⟩ := h3.out
    exact ⟨A, c, own', h2, h3, h4, h5, h6⟩
theorem NextPost.form (h : NextPost T w base p own most l e w') (hx : NX most l = (X, er, is, l')) :
    ∃ A c own', e = .returned (.tuple #[.slice A X.length c, .int .i64 er, .bool is]) ∧ OwnV w' w.heap.size (.slice A X.length c) X ∧ Chg p none w w' ∧ Rd w' T base p own' most l' ∧ (own' = own ∨ own' = none ∨ ∃ g, own' = some g ∧ w.heap.size ≤ g) := by
  unfold NX at hx
  rcases h with ⟨h1, h2, h3, h4⟩ | ⟨r, y, v, own', h1, h2, h3, h4, h5, h6⟩
  · rw [h1] at hx
    injection hx with x1 hx; injection hx with x2 hx; injection hx with x3 x4
    subst x1 x2 x3 x4
    exact ⟨none, 0, own, h2, OwnV.nil_ _ _, Chg.of_below h3, h4, .inl rfl⟩
  · rw [h1] at hx
    injection hx with x1 hx; injection hx with x2 hx; injection hx with x3 x4
    subst x1 x2 x3 x4
    obtain ⟨A, c, rfl, _⟩ := h3.out
    exact ⟨A, c, own', h2, h3, h4, h5, h6⟩
end
/-- block g is none of two readers' -/
def Ap (g p1 p2 : Nat) (o1 o2 : Option Nat) : Prop := g ≠ p1 ∧ g ≠ p2 ∧ o1 ≠ some g ∧ o2 ≠ some g
/-- a slice that may be written over beside two readers -/
def Sp (w : World) (A : Option Addr) (n base p1 p2 : Nat) (o1 o2 : Option Nat) : Prop :=
  Wr w A n ∧ (0 < n → ∃ g o, A = some ⟨g, o, none⟩ ∧ base ≤ g ∧ Ap g p1 p2 o1 o2)
theorem Sp.set_ {w : World} {A : Option Addr} {n base p1 p2 : Nat} {o1 o2 : Option Nat} (h : Sp w A n base p1 p2 o1 o2) (p : Addr) (u : Value) : Sp (w.setCell p u) A n base p1 p2 o1 o2 := ⟨h.1.set_ p u, h.2⟩
section
variable {w w' : World} {T1 T2 : TypeId} {base p1 p2 m : Nat} {o1 o2 o1' o2' : Option Nat} {l1 l2 l1' l2' : List UInt8}
theorem TwoR.store (h : TwoR w T1 T2 base p1 p2 o1 o2 m l1 l2) {g : Nat} (hd : Ap g p1 p2 o1 o2) (o : Nat) (u : Value) : TwoR (w.setCell ⟨g, o, none⟩ u) T1 T2 base p1 p2 o1 o2 m l1 l2 := by
  obtain ⟨h1, h2, h3⟩ := h
  obtain ⟨d1, d2, d3, d4⟩ := hd
  have hc : Chg g none w (w.setCell ⟨g, o, none⟩ u) := (Chg.refl w).setCell o u
  exact ⟨h1.chg hc (fun e => d1 e.symm) (by simp) d3 (by cases o1 <;> simp), h2.chg hc (fun e => d2 e.symm) (by simp) d4 (by cases o2 <;> simp), h3⟩
theorem TwoR.grown0 (h : TwoR w T1 T2 base p1 p2 o1 o2 m l1 l2) (hg : w.grownBy w' none) : TwoR w' T1 T2 base p1 p2 o1 o2 m l1 l2 :=
  ⟨h.1.grown hg (by simp) (.inl rfl), h.2.1.grown hg (by simp) (.inl rfl), h.2.2⟩
theorem TwoR.new_ap (h : TwoR w T1 T2 base p1 p2 o1 o2 m l1 l2) {g : Nat} (hg : w.heap.size ≤ g) : Ap g p1 p2 o1 o2 := by
  obtain ⟨h1, h2, -⟩ := h
  have a := h1.lt
  have b := h2.lt
  refine ⟨by omega, by omega, fun e => ?_, fun e => ?_⟩
  · have := (a.2.2 g e).2; omega
  · have := (b.2.2 g e).2; omega
end
theorem Below.of_grown0 {w w' : World} {B : Nat} (hg : w.grownBy w' none) (hB : B ≤ w.heap.size) : Below B w w' :=
  ⟨hg.os, hg.tape, hg.output, hg.size, fun k hk => hg.block k (by omega) (by simp)⟩
/-- an own copy beside two readers -/
def OA (w : World) (base : Nat) (own : Option Nat) (v : Value) (k : List UInt8) (p1 p2 : Nat) (o1 o2 : Option Nat) : Prop :=
  OwnQ w base own v k ∧ ∀ g, own = some g → Ap g p1 p2 o1 o2
section
variable {w w' : World} {base p1 p2 : Nat} {own o1 o2 o1' o2' : Option Nat} {v : Value} {k : List UInt8}
theorem OA.fed1 (h : OA w base own v k p1 p2 o1 o2) (hc : Chg p1 o1 w w') (ho : o1' = o1 ∨ o1' = some w.heap.size) : OA w' base own v k p1 p2 o1' o2 := by
  obtain ⟨h1, h2⟩ := h
  refine ⟨h1.chg hc (fun e => (h2 _ e).1 rfl) ?_, fun g hg => ?_⟩
  · cases own with
    | none => exact .inl rfl
    | some g => exact .inr fun e => (h2 g rfl).2.2.1 e.symm
  · obtain ⟨d1, d2, d3, d4⟩ := h2 g hg
    refine ⟨d1, d2, ?_, d4⟩
    rcases ho with rfl | rfl
    · exact d3
    · intro e; injection e with e; have := (h1.base_ hg).2; omega
theorem OA.fed2 (h : OA w base own v k p1 p2 o1 o2) (hc : Chg p2 o2 w w') (ho : o2' = o2 ∨ o2' = some w.heap.size) : OA w' base own v k p1 p2 o1 o2' := by
  obtain ⟨h1, h2⟩ := h
  refine ⟨h1.chg hc (fun e => (h2 _ e).2.1 rfl) ?_, fun g hg => ?_⟩
  · cases own with
    | none => exact .inl rfl
    | some g => exact .inr fun e => (h2 g rfl).2.2.2 e.symm
  · obtain ⟨d1, d2, d3, d4⟩ := h2 g hg
    refine ⟨d1, d2, d3, ?_⟩
    rcases ho with rfl | rfl
    · exact d4
    · intro e; injection e with e; have := (h1.base_ hg).2; omega
theorem OA.sp {A : Option Addr} {n c : Nat} (h : OA w base own (.slice A n c) k p1 p2 o1 o2) : Sp w A n base p1 p2 o1 o2 := by
  obtain ⟨h1, h2⟩ := h
  obtain ⟨a, b⟩ := (OwnV.of_q h1).wr
  refine ⟨a, fun hn => ?_⟩
  obtain ⟨A', c', e, e1, e2, e3⟩ := h1
  injection e with e4 e5 e6
  subst e4 e5 e6
  rcases e3 with ⟨e3, _⟩ | ⟨g, off, rfl, rfl, hb, _⟩
  · omega
  · exact ⟨g, off, rfl, hb, h2 g rfl⟩
end
theorem OwnV.sp {w : World} {base B : Nat} {A : Option Addr} {n c : Nat} {X : List UInt8} {p1 p2 : Nat} {o1 o2 : Option Nat} (h : OwnV w B (.slice A n c) X) (hb : base ≤ B) (hd : ∀ g, B ≤ g → g < w.heap.size → Ap g p1 p2 o1 o2) : Sp w A n base p1 p2 o1 o2 := by
  obtain ⟨a, b⟩ := h.wr
  refine ⟨a, fun hn => ?_⟩
  obtain ⟨A', c', e, e1, e2, e3⟩ := h
  injection e with e4 e5 e6
  subst e4 e5 e6
  rcases e3 with rfl | ⟨g, off, rfl, hB, hlt, _⟩
  · simp at hn
  · exact ⟨g, off, rfl, by omega, hd g hB hlt⟩
/-- how much is still to come -/
def sumL (L : List (List UInt8)) : Nat := (L.map List.length).sum
theorem sumL_drop {L : List (List UInt8)} {i : Nat} {k : List UInt8} (h : L[i]? = some k) : sumL (L.drop i) = k.length + sumL (L.drop (i + 1)) := by
  obtain ⟨hi, rfl⟩ := List.getElem?_eq_some_iff.1 h
  rw [List.drop_eq_getElem_cons hi]
  show (List.map List.length (L[i] :: L.drop (i + 1))).sum = _
  rw [List.map_cons, List.sum_cons]
  rfl
theorem asked_ap {w w6 : World} {T1 T2 : TypeId} {base p1 p2 m : Nat} {o1 o2 o1' o2' : Option Nat} {l1 l2 : List UInt8} (h : TwoR w T1 T2 base p1 p2 o1 o2 m l1 l2) (h1 : o1' = o1 ∨ o1' = none)
    (h2 : o2' = o2 ∨ o2' = none ∨ ∃ g, o2' = some g ∧ w6.heap.size ≤ g) (g : Nat) (hg : w.heap.size ≤ g) (hlt : g < w6.heap.size) : Ap g p1 p2 o1' o2' := by
  obtain ⟨d1, d2, d3, d4⟩ := h.new_ap hg
  refine ⟨d1, d2, ?_, ?_⟩
  · rcases h1 with rfl | rfl
    · exact d3
    · simp
  · rcases h2 with rfl | rfl | ⟨g', rfl, hg'⟩
    · exact d4
    · simp
    · intro e; injection e with e; omega
/-- a row of bools, asked whether there is a true one at a place -/
theorem turn_cases {w : World} {A2 : Option Addr} {ts : List Bool} (h : RT w w.heap.size A2 ts) (nt i : Nat) (hn : nt = ts.length) :
    (i < nt ∧ ∃ b f, A2 = some ⟨b, f, none⟩ ∧ Hid (∀ w', Below w.heap.size w w' → w'.cell? ⟨b, f + i, none⟩ = some (.bool true))) ∨
    (i < nt ∧ ∃ b f, A2 = some ⟨b, f, none⟩ ∧ Hid (∀ w', Below w.heap.size w w' → w'.cell? ⟨b, f + i, none⟩ = some (.bool false))) ∨ ¬ i < nt := by
  by_cases hi : i < nt
  · obtain ⟨x, hx⟩ : ∃ x, ts[i]? = some x := ⟨_, List.getElem?_eq_getElem (by omega)⟩
    rcases h with rfl | ⟨b, off, rfl, hlt, hc⟩
    · simp at hx
    · have hcx : Hid (∀ w', Below w.heap.size w w' → w'.cell? ⟨b, off + i, none⟩ = some (.bool x)) := Lib.hid fun w' hb => by rw [hb.cell (show b < w.heap.size from hlt)]; exact hc i x hx
      cases x
      · exact .inr (.inl ⟨hi, b, off, rfl, hcx⟩)
      · exact .inl ⟨hi, b, off, rfl, hcx⟩
  · exact .inr (.inr hi)
set_option maxRecDepth 1000000 in
set_option maxHeartbeats 3000000 in
theorem reads_walk (w : World) (hT : TabsL w.heap.size w) (most : Int) (A1 A2 : Option Addr) (L : List (List UInt8)) (ts : List Bool) (nL cL nt ct : Nat) (hnL : nL = L.length) (hnt : nt = ts.length) (hr : RR w w.heap.size A1 L) (ht : RT w w.heap.size A2 ts) (hs : sumL L ≤ 1048576) (hmL : nL ≤ 5864062014634) (hmt : nt ≤ 140737488351232) :
    Calls Tryd.prog 3 #[.int .i64 most, .slice A1 nL cL, .slice A2 nt ct] w fun e w' => Below w.heap.size w w' ∧ e = .returned (.bool true) := by
  have HR := Lib.hid hr
  have HZ := Lib.hid ht
  have HNL := Lib.hid hnL
  have HNT := Lib.hid hnt
  have HS := Lib.hid hs
  have KS := Lib.hid (shown_walk w hT)
  clear hr ht hnL hnt hT hs
  by_cases hbad : most < 1 ∨ 65536 < most
  · go_enter Tryd.func3, Tryd.ntmps3
    go_wp2_with fail
    refine KS.out.mono ?_
    rintro e1 w1 ⟨hb1, rfl⟩
    have HB1 := Lib.hid hb1
    have KB := Lib.hid (new_bad most w1 hbad)
    have KC := Lib.hid (rnew_bad most w1 hbad)
    clear hb1 KS hbad
    go_wp2_with fail
    refine KB.out.mono ?_
    rintro e3 w3 ⟨rfl, rfl⟩
    go_wp2_with (refine KC.out.mono ?_; rintro e4 w4 ⟨rfl, rfl⟩)
    go_ret
    exact ⟨HB1.out, rfl⟩
  obtain ⟨m, rfl⟩ : ∃ m : Nat, most = m := ⟨most.toNat, by omega⟩
  have hm2 : 1 ≤ m := by omega
  have hm3 : m ≤ 65536 := by omega
  clear hbad
  go_enter Tryd.func3, Tryd.ntmps3
  go_wp2_with fail
  refine KS.out.mono ?_
  rintro e1 w1 ⟨hb1, rfl⟩
  have HB1 := Lib.hid hb1
  clear hb1 KS
  go_wp2_with fail
  refine (new_ok m w1 w.heap.size HB1.out.size hm2 hm3).mono ?_
  rintro e2 w2 ⟨rfl, hb2, hR2, hs2⟩
  have HB2 := Lib.hid (HB1.out.trans (hb2.mono HB1.out.size))
  have HR2 := Lib.hid hR2
  clear hb2 hR2
  go_wp2_with fail
  refine (rnew_ok m w2 w.heap.size HB2.out.size hm2 hm3).mono ?_
  rintro e3 w3 ⟨rfl, hb3, hR3, hs3⟩
  have HB3 := Lib.hid (HB2.out.trans (hb3.mono HB2.out.size))
  have H3 : Hid (TwoR w3 48 50 w.heap.size w1.heap.size w2.heap.size none none m [] []) := Lib.hid ⟨HR2.out.below hb3, hR3, by omega, by simp, by simp, .inl rfl⟩
  clear hb3 hR3 HR2 HB1 HB2 hs2 hs3
  generalize w1.heap.size = p1 at *
  generalize w2.heap.size = p2 at *
  go_wp2_with fail
  go_loopg [12] nL (fun k s12 wr => ∃ (i : Nat) (l : List UInt8) (o1 o2 : Option Nat), i + k = nL ∧ s12 = .int .i64 i ∧ Hid (TwoR wr 48 50 w.heap.size p1 p2 o1 o2 m l l) ∧ Hid (Below w.heap.size w wr) ∧ Hid (l.length + sumL (L.drop i) ≤ 1048576))
  case atStart => exact ⟨0, [], none, none, by omega, rfl, H3, HB3, Lib.hid (by simpa using HS.out)⟩
  case round =>
    obtain ⟨i, l, o1, o2, hi, rfl, H, HB, HL⟩ := hrel
    clear H3 HB3
    by_cases hlt : i < nL
    · have hi1 : (i : Int) < (nL : Int) := by omega
      have e1 : IntKind.i64.wrap ((i : Int) + 1) = (i : Int) + 1 := IntWalk.i64_in _ (by omega)
      by_cases h200 : i < 200
      · have hi2 : (i : Int) < 200 := by omega
        obtain ⟨K, hK⟩ : ∃ K, L[i]? = some K := ⟨_, List.getElem?_eq_getElem (by rw [← HNL.out]; exact hlt)⟩
        obtain ⟨b1, f1, Ai, ci, rfl, hb1, hc1, hci, hcm, hrb⟩ := HR.out.at_ hK
        obtain ⟨nk, hnk⟩ : ∃ nk, nk = K.length := ⟨_, rfl⟩
        rw [← hnk] at hc1 hci
        have HC : Hid (∀ w', Below w.heap.size w w' → w'.cell? ⟨b1, f1 + i, none⟩ = some (.slice Ai nk ci)) := Lib.hid fun w' hb => by rw [hb.cell (show b1 < w.heap.size from hb1)]; exact hc1
        have HRB : Hid (RB w w.heap.size Ai K) := Lib.hid hrb
        have HL2 : Hid (l.length + (K.length + sumL (L.drop (i + 1))) ≤ 1048576) := Lib.hid (by rw [← sumL_drop hK]; exact HL.out)
        have hnk2 : nk ≤ 1048576 := by have := HL2.out; omega
        have HNK := Lib.hid hnk
        have hba := (Below.refl wr.heap.size wr).alloc (Nat.le_refl _) (.cells #[] 5)
        have HBa := Lib.hid (HB.out.trans (hba.mono HB.out.size))
        have HTa := Lib.hid (H.out.below hba)
        have kr := HC.out wr HB.out
        have ka := HC.out _ HBa.out
        clear hrb hK hc1 hba HL hnk
        go_wp2_with (at_builtin; go_loud (refine wpList_appQ _ u8S (.tmp 61) (.tmp 65) rfl rfl w.heap.size rfl (OwnQ.nil _ _ (some ⟨wr.heap.size, 0, none⟩)) _ _ rfl HNK.out (HRB.out.below HBa.out) (by have := HNK.out; simp; omega) HBa.out.size ?_); intro v13 own13 w13 hO13 hg13 ho13; rw [List.nil_append] at hO13; obtain ⟨A13, c13, rfl, hc13, hm13, -⟩ := hO13.out; have HB13 := Lib.hid (HBa.out.trans (Below.of_grown0 hg13 HBa.out.size)); have HT13 := Lib.hid (HTa.out.grown0 hg13); have HOA : Hid (OA w13 w.heap.size own13 (.slice A13 K.length c13) K p1 p2 o1 o2) := Lib.hid ⟨hO13, fun g hg => by rcases ho13 with h | h; (rw [h] at hg; cases hg); (rw [h] at hg; injection hg with hg; exact HTa.out.new_ap (by omega))⟩; clear hO13 hg13 ho13 kr ka HBa HTa; rw [← HNK.out] at hc13 HOA ⊢)
        have KF1 := Lib.hid (feed_at w13 w.heap.size p1 o1 m l A13 K nk c13 HNK.out HT13.out.1 (by have h := HOA.out.1.out; rw [HNK.out] at h; exact RB.of_out h) HB13.out.size (by have := HL2.out; omega))
        go_wp2_with fail
        refine KF1.out.mono ?_
        rintro e14 w14 ⟨rfl, o14, hR14, hC14, ho14⟩
        have HT14 := Lib.hid (HT13.out.fed hR14 hC14 ho14)
        have HB14 := Lib.hid (HB13.out.trans (HT13.out.chgB HB13.out.size hC14))
        have HOA14 := Lib.hid (HOA.out.fed1 hC14 ho14)
        have k14 := HC.out _ HB14.out
        have KF2 := Lib.hid (rfeed_at w14 w.heap.size p2 o2 m l Ai K nk ci HNK.out HT14.out.swap.1 ((HRB.out.below HB14.out).mono HB14.out.size) HB14.out.size (by have := HL2.out; omega))
        clear hR14 hC14 ho14 KF1 HOA HT13 HB13 H HB
        go_wp2_with fail
        refine KF2.out.mono ?_
        rintro e15 w15 ⟨rfl, o15, hR15, hC15, ho15⟩
        have HT15 := Lib.hid (HT14.out.swap.fed hR15 hC15 ho15).swap
        have HB15 := Lib.hid (HB14.out.trans (HT14.out.swap.chgB HB14.out.size hC15))
        have HSP := Lib.hid (HOA14.out.fed2 hC15 ho15).sp
        have HL3 : Hid ((l ++ K).length + sumL (L.drop (i + 1)) ≤ 1048576) := Lib.hid (by rw [List.length_append]; have := HL2.out; omega)
        clear hR15 hC15 ho15 KF2 HOA14 HT14 HB14 k14 HRB HC HL2 hc13 hm13 hci hcm HNK
        generalize l ++ K = l2 at *
        go_wp2_with fail
        go_loopg [14] nk (fun k s14 wr2 => ∃ j : Nat, j + k = nk ∧ s14 = .int .i64 j ∧ Hid (Sp wr2 A13 nk w.heap.size p1 p2 o14 o15) ∧ Hid (TwoR wr2 48 50 w.heap.size p1 p2 o14 o15 m l2 l2) ∧ Hid (Below w.heap.size w wr2))
        case atStart => exact ⟨0, by omega, rfl, HSP, HT15, HB15⟩
        case round =>
          obtain ⟨j, hj, rfl, HSP, HT2, HB2⟩ := hrel
          clear HT15 HB15
          by_cases hjl : j < nk
          · have hj1 : (j : Int) < (nk : Int) := by omega
            have e2 : IntKind.i64.wrap ((j : Int) + 1) = (j : Int) + 1 := IntWalk.i64_in _ (by omega)
            obtain ⟨g, o, rfl, hg, hap⟩ := HSP.out.2 (by omega)
            obtain ⟨⟨u, ku⟩, fu⟩ := HSP.out.1 g o rfl j hjl
            have HAP := Lib.hid hap
            clear hap
            go_wp2
            go_roundg (nk - (j + 1))
            case rel => exact ⟨j + 1, by omega, by go_num, Lib.hid (HSP.out.set_ _ _), Lib.hid (HT2.out.store HAP.out _ _), Lib.hid (below_own HB2.out hg _ _)⟩
            case measure => omega
          · have hj1 : ¬ (j : Int) < (nk : Int) := by omega
            clear HSP hj hjl hnk2
            have HQ := Lib.hid (turn_cases HZ.out nt i HNT.out)
            rcases HQ.out with h | h | h
            · obtain ⟨hti, bz, fz, rfl, HCZ⟩ := h
              have hti1 : (i : Int) < (nt : Int) := by omega
              have kz := HCZ.out _ HB2.out
              clear HQ
              go_wp2
              go_roundg (nL - (i + 1))
              case rel => exact ⟨i + 1, l2, o14, o15, by omega, by go_num, HT2, HB2, HL3⟩
              case measure => omega
            case' inr.inl =>
              obtain ⟨hti, bz, fz, rfl, HCZ⟩ := h
              have hti1 : (i : Int) < (nt : Int) := by omega
              have kz := HCZ.out _ HB2.out
              clear HQ
              go_wp2_with fail
            case' inr.inr =>
              have hti1 : ¬ (i : Int) < (nt : Int) := by omega
              clear HQ h
              go_wp2_with fail
            all_goals
              clear hj1
              go_loopg [15] 5 (fun k s15 wr3 => ∃ (t : Nat) (l3 : List UInt8) (o3 o4 : Option Nat), t + k = 5 ∧ s15 = .int .i64 t ∧ Hid (TwoR wr3 48 50 w.heap.size p1 p2 o3 o4 m l3 l3) ∧ Hid (Below w.heap.size w wr3) ∧ Hid (l3.length + sumL (L.drop (i + 1)) ≤ 1048576))
              case atStart => exact ⟨0, l2, o14, o15, by omega, rfl, HT2, HB2, HL3⟩
              case round =>
                obtain ⟨t, l3, o3, o4, htk, rfl, HT3, HB3, HL4⟩ := hrel
                clear HT2 HB2 HL3
                by_cases ht5 : t < 5
                · have ht6 : (t : Int) < 5 := by omega
                  have e3 : IntKind.i64.wrap ((t : Int) + 1) = (t : Int) + 1 := IntWalk.i64_in _ (by omega)
                  obtain ⟨X, er, is, l4, hNX⟩ : ∃ X er is l4, NX m l3 = (X, er, is, l4) := ⟨_, _, _, _, rfl⟩
                  have HNX := Lib.hid hNX
                  have hl3 : l3.length ≤ 140737488355328 := by have := HL4.out; omega
                  have HL5 : Hid (l4.length + sumL (L.drop (i + 1)) ≤ 1048576) := Lib.hid (by have := HL4.out; have := NX_len hNX; omega)
                  have KN1 := Lib.hid (next_walk_s wr w.heap.size p1 o3 m l3 HT3.out.1 HB3.out.size hl3 hm3)
                  clear hNX HL4
                  go_wp2_with fail
                  refine KN1.out.mono ?_
                  rintro e5 w5 hP5
                  obtain ⟨A5, c5, o5, rfl, hV5, hC5, hR5, ho5⟩ := hP5.form HNX.out
                  have HT5 := Lib.hid (HT3.out.asked hR5 hC5 (by rcases ho5 with h | h; exact .inl h; exact .inr (.inl h)))
                  have HB5 := Lib.hid (HB3.out.trans (HT3.out.chgN HB3.out.size hC5))
                  have HV5 := Lib.hid hV5
                  have HO5 := Lib.hid ho5
                  have HSZ : Hid (p2 < wr.heap.size) := Lib.hid HT3.out.2.1.lt.2.1
                  have KN2 := Lib.hid (rnext_walk w5 w.heap.size p2 o4 m l3 HT5.out.swap.1 HB5.out.size hl3 hm3)
                  clear hP5 hV5 hC5 hR5 ho5 KN1
                  go_wp2_with fail
                  refine KN2.out.mono ?_
                  rintro e6 w6 hP6
                  obtain ⟨A6, c6, o6, rfl, hV6, hC6, hR6, ho6⟩ := hP6.form HNX.out
                  have HT6 := Lib.hid (HT5.out.swap.asked hR6 hC6 ho6).swap
                  have HB6 := Lib.hid (HB5.out.trans (HT5.out.swap.chgN HB5.out.size hC6))
                  have HV56 := Lib.hid (HV5.out.chg hC6 HSZ.out (fun g hg => by cases hg))
                  have q5 := HV56.out.conv
                  have q6 := hV6.conv
                  have HSP6 : Hid (Sp w6 A5 X.length w.heap.size p1 p2 o5 o6) := Lib.hid ⟨HV56.out.wr.1, (HV5.out.sp HB3.out.size fun g hg hlt => asked_ap (w6 := w5) HT3.out HO5.out ho6 g hg hlt).2⟩
                  have hX : X.length ≤ 9223372036854775807 := by
                    have h1 := HV56.out.sl.2.1
                    have h2 := HV56.out.sl.2.2.1
                    unfold maxLen at h2
                    omega
                  clear hP6 hV6 hC6 hR6 ho6 KN2 HV5 HV56 HT5 HB5 HT3 HB3 HNX HSZ HO5
                  go_wp2_with fail
                  clear q5 q6
                  go_loopg [23] X.length (fun k s23 wr4 => ∃ j : Nat, j + k = X.length ∧ s23 = .int .i64 j ∧ Hid (Sp wr4 A5 X.length w.heap.size p1 p2 o5 o6) ∧ Hid (TwoR wr4 48 50 w.heap.size p1 p2 o5 o6 m l4 l4) ∧ Hid (Below w.heap.size w wr4))
                  case atStart => exact ⟨0, by omega, rfl, HSP6, HT6, HB6⟩
                  case round =>
                    obtain ⟨j4, hj4, rfl, HSP7, HT7, HB7⟩ := hrel
                    clear HSP6 HT6 HB6
                    by_cases hjl4 : j4 < X.length
                    · have hj5 : (j4 : Int) < (X.length : Int) := by omega
                      have e4 : IntKind.i64.wrap ((j4 : Int) + 1) = (j4 : Int) + 1 := IntWalk.i64_in _ (by omega)
                      obtain ⟨g, o, rfl, hg, hap⟩ := HSP7.out.2 (by omega)
                      obtain ⟨⟨u, ku⟩, fu⟩ := HSP7.out.1 g o rfl j4 hjl4
                      have HAP := Lib.hid hap
                      clear hap
                      go_wp2
                      go_roundg (X.length - (j4 + 1))
                      case rel => exact ⟨j4 + 1, by omega, by go_num, Lib.hid (HSP7.out.set_ _ _), Lib.hid (HT7.out.store HAP.out _ _), Lib.hid (below_own HB7.out hg _ _)⟩
                      case measure => omega
                    · have hj5 : ¬ (j4 : Int) < (X.length : Int) := by omega
                      have KL1 := Lib.hid (left_walk wr w.heap.size p1 _ m _ HT7.out.1)
                      have KL2 := Lib.hid (rleft_walk wr w.heap.size p2 _ m _ HT7.out.swap.1)
                      clear HSP7 hX hj4 hjl4
                      go_wp2_with (first | (refine KL1.out.mono ?_; rintro e30 w30 ⟨rfl, rfl⟩) | (refine KL2.out.mono ?_; rintro e30 w30 ⟨rfl, rfl⟩))
                      go_roundg (5 - (t + 1))
                      case rel => exact ⟨t + 1, l4, o5, o6, by omega, by go_num, HT7, HB7, HL5⟩
                      case measure => omega
                · have ht6 : ¬ (t : Int) < 5 := by omega
                  go_wp2
                  go_roundg (nL - (i + 1))
                  case rel => exact ⟨i + 1, l3, o3, o4, by omega, by go_num, HT3, HB3, HL4⟩
                  case measure => omega
      · have hi2 : ¬ (i : Int) < 200 := by omega
        go_wp2
        go_ret
        exact ⟨HB.out, rfl⟩
    · have hi1 : ¬ (i : Int) < (nL : Int) := by omega
      go_wp2
      go_ret
      exact ⟨HB.out, rfl⟩
end Go.Proofs.YtkemmgfmmfcdlaaDoor
