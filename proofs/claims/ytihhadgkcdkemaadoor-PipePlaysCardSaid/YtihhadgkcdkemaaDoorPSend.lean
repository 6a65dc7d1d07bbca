/-
  The walk of the program's Send. Conditions: the lengths.
-/
import Derived.Test.YtihhadgkcdkemaaDoorPRead
import Derived.Test.YtihhadgkcdkemaaDoorPClone
import Derived.Test.YtihhadgkcdkemaaDoorStepC
import Derived.Deep.RegionLaw
namespace Go.Proofs.YtihhadgkcdkemaaDoor
open Go.RowKit Go.Maps
set_option linter.unusedVariables false
def isP (t : Nat × Nat) : Prop := 1 ≤ t.1 ∧ t.1 ≤ 4
theorem isQ_isP {i : Nat} {t : Nat × Nat} (h : isQ i t) : isP t := by
  rcases h with rfl | rfl | rfl <;> exact ⟨by simp, by simp⟩
theorem uxL : UX Tryd.prog 22 30 1 := by
  obtain ⟨i, h1, h2, h3, h4⟩ := info_parts (show (Tryd.prog.info? 30).map (fun i => (i.zero, i.size, i.bytes)) = some (some (.slice none 0 0), 1, 24) by kernel_rfl)
  exact ⟨Tryd.underlying22, ⟨i, _, h1, h2, rfl, h3, by omega⟩, by omega⟩
/-- new blocks: the message's, the row's -/
def remark (w : World) (own : Nat → Nat × Nat) (i : Nat) (v : Value) : Nat → Nat × Nat := fun k => if k < w.heap.size then own k else if msgBlk v = some k then (4, i) else (3, i)
theorem remark_old {w : World} {own : Nat → Nat × Nat} {i : Nat} {v : Value} {k : Nat} (h : k < w.heap.size) : remark w own i v k = own k := if_pos h
theorem sent_q {w w1 w2 w3 : World} {own : Nat → Nat × Nat} {i q : Nat} {x : Pq} {v v1 v3 : Value} {g g3 : Option Nat} {xs : List Value} {b : List UInt8}
    (h0 : own q = (2, i)) (hB : Blk w q 53 #[.int .i64 (x.most : Int), v]) (hX : OwnX 1 w g v xs) (hg : ∀ b, g = some b → own b = (3, i)) (hM : MsL w own i xs x.l)
    (hb1 : Below w.heap.size w w1) (hV : OwnV w1 w.heap.size v1 b) (hv1 : ∀ k, msgBlk v1 = some k → w.heap.size ≤ k ∧ k < w1.heap.size) (hb2 : Below w1.heap.size w1 w2)
    (hg3 : w2.grownBy w3 g) (hX3 : OwnX 1 w3 g3 v3 (xs ++ [v1])) (ho : g3 = g ∨ g3 = some w2.heap.size) :
    QSt (w3.setCell ⟨q, 1, none⟩ v3) (remark w own i v1) i q { x with l := x.l ++ [b] } ∧ Turn (isQ i) w (w3.setCell ⟨q, 1, none⟩ v3) own (remark w own i v1) := by
  have hqg : ∀ k, g = some k → q ≠ k := fun k hk e => by
    have := hg k hk
    rw [← e, h0] at this
    cases this
  have hgw : ∀ k, g = some k → k < w.heap.size := fun k hk => hX.lt hk
  have s12 := hb2.size
  have s01 := hb1.size
  have s23 := hg3.size
  have hqw := hB.lt
  -- blocks that were there
  have old : ∀ k, k < w.heap.size → k ≠ q → g ≠ some k → (w3.setCell ⟨q, 1, none⟩ v3).heap[k]? = w.heap[k]? := fun k hk h1 h2 => by
    rw [Below.heap_setCell w3 ⟨q, 1, none⟩ v3 k h1, hg3.block k (by omega) (fun e => h2 e.symm), hb2.block k (by omega), hb1.block k hk]
  have B3 : Blk w3 q 53 #[.int .i64 (x.most : Int), v] := ((hB.keep hb1).keep hb2).grown hg3 fun e => hqg q e.symm rfl
  have hsz : (w3.setCell ⟨q, 1, none⟩ v3).heap.size = w3.heap.size := by simp
  have hg3q : ∀ k, g3 = some k → k ≠ q := fun k hk => by
    rcases ho with ho | ho
    · rw [ho] at hk; exact fun e => hqg k hk e.symm
    · rw [ho] at hk; cases hk; omega
  refine ⟨⟨by rw [remark_old hqw]; exact h0, v3, g3, xs ++ [v1], B3.set_ 1 v3, hX3.same (Nat.le_of_eq hsz.symm) (fun k hk => Below.heap_setCell w3 ⟨q, 1, none⟩ v3 k (hg3q k hk)), fun k hk => ?_, by simp [hM.1], fun j u l hj hl => ?_, ?_⟩, ⟨?_, ?_, ?_, ?_, fun k hk hn => old k hk (fun e => hn (e ▸ .inl h0)) (fun e => hn (.inr (.inl (hg k e)))), fun k hk _ => remark_old hk⟩⟩
  · rcases ho with ho | ho
    · rw [ho] at hk
      rw [remark_old (hgw k hk)]
      exact hg k hk
    · rw [ho] at hk
      cases hk
      unfold remark
      rw [if_neg (by omega), if_neg (fun e => by have := (hv1 _ e).2; omega)]
  · rcases Nat.lt_or_ge j xs.length with hjl | hjl
    · rw [List.getElem?_append_left hjl] at hj
      rw [List.getElem?_append_left (by rw [← hM.1]; exact hjl)] at hl
      refine (hM.2.1 j u l hj hl).keep (by omega) fun k hk hk4 => ⟨old k hk (fun e => ?_) (fun e => ?_), remark_old hk⟩
      · rw [e, h0] at hk4; cases hk4
      · have := hg k e; rw [hk4] at this; cases this
    · rw [List.getElem?_append_right hjl] at hj
      rw [List.getElem?_append_right (by rw [← hM.1]; exact hjl), ← hM.1] at hl
      have hj0 : j - xs.length = 0 := by
        have := (List.getElem?_eq_some_iff.1 hj).1
        simpa using this
      rw [hj0] at hj hl
      obtain rfl : v1 = u := by simpa using hj
      obtain rfl : b = l := by simpa using hl
      refine ⟨(hV.mono (Nat.zero_le _)).sameB (by omega) fun k hk => ?_, fun k hk => ?_⟩
      · obtain ⟨h1, h2⟩ := hv1 k hk
        rw [Below.heap_setCell w3 ⟨q, 1, none⟩ v3 k (by show k ≠ q; omega), hg3.block k (by omega) (fun e => by have := hgw k e.symm; omega), hb2.block k h2]
      · obtain ⟨h1, h2⟩ := hv1 k hk
        refine ⟨?_, by omega⟩
        unfold remark
        rw [if_neg (by omega), if_pos hk]
  · rw [List.pairwise_append]
    refine ⟨hM.2.2, by simp, fun u hu z hz => ?_⟩
    obtain rfl : z = v1 := by simpa using hz
    intro k hk hk2
    obtain ⟨j, hj, rfl⟩ := List.mem_iff_getElem.1 hu
    have hj2 : j < x.l.length := by rw [← hM.1]; exact hj
    have := ((hM.2.1 j _ _ (List.getElem?_eq_getElem hj) (List.getElem?_eq_getElem hj2)).2 k hk).2
    have := (hv1 k hk2).1
    omega
  · exact (show w3.os = w.os from hg3.os.trans (hb2.os.trans hb1.os))
  · exact (show w3.tape = w.tape from hg3.tape.trans (hb2.tape.trans hb1.tape))
  · exact (show w3.output = w.output from hg3.output.trans (hb2.output.trans hb1.output))
  · omega
/-- what Send leaves -/
def SendPost (w : World) (own : Nat → Nat × Nat) (pb : Nat) (S : List Pq) (f t : ByteArray) (l : List UInt8) (e : Ending) (w' : World) : Prop :=
  ∃ own', PSt w' own' pb (sendQ S f t l).1 ∧ e = .returned (.int .i64 (sendQ S f t l).2) ∧ Turn isP w w' own own'
theorem SendPost.no {w w' : World} {own : Nat → Nat × Nat} {pb : Nat} {S : List Pq} {f t : ByteArray} {l : List UInt8} {e : Ending} {er : Int} (h : PSt w own pb S) (hs : sendQ S f t l = (S, er)) (he : e = .returned (.int .i64 er)) {n : Nat} (hw : w' = w.drewN n) : SendPost w own pb S f t l e w' := by
  subst hw
  unfold SendPost
  rw [hs]
  exact ⟨own, h, he, (Turn.refl isP w own).drewN n⟩
theorem one_new (w : World) (E : TypeId) (x : Value) : ∀ ad, (some (⟨w.heap.size, 0, none⟩ : Addr)) = some ad → ∀ j u, ([x] : List Value)[j]? = some u → (w.alloc (.cells #[x] E)).cell? (ad.add j) = some u := by
  intro ad e j u hu
  cases e
  have hj : j = 0 := by
    have := (List.getElem?_eq_some_iff.1 hu).1
    simpa using this
  subst hj
  simp at hu
  subst hu
  rw [Addr.add_lit]
  exact (Blk.new w E #[x]).cell 0
theorem one_sl (A : Option Addr) (n c : Nat) : ∀ u ∈ ([.slice A n c] : List Value), u.oneCell' = true := by
  intro u hu
  obtain rfl : u = _ := by simpa using hu
  rfl
set_option maxRecDepth 100000 in
set_option maxHeartbeats 1000000 in
theorem send_walk (w : World) (own : Nat → Nat × Nat) (pb : Nat) (S : List Pq) (h : PSt w own pb S) (f t : ByteArray) (hf : f.size ≤ maxLen) (ht : t.size ≤ maxLen)
    (Ab : Option Addr) (l : List UInt8) (n c : Nat) (hn : n = l.length) (hr : RB w w.heap.size Ab l) (hA : Ab = none → n = 0) (hm : n ≤ maxLen) :
    Calls Tryd.prog 8 #[.pointer (some ⟨pb, 0, none⟩), .string f, .string t, .slice Ab n c] w (SendPost w own pb S f t l) := by
  unfold maxLen at hm
  rcases h.find f t hf ht with ⟨e, mb, c0, hL⟩ | ⟨i, x, q, mb, e, hx, ⟨ho, hu⟩, hq, c0, hL⟩
  · have HN : Hid (sendQ S f t l = (S, 52)) := Lib.hid (by unfold sendQ; rw [e])
    have HP := Lib.hid h
    have hL0 := hL 0
    rw [drewN0] at hL0
    clear hf ht hL e h hr hA hn hm
    go_enter Tryd.func8, Tryd.ntmps8
    go_wp2
    go_ret
    exact SendPost.no HP.out HN.out rfl (drewN0 _).symm
  · have hE : sendQ S f t l = if 65536 < l.length then (S, 53) else if x.l.length = x.most then (S, 51) else (S.set i { x with l := x.l ++ [l] }, 0) := by
      unfold sendQ; rw [e]; simp only [hx]
    obtain ⟨A, cq, k0, k1⟩ := hq.cells
    have HP := Lib.hid h
    have hL0 := hL 0
    rw [drewN0] at hL0
    have HN := Lib.hid hn
    by_cases h6 : 65536 < l.length
    · have HE : Hid (sendQ S f t l = (S, 53)) := Lib.hid (by rw [hE, if_pos h6])
      have h7 : (65536 : Int) < (n : Int) := by omega
      clear hf ht hL e h hr hA hn hx ho hu hq hE h6 k0 k1
      go_enter Tryd.func8, Tryd.ntmps8
      go_wp2
      go_ret
      exact SendPost.no HP.out HE.out rfl (drewN0 _).symm
    · have h7 : ¬ (65536 : Int) < (n : Int) := by omega
      have HLx := Lib.hid (show x.l.length ≤ x.most from ho.2.2.2.2.1)
      have HMx := Lib.hid (show x.most ≤ 64 from ho.2.2.2.1)
      rw [if_neg h6] at hE
      by_cases h8 : x.l.length = x.most
      · have HE : Hid (sendQ S f t l = (S, 51)) := Lib.hid (by rw [hE, if_pos h8])
        rw [h8] at k1
        have h9 : ((x.most : Int) == (x.most : Int)) = true := by simp
        clear hf ht hL e h hr hA hn hx ho hu hq hE h6 h8
        generalize x.most = m at *
        go_enter Tryd.func8, Tryd.ntmps8
        go_wp2
        go_quiet (fail)
        go_wp2
        go_ret
        exact SendPost.no HP.out HE.out rfl rfl
      · have HE : Hid (sendQ S f t l = (S.set i { x with l := x.l ++ [l] }, 0)) := Lib.hid (by rw [hE, if_neg h8])
        have h9 : ((x.l.length : Int) == (x.most : Int)) = false := beq_eq_false_iff_ne.2 (by omega)
        have HL6 : Hid (l.length ≤ 65536 ∧ x.l.length < x.most) := Lib.hid ⟨by omega, by have := HLx.out; omega⟩
        obtain ⟨h0, v, g, xs, hB, hX, hg, hM⟩ := hq
        obtain rfl : v = .slice A x.l.length cq := by
          have := (hB.cell 1).symm.trans k1
          simpa using this
        have HON : Hid (okP { x with l := x.l ++ [l] }) := Lib.hid (by
          obtain ⟨o1, o2, o3, o4, o5, o6⟩ := ho
          refine ⟨o1, o2, o3, o4, by rw [List.length_append]; have := HL6.out.2; show x.l.length + 1 ≤ x.most; omega, fun b hb => ?_⟩
          rcases List.mem_append.1 hb with hb | hb
          · exact o6 b hb
          · obtain rfl : b = l := by simpa using hb
            exact HL6.out.1)
        have HU := Lib.hid hu
        have H0 := Lib.hid h0
        have HB := Lib.hid hB
        have HX := Lib.hid hX
        have HG := Lib.hid hg
        have HM := Lib.hid hM
        have HR := Lib.hid hr
        have HA := Lib.hid hA
        clear hf ht hL e h hr hA hn hx ho hu hE h6 h8 h0 hB hX hg hM
        generalize x.l.length = m at *
        go_enter Tryd.func8, Tryd.ntmps8
        go_wp2
        go_quiet (fail)
        go_wp2
        have HT0 : Hid (Turn isP w (w.drewN nq) own own) := Lib.hid ((Turn.refl isP w own).drewN nq)
        have HU0 : Hid (Upd (w.drewN nq) own pb S i q x) := Lib.hid fun w' own' y a => HU.out w' own' y ⟨a.os, a.tape, a.output, a.size, a.block, a.mark⟩
        have HB0 : Hid (Blk (w.drewN nq) q 53 #[.int .i64 (x.most : Int), .slice A m cq]) := Lib.hid HB.out
        have HX0 : Hid (OwnX 1 (w.drewN nq) g (.slice A m cq) xs) := Lib.hid HX.out
        have HM0 : Hid (MsL (w.drewN nq) own i xs x.l) := Lib.hid HM.out
        have HR0 : Hid (RB (w.drewN nq) (w.drewN nq).heap.size Ab l) := Lib.hid HR.out
        have k1 : (w.drewN nq).cell? ⟨q, 1, none⟩ = some (.slice A m cq) := HB0.out.cell 1
        clear HP HU HB HX HM HR hL0 c0 k0
        generalize w.drewN nq = w0 at *
        have KK : Hid (∀ w', Below w0.heap.size w0 w' → w'.cell? ⟨q, 1, none⟩ = some (.slice A m cq) ∧ w'.frozen? ⟨q, 1, none⟩ = false) := Lib.hid fun w' hb => ⟨(HB0.out.keep hb).cell 1, (HB0.out.keep hb).frozen 1⟩
        have HBd : Hid (Below w0.heap.size w0 w0.drew) := Lib.hid (bdrewN (Below.refl _ _) 1)
        have k1d : w0.drew.cell? ⟨q, 1, none⟩ = some (.slice A m cq) := k1
        go_region_law (first
          | (refine step_calls rfl #[.tmp 45] #[30] (by rfl) Tryd.func16 (by kernel_rfl) (by kernel_rfl) #[.slice Ab n c] (by simp [Act.eval, Act.put]) (clone_walk w0.drew Ab l n c HN.out HR0.out HA.out (by have := HL6.out.1; have := HN.out; omega)) ?_; rintro e1 w1 ⟨hb1, A1, c1, rfl, hV1, hv1⟩; refine ⟨_, rfl, ?_⟩; have HB1 := Lib.hid (HBd.out.trans hb1); have HV1 := Lib.hid hV1; have Hv1 := Lib.hid hv1; have hab := (Below.refl w1.heap.size w1).alloc (Nat.le_refl _) (.cells #[.slice A1 l.length c1] 30); have HB2 := Lib.hid (HB1.out.trans (hab.mono HB1.out.size)); have k1' := (KK.out _ HB1.out).1; have k1'' := (KK.out _ HB2.out).1; clear hb1 hV1 hv1 hab)
          | (refine step_appX (P := Tryd.prog) _ rfl uxL (.tmp 44) (.tmp 47) rfl (by rfl) (HX0.out.below HB2.out fun k hk => HX0.out.lt hk) (some ⟨w1.heap.size, 0, none⟩) 1 1 (by rfl) [.slice A1 l.length c1] rfl (fun h => by cases h) (one_new w1 30 _) (one_sl _ _ _) (by have := HX0.out.form.1; have := HL6.out.2; have := HMx.out; omega) ?_; intro v3 g3 w3 hX3 hG3 ho3; obtain ⟨A3, n3, c3, rfl, -⟩ := hX3.sl; have HX3 := Lib.hid hX3; have HG3 := Lib.hid hG3; have HO3 := Lib.hid ho3; have hB3 := (HB0.out.keep HB2.out).grown hG3 (fun e => by have := HG.out q e.symm; rw [H0.out] at this; cases this); have k3 := hB3.cell 1; have f3 := hB3.frozen 1; clear hX3 hG3 ho3 hB3))
        all_goals
          go_wp2
          go_ret
          have hs := sent_q (w := w0) (x := x) (b := l) H0.out HB0.out HX0.out HG.out HM0.out HB1.out HV1.out Hv1.out ((Below.refl w1.heap.size w1).alloc (Nat.le_refl _) (.cells #[.slice A1 l.length c1] 30)) HG3.out HX3.out HO3.out
          unfold SendPost
          rw [HE.out]
          exact ⟨_, HU0.out _ _ _ hs.2 rfl rfl HON.out hs.1, rfl, HT0.out.trans (hs.2.mono fun t => isQ_isP)⟩
end Go.Proofs.YtihhadgkcdkemaaDoor
