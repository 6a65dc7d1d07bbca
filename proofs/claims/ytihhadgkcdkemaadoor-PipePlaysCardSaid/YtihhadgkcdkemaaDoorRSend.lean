/-
  The walk of the document's Send. Conditions: the sizes.
-/
import Derived.Test.YtihhadgkcdkemaaDoorRUpd
import Derived.Test.YtihhadgkcdkemaaDoorStepC
import Derived.BigQuiet
import Derived.Deep.QuietTactic
import Derived.Deep.RegionLaw
namespace Go.Proofs.YtihhadgkcdkemaaDoor
open Go.RowKit Go.Maps
set_option linter.unusedVariables false
def RSendPost (w : World) (own : Nat → Nat × Nat) (rb : Nat) (S : List Pq) (f t : ByteArray) (l : List UInt8) (e : Ending) (w' : World) : Prop :=
  ∃ own', RSt w' own' rb (sendQ S f t l).1 ∧ Turn isR w w' own own' ∧ e = .returned (.int .i64 (sendQ S f t l).2)
theorem RSendPost.no {w w' : World} {own : Nat → Nat × Nat} {rb : Nat} {S : List Pq} {f t : ByteArray} {l : List UInt8} {e : Ending} {er : Int} (h : RSt w own rb S) (hs : sendQ S f t l = (S, er)) (he : e = .returned (.int .i64 er)) {n : Nat} (hw : w' = w.drewN n) : RSendPost w own rb S f t l e w' := by
  subst hw
  unfold RSendPost
  rw [hs]
  exact ⟨own, h, (Turn.refl isR w own).drewN n, he⟩
set_option maxRecDepth 100000 in
set_option maxHeartbeats 4000000 in
theorem rsend_walk (w : World) (own : Nat → Nat × Nat) (rb : Nat) (S : List Pq) (h : RSt w own rb S) (hS : S.length ≤ 100000) (f t : ByteArray)
    (Ab : Option Addr) (l : List UInt8) (n c : Nat) (hn : n = l.length) (hr : RB w w.heap.size Ab l) (hm : n ≤ maxLen) :
    Calls Tryd.prog 19 #[.pointer (some ⟨rb, 0, none⟩), .string f, .string t, .slice Ab n c] w (RSendPost w own rb S f t l) := by
  unfold maxLen at hm
  have K := Lib.hid (place_walk w own rb S h f t)
  unfold placeI at K
  have HP := Lib.hid h
  cases e : idxQ f t S with
  | none =>
    rw [e] at K
    have HN : Hid (sendQ S f t l = (S, 52)) := Lib.hid (by unfold sendQ; rw [e])
    clear e h hr hn
    go_enter Tryd.func19, Tryd.ntmps19
    go_wp2_with fail
    with_reducible refine K.out.mono ?_
    rintro e w1 ⟨rfl, rfl⟩
    go_wp2
    go_ret
    exact RSendPost.no HP.out HN.out rfl (drewN0 _).symm
  | some i =>
    rw [e] at K
    simp only [] at K
    obtain ⟨x, hx, -, -⟩ := idxQ_some e
    have hE : sendQ S f t l = if 65536 < l.length then (S, 53) else if x.l.length = x.most then (S, 51) else (S.set i { x with l := x.l ++ [l] }, 0) := by
      unfold sendQ; rw [e]; simp only [hx]
    have hi0 : ¬ (i : Int) < 0 := by omega
    have HN := Lib.hid hn
    by_cases h6 : 65536 < l.length
    · have HE : Hid (sendQ S f t l = (S, 53)) := Lib.hid (by rw [hE, if_pos h6])
      have h7 : (65536 : Int) < (n : Int) := by omega
      clear e h hr hn hx hE h6
      go_enter Tryd.func19, Tryd.ntmps19
      go_wp2_with fail
      with_reducible refine K.out.mono ?_
      rintro e w1 ⟨rfl, rfl⟩
      go_wp2
      go_ret
      exact RSendPost.no HP.out HE.out rfl (drewN0 _).symm
    have h7 : ¬ (65536 : Int) < (n : Int) := by omega
    rw [if_neg h6] at hE
    obtain ⟨b, off, nr, cr, u, R⟩ := h.row hx
    obtain ⟨g, xs, hX, hg, hM⟩ := R.rl
    obtain ⟨Ar, m, c1, rfl, hx1, hx2, hx3⟩ := hX.sl
    have hm1 : m = x.l.length := by rw [← hM.1, hx1, Nat.mul_one]
    have hin : (i : Int) < (nr : Int) := by have := (List.getElem?_eq_some_iff.1 hx).1; have := R.len; omega
    have hio : (i : Int) ≤ 100000 := by have := (List.getElem?_eq_some_iff.1 hx).1; omega
    have hi2 : (0 : Int) ≤ (i : Int) := by omega
    have o4 := R.ok.2.2.2.1
    have o5 := R.ok.2.2.2.2.1
    have k0 := R.head
    have k2 := R.most
    have k3 := R.row
    have f3 := R.frozen
    have HR := Lib.hid R
    have HX := Lib.hid hX
    have HG := Lib.hid hg
    have HM := Lib.hid hM
    have HRB := Lib.hid hr
    have HM1 := Lib.hid hm1
    clear e h hr hn hx R hX hg hM
    rw [← hm1] at hE o5
    by_cases h8 : m = x.most
    · have HE : Hid (sendQ S f t l = (S, 51)) := Lib.hid (by rw [hE, if_pos h8])
      have h9 : (x.most : Int) ≤ (m : Int) := by omega
      clear hE h8 hm1 HM1
      generalize x.most = q at *
      go_enter Tryd.func19, Tryd.ntmps19
      go_wp2_with fail
      with_reducible refine K.out.mono ?_
      rintro e w1 ⟨rfl, rfl⟩
      go_wp2
      go_quiet (fail)
      go_wp2
      go_ret
      exact RSendPost.no HP.out HE.out rfl rfl
    have HE : Hid (sendQ S f t l = (S.set i { x with l := x.l ++ [l] }, 0)) := Lib.hid (by rw [hE, if_neg h8])
    have h9 : ¬ (x.most : Int) ≤ (m : Int) := by omega
    have HO : Hid (okP { x with l := x.l ++ [l] }) := Lib.hid (by
      obtain ⟨o1, o2, o3, o4, _, o6⟩ := HR.out.ok
      refine ⟨o1, o2, o3, o4, by rw [List.length_append]; have := HM1.out; show x.l.length + 1 ≤ x.most; omega, fun b hb => ?_⟩
      rcases List.mem_append.1 hb with hb | hb
      · exact o6 b hb
      · obtain rfl : b = l := by simpa using hb
        omega)
    have HL6 : Hid (l.length ≤ 65536 ∧ m ≤ 64) := Lib.hid ⟨by omega, by omega⟩
    clear hE h6 h8 hm1
    obtain ⟨q, hq⟩ : ∃ q, x.most = q := ⟨_, rfl⟩
    rw [hq] at k2 h9 o4 o5
    clear hq
    go_enter Tryd.func19, Tryd.ntmps19
    go_wp2_with fail
    with_reducible refine K.out.mono ?_
    rintro e w1 ⟨rfl, rfl⟩
    go_wp2
    go_quiet (fail)
    have HT0 : Hid (Turn isR w1 (w1.drewN nq) own own) := Lib.hid ((Turn.refl isR w1 own).drewN nq)
    have HR0 : Hid (RRow (w1.drewN nq) own rb S i x b off nr cr (.slice Ar m c1)) := Lib.hid ⟨HR.out.len, HR.out.le, HR.out.mx, HR.out.head, HR.out.fr, HR.out.tt, HR.out.most, HR.out.row, HR.out.frozen, HR.out.rl, HR.out.lt, HR.out.mark, HR.out.rlt, HR.out.rmark, HR.out.ok, fun w3 own' y u' a b1 b2 b3 b4 b5 => by have r := HR.out.upd w3 own' y u' ⟨a.os, a.tape, a.output, a.size, a.block, a.mark⟩ b1 b2 b3 b4 b5; exact ⟨r.1, ⟨r.2.os, r.2.tape, r.2.output, r.2.size, r.2.block, r.2.mark⟩⟩⟩
    have HX0 : Hid (OwnX 1 (w1.drewN nq) g (.slice Ar m c1) xs) := Lib.hid HX.out
    have HM0 : Hid (MsR (w1.drewN nq) own xs x.l) := Lib.hid HM.out
    have HRB0 : Hid (RB (w1.drewN nq) (w1.drewN nq).heap.size Ab l) := Lib.hid HRB.out
    clear K HP k0 k2 k3 f3 HR HX HM HRB
    generalize w1.drewN nq = w0 at *
    have KK : Hid (∀ w', Below w0.heap.size w0 w' → w'.cell? ⟨rb, 0, none⟩ = some (.slice (some ⟨b, off, none⟩) nr cr) ∧ w'.cell? ⟨b, off + i * 4 + 3, none⟩ = some (.slice Ar m c1) ∧ w'.frozen? ⟨b, off + i * 4 + 3, none⟩ = false) := Lib.hid fun w' hb => ⟨(hb.cell HR0.out.rlt).trans HR0.out.head, (hb.cell HR0.out.lt).trans HR0.out.row, (hb.frozen HR0.out.lt).trans HR0.out.frozen⟩
    have HBd : Hid (Below w0.heap.size w0 w0.drew) := Lib.hid (bdrewN (Below.refl _ _) 1)
    have HBa : Hid (Below w0.heap.size w0 (w0.drew.alloc (.cells #[] 5))) := Lib.hid (HBd.out.alloc HBd.out.size _)
    obtain ⟨h0, h3, -⟩ := KK.out _ HBd.out
    obtain ⟨ha0, ha3, -⟩ := KK.out _ HBa.out
    have he0 : (w0.alloc (.cells #[] 5)).cell? ⟨rb, 0, none⟩ = some (.slice (some ⟨b, off, none⟩) nr cr) := ha0
    have he3 : (w0.alloc (.cells #[] 5)).cell? ⟨b, off + i * 4 + 3, none⟩ = some (.slice Ar m c1) := ha3
    clear ha0 ha3
    go_wp2_with fail
    go_region_law (first
      | (refine step_appQ (P := Tryd.prog) _ rfl u8P (.tmp 53) (.tmp 54) rfl w0.heap.size (by rfl) (OwnQ.nil _ _ _) n c (by rfl) HN.out (HRB0.out.below HBa.out) (by have := HL6.out.1; simp; omega) HBa.out.size ?_; intro v1 g1 w2 hQ2 hG2 ho2; rw [List.nil_append] at hQ2; have hb2 := HBa.out.grown hG2 HBa.out.size (fun k h => by cases h); have HB2 := Lib.hid hb2; have HQ2 := Lib.hid hQ2; obtain ⟨A1, n1, rfl, -⟩ := hQ2; have HB3 := Lib.hid (hb2.alloc hb2.size (.cells #[.slice A1 l.length n1] 30)); obtain ⟨hb0, hb3, -⟩ := KK.out _ HB2.out; obtain ⟨hc0, hc3, -⟩ := KK.out _ HB3.out; clear hG2 ho2 hb2)
      | (refine step_appX (P := Tryd.prog) _ rfl uxL (.tmp 52) (.tmp 56) rfl (by rfl) (HX0.out.below HB3.out fun k hk => HX0.out.lt hk) (some ⟨w2.heap.size, 0, none⟩) 1 1 (by rfl) [.slice A1 l.length n1] rfl (fun h => by cases h) (one_new w2 30 _) (one_sl _ _ _) (by have := HX0.out.form.1; have := HL6.out.2; omega) ?_; intro v3 g3 w3 hX3 hG3 ho3; obtain ⟨A3, n3, c3, rfl, -⟩ := hX3.sl; have HX3 := Lib.hid hX3; have HG3 := Lib.hid hG3; have HO3 := Lib.hid ho3; have hbk : w3.heap[b]? = (w2.alloc (.cells #[.slice A1 l.length n1] 30)).heap[b]? := hG3.block b (Nat.lt_of_lt_of_le HR0.out.lt HB3.out.size) (fun e => by have := HG.out b e.symm; rw [HR0.out.mark] at this; cases this); have hrk : w3.heap[rb]? = (w2.alloc (.cells #[.slice A1 l.length n1] 30)).heap[rb]? := hG3.block rb (Nat.lt_of_lt_of_le HR0.out.rlt HB3.out.size) (fun e => by have := HG.out rb e.symm; rw [HR0.out.rmark] at this; cases this); have hd0 : w3.cell? ⟨rb, 0, none⟩ = some (.slice (some ⟨b, off, none⟩) nr cr) := (World.cell?_of_block hrk).trans hc0; have hd3 : w3.cell? ⟨b, off + i * 4 + 3, none⟩ = some (.slice Ar m c1) := (World.cell?_of_block hbk).trans hc3; have fd3 : w3.frozen? ⟨b, off + i * 4 + 3, none⟩ = false := (World.frozen?_of_block hbk).trans (KK.out _ HB3.out).2.2; clear hX3 hG3 ho3 hbk hrk))
    all_goals
      go_wp2
      go_ret
      have hs := rsent HX0.out HG.out HM0.out HB2.out HQ2.out ((Below.refl w2.heap.size w2).alloc (Nat.le_refl _) (.cells #[.slice A1 l.length n1] 30)) HG3.out HX3.out HO3.out
      have hu := HR0.out.upd _ _ { x with l := x.l ++ [l] } (.slice A3 n3 c3) hs.2 rfl rfl rfl HO.out hs.1
      unfold RSendPost
      rw [HE.out]
      exact ⟨_, hu.1, HT0.out.trans hu.2, rfl⟩
end Go.Proofs.YtihhadgkcdkemaaDoor
