/-
  The walk of HeaderCovers. It asks that MaxLen is a number, and the size.
-/
import Derived.Test.YtgbbadbffcjamaaDoorHdSh
namespace Go.Proofs.YtgbbadbffcjamaaDoor
open Go.RowKit
set_option linter.unusedVariables false
/-- fields one behind the other, from a to e -/
def chainF (N a e : Nat) : List Fd → Prop
  | [] => a = e
  | g :: r => g.fr = a ∧ a < g.tt ∧ g.tt ≤ N ∧ chainF N g.tt e r
theorem chainF_snoc {N e e' : Nat} {g : Fd} (hg : g.fr = e ∧ e < g.tt ∧ g.tt ≤ N ∧ g.tt = e') : ∀ {L : List Fd} {a : Nat}, chainF N a e L → chainF N a e' (L ++ [g])
  | [], a, h => by
    have h : a = e := h
    subst h
    exact ⟨hg.1, hg.2.1, hg.2.2.1, hg.2.2.2⟩
  | x :: L, a, h => ⟨h.1, h.2.1, h.2.2.1, chainF_snoc hg h.2.2.2⟩
theorem chainF_last {N e e' : Nat} {g g' : Fd} (hf : g'.fr = g.fr) (he : e < g'.tt) (hN : g'.tt ≤ N) (ht : g'.tt = e') : ∀ {L : List Fd} {a : Nat}, chainF N a e (L ++ [g]) → chainF N a e' (L ++ [g'])
  | [], a, h => by
    obtain ⟨h1, h2, h3, h4⟩ := h
    have h4 : g.tt = e := h4
    exact ⟨by rw [hf]; exact h1, by omega, hN, ht⟩
  | x :: L, a, h => ⟨h.1, h.2.1, h.2.2.1, chainF_last hf he hN ht h.2.2.2⟩
theorem lnP_nil {d : List UInt8} {q : Nat} (h : lnP d = ([], q)) (hd : d ≠ []) : q = 2 ∧ d.take 2 = [13, 10] := by
  unfold lnP at h
  cases e : cutCR d with
  | none => rw [e] at h; injection h with h1 _; exact absurd h1 hd
  | some xy =>
    obtain ⟨x, y⟩ := xy
    rw [e] at h
    injection h with h1 h2
    obtain ⟨h3, _⟩ := cutCR_some e
    subst h1
    exact ⟨h2.symm, by rw [h3]; rfl⟩
theorem splH_chain {D : List UInt8} : ∀ (f at_ : Nat) (out L : List Fd) (b : Nat), chainF D.length 0 at_ out → at_ ≤ D.length → splH D f at_ out = (L, b) →
    ∃ e, e ≤ D.length ∧ chainF D.length 0 e L ∧ (b = e ∨ (b = e + 2 ∧ b ≤ D.length ∧ (D.drop e).take 2 = [13, 10]))
  | 0, at_, out, L, b, h, hat, hs => by
    injection hs with h1 h2
    subst h1 h2
    exact ⟨_, hat, h, .inl rfl⟩
  | f + 1, at_, out, L, b, h, hat, hs => by
    by_cases hl : at_ < D.length
    · obtain ⟨X, q, hX⟩ : ∃ X q, lnP (D.drop at_) = (X, q) := ⟨_, _, rfl⟩
      have hne : D.drop at_ ≠ [] := by
        intro e
        have := congrArg List.length e
        rw [List.length_drop] at this
        simp at this
        omega
      have hq := lnP_pos hne
      have hqn := (lnP_le (D.drop at_)).2.1
      rw [hX] at hq hqn
      rw [List.length_drop] at hqn
      simp only [] at hq hqn
      by_cases hA : out ≠ [] ∧ blH X = true
      · obtain ⟨L0, g, rfl⟩ := getLast_some hA.1
        rw [splH_more hl (by rw [hX]; exact hA.2), hX] at hs
        simp only [] at hs
        exact splH_chain f (at_ + q) _ L b (chainF_last (g := g) (g' := g.more D (at_ + X.length) (at_ + q)) rfl (by show at_ < at_ + q; omega) (by show at_ + q ≤ D.length; omega) rfl h) (by omega) hs
      · cases hc : colP X with
        | some nr =>
          obtain ⟨nm, rs⟩ := nr
          rw [splH_new hl (by rw [hX]; exact hA) (nm := nm) (rs := rs) (by rw [hX]; exact hc), hX] at hs
          simp only [] at hs
          exact splH_chain f (at_ + q) _ L b (chainF_snoc (g := ⟨nm, rs, at_, at_ + q⟩) ⟨rfl, by show at_ < at_ + q; omega, by show at_ + q ≤ D.length; omega, rfl⟩ h) (by omega) hs
        | none =>
          rw [splH_stop hl (by rw [hX]; exact hA) (by rw [hX]; exact hc), hX] at hs
          simp only [] at hs
          injection hs with h1 h2
          subst h1 h2
          refine ⟨at_, hat, h, ?_⟩
          by_cases hx : X = []
          · rw [if_pos hx]
            rw [hx] at hX
            obtain ⟨h3, h4⟩ := lnP_nil hX hne
            exact .inr ⟨by omega, by omega, h4⟩
          · rw [if_neg hx]
            exact .inl rfl
    · rw [splH_end (by omega)] at hs
      injection hs with h1 h2
      subst h1 h2
      exact ⟨_, hat, h, .inl rfl⟩
theorem splP_chain {D : List UInt8} {L : List Fd} {b : Nat} (h : splP D = (L, b)) : ∃ e, e ≤ D.length ∧ chainF D.length 0 e L ∧ (b = e ∨ (b = e + 2 ∧ b ≤ D.length ∧ (D.drop e).take 2 = [13, 10])) :=
  splH_chain D.length 0 [] L b rfl (Nat.zero_le _) h
theorem split11_cases (D : List UInt8) : (∃ L b, split11 D = (L, b, 0) ∧ splP D = (L, b)) ∨ ∃ er, er ≠ 0 ∧ split11 D = ([], 0, er) := by
  obtain ⟨t, ht⟩ : ∃ t, split11 D = if 65536 < t then ([], 0, 111) else if 1000 < (splP D).1.length then ([], 0, 112) else ((splP D).1, (splP D).2, 0) := ⟨_, rfl⟩
  rw [ht]
  by_cases h1 : 65536 < t
  · rw [if_pos h1]; exact .inr ⟨111, by decide, rfl⟩
  · rw [if_neg h1]
    by_cases h2 : 1000 < (splP D).1.length
    · rw [if_pos h2]; exact .inr ⟨112, by decide, rfl⟩
    · rw [if_neg h2]; exact .inl ⟨_, _, rfl, rfl⟩
set_option maxRecDepth 1000000 in
set_option maxHeartbeats 4000000 in
theorem covers_walk (w : World) (hM : Mx w) (A : Option Addr) (l : List UInt8) (n c : Nat) (hn : n = l.length) (hr : RB w w.heap.size A l) (hc : n ≤ c) (hm : c ≤ 9223372036854775807) (hl : n ≤ 1048576) :
    Calls Tryd.prog 3 #[.slice A n c] w fun e w' => Below w.heap.size w w' ∧ e = .returned (.bool true) := by
  have HM := Lib.hid hM
  have HR := Lib.hid hr
  have HN := Lib.hid hn
  have KS := Lib.hid (shown_walk w hM)
  clear hr hn hM
  go_enter Tryd.func3, Tryd.ntmps3
  go_wp2_with fail
  with_reducible refine KS.out.mono ?_
  rintro e1 w1 ⟨hb1, rfl⟩
  have HB1 := Lib.hid hb1
  have KP := Lib.hid (split_walk w1 (HM.out.below hb1) A l n c HN.out ((HR.out.below hb1).mono hb1.size) hc hm (by omega))
  clear hb1 KS
  go_wp2_with fail
  with_reducible refine KP.out.mono ?_
  rintro e2 w2 hp
  rcases split11_cases l with ⟨L, B, hE, hS⟩ | ⟨er, her, hE⟩
  · obtain ⟨hb2, A2, c2, rfl, hR2, hc2, hm2⟩ := hp.get hE
    obtain ⟨e, hel, hch, hcase⟩ := splP_chain hS
    rw [← HN.out] at hel hch
    have HB2 := Lib.hid (HB1.out.trans (hb2.mono HB1.out.size))
    have HR2 := Lib.hid hR2
    have HCH := Lib.hid hch
    have HCS := Lib.hid hcase
    obtain ⟨no, hno⟩ : ∃ no, no = L.length := ⟨_, rfl⟩
    rw [← hno] at hc2 ⊢
    have HNO := Lib.hid hno
    have hz : ((0 : Int) != 0) = false := by decide
    unfold maxLen at hm2
    clear hp hE hS hb2 hR2 hch hcase hno KP
    go_wp2_with fail
    go_loopg [7, 8] no (fun k s7 s8 wr => w2 = wr ∧ ∃ (j a : Nat), j + k = no ∧ s8 = .int .i64 (j : Int) ∧ s7 = .int .i64 (a : Int) ∧ a ≤ n ∧ Hid (chainF n a e (L.drop j)))
    case atStart => exact ⟨rfl, 0, 0, by omega, rfl, rfl, Nat.zero_le _, HCH⟩
    case round =>
      obtain ⟨rfl, j, a, hj, rfl, rfl, han, H⟩ := hrel
      clear HCH
      by_cases hlt : j < no
      · have hj1 : (j : Int) < (no : Int) := by omega
        obtain ⟨g, hg⟩ : ∃ g, L[j]? = some g := ⟨_, List.getElem?_eq_getElem (by rw [← HNO.out]; exact hlt)⟩
        obtain ⟨b, off, rfl, hb, hcl⟩ := HR2.out.at_ hg
        obtain ⟨-, -, k2, k3⟩ := rangeAt_cells hcl
        have hd : L.drop j = g :: L.drop (j + 1) := by
          obtain ⟨h9, rfl⟩ := List.getElem?_eq_some_iff.1 hg
          exact List.drop_eq_getElem_cons h9
        have h := H.out
        rw [hd] at h
        obtain ⟨h1, h2, h3, h4⟩ := h
        have HE := Lib.hid h4
        rw [h1] at k2
        have a1 : ((a : Int) != (a : Int)) = false := by simp
        have a2 : ¬ (g.tt : Int) ≤ (a : Int) := by omega
        have a3 : ¬ (n : Int) < (g.tt : Int) := by omega
        clear hd hcl hg H h4 h1
        go_wp2
        go_roundg (gk - 1)
        case rel => exact ⟨rfl, j + 1, g.tt, by omega, by go_num, rfl, h3, HE⟩
        case measure => omega
      · have hj1 : ¬ (j : Int) < (no : Int) := by omega
        obtain rfl : a = e := by have h := H.out; rwa [List.drop_of_length_le (by rw [← HNO.out]; omega)] at h
        rcases HCS.out with rfl | ⟨rfl, hbl, htk⟩
        · have q1 : ((B : Int) == (B : Int)) = true := by simp
          clear H HCS
          go_wp2
          go_ret
          exact ⟨HB2.out, rfl⟩
        · have q1 : ((a : Int) + 2 == (a : Int)) = false := by rw [beq_eq_false_iff_ne]; omega
          have q2 : ((a : Int) + 2 == (a : Int) + 2) = true := by simp
          have q3 : (a : Int) + 2 ≤ (n : Int) := by rw [HN.out]; omega
          have q4 : a + 2 ≤ n := by omega
          have hsl := slice_sub A n c a (a + 2) (by omega) (by omega)
          have hrc : RB w2 w2.heap.size (subA A c a) [13, 10] := by
            have h := (((HR.out.below HB2.out).mono HB2.out.size).subA c a (by rw [← HN.out]; exact hc)).take 2
            rwa [htk] at h
          have hcv := conv_rb hrc (a + 2 - a) (c - a) (by simp)
          generalize a + 2 - a = kk at *
          generalize subA A c a = AA at *
          generalize c - a = ca at *
          have hsl2 : ∀ W, (Instr.slice 22 (.slice A n c) (some (.int .i64 (a : Int))) (some (.int .i64 ((a : Int) + 2))) none).run Tryd.prog W = .ok (.slice AA kk ca) W := fun W => by have := hsl W; simpa using this
          have hbc : ((a + 2 : Nat) : Int) = (a : Int) + 2 := by omega
          clear H HCS hsl hrc htk hbl
          rw [hbc]
          go_wp2
          go_ret
          exact ⟨HB2.out, rfl⟩
  · obtain ⟨hb2, A2, c2, rfl, -, -, -⟩ := hp.get hE
    have HB2 := Lib.hid (HB1.out.trans (hb2.mono HB1.out.size))
    have q1 : (er != 0) = true := by rw [bne_iff_ne]; exact her
    clear hp hE hb2 KP her
    go_wp2
    go_ret
    exact ⟨HB2.out, rfl⟩
end Go.Proofs.YtgbbadbffcjamaaDoor
