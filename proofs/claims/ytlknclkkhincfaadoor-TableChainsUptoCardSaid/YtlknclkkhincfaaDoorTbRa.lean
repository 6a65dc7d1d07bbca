/-
  The walks of the document's Exact, Address, Domain. Conditions: the sizes.
-/
import Derived.Test.YtlknclkkhincfaaDoorTbRv
import Derived.Test.YtlknclkkhincfaaDoorTbTurns
import Derived.Test.YtlknclkkhincfaaDoorTbAsk
namespace Go.Proofs.YtlknclkkhincfaaDoor
open Go.RowKit Go.Shelf
set_option linter.unusedVariables false
def exR (T : List En) (key : List UInt8) : List UInt8 × Bool := lookE T (key.map lowC)
theorem exR_no {T : List En} {key : List UInt8} (h : (exR T key).2 = false) : exR T key = ([], false) := by
  unfold exR at h ⊢
  rw [lookE_has] at h
  exact lookE_no h
structure RTabOk (w : World) (tb : Nat) (T : List En) : Prop where
  st : RTab w tb T
  so : sortE T
  le : T.length ≤ 2000
theorem RTabOk.below {w w' : World} {tb : Nat} {T : List En} (h : RTabOk w tb T) (hb : Below w.heap.size w w') : RTabOk w' tb T := ⟨h.st.below hb, h.so, h.le⟩
set_option maxRecDepth 100000 in
theorem rexact_walk (w : World) (tb : Nat) (T : List En) (h : RTabOk w tb T) (s : ByteArray) (key : List UInt8) (hs : s = bs key) (hl : key.length ≤ 10000000) :
    Calls Tryd.prog 29 #[.pointer (some ⟨tb, 0, none⟩), .string s] w fun e w' => Below w.heap.size w w' ∧ e = .returned (.tuple #[.string (bs (exR T key).1), .bool (exR T key).2]) := by
  subst hs
  have HLo := Lib.hid (rlower_call key w (by unfold maxLen; omega))
  have HP := Lib.hid (fun (w2 : World) (hb : Below w.heap.size w w2) => rplace_walk w2 tb T (key.map lowC) (h.below hb).st h.so (by have := h.le; omega))
  have HC := Lib.hid (fun (w2 : World) (hb : Below w.heap.size w w2) => (h.below hb).st.cells)
  obtain ⟨ky, hky⟩ : ∃ ky, key.map lowC = ky := ⟨_, rfl⟩
  have hex : exR T key = lookE T ky := by unfold exR; rw [hky]
  rw [hky] at HLo HP
  rw [hex]
  clear h hl hky hex
  cases hh : hasE T ky with
  | false =>
    have HE := Lib.hid (lookE_no hh)
    rw [hh] at HP
    clear hh
    go_enter Tryd.func29, Tryd.ntmps29
    go_wp2_with fail
    refine HLo.out.mono ?_
    rintro e w2 ⟨hb2, rfl⟩
    have HB2 := Lib.hid hb2
    clear hb2
    go_wp2_with fail
    refine (HP.out w2 HB2.out).mono ?_
    rintro e w3 ⟨⟨nq, rfl⟩, rfl⟩
    have HB3 := Lib.hid (bdrewN HB2.out nq)
    go_wp2_with fail
    go_ret2
    exact ⟨HB3.out, by rw [HE.out]; rfl⟩
  | true =>
    obtain ⟨x, hx, hlk⟩ := lookE_yes hh
    have HE := Lib.hid hlk
    have HX := Lib.hid hx
    rw [hh] at HP
    clear hh hlk hx
    go_enter Tryd.func29, Tryd.ntmps29
    go_wp2_with fail
    refine HLo.out.mono ?_
    rintro e w2 ⟨hb2, rfl⟩
    have HB2 := Lib.hid hb2
    clear hb2
    go_wp2_with fail
    refine (HP.out w2 HB2.out).mono ?_
    rintro e w3 ⟨⟨nq, rfl⟩, rfl⟩
    have hb3' := bdrewN HB2.out nq
    generalize w2.drewN nq = w3 at *
    have HB3 := Lib.hid hb3'
    obtain ⟨htb, A, c, c0, h1, h2, h3⟩ := HC.out w3 hb3'
    unfold maxLen at h2
    rcases h3 with h3 | ⟨b, off, rfl, hbl, hcl⟩
    · have := HX.out; rw [h3] at this; simp at this
    obtain ⟨q0, q1⟩ := hcl _ x HX.out
    have hj2 : posE T ky < T.length := (List.getElem?_eq_some_iff.1 HX.out).1
    clear hb3' hcl
    go_wp2_with fail
    go_ret2
    exact ⟨HB3.out, by rw [HE.out]; rfl⟩
theorem raddr_walk (w : World) (tb : Nat) (T : List En) (h : RTabOk w tb T) (lo dm : List UInt8) (hl : lo.length ≤ 2000000) (hd : dm.length ≤ 2000000) :
    Calls Tryd.prog 30 #[.pointer (some ⟨tb, 0, none⟩), .string (bs lo), .string (bs dm)] w fun e w' => Below w.heap.size w w' ∧ e = .returned (.tuple #[.string (bs (adX (exR T) lo dm).1), .bool (adX (exR T) lo dm).2]) := by
  have e1 : (bs lo ++ ⟨#[64]⟩) ++ bs dm = bs (lo ++ [64] ++ dm) := by
    have : (⟨#[64]⟩ : ByteArray) = bs [64] := rfl
    rw [this, bs_app, bs_app]
  have e2 : (⟨#[64]⟩ : ByteArray) ++ bs dm = bs (64 :: dm) := by
    have : (⟨#[64]⟩ : ByteArray) = bs [64] := rfl
    rw [this, bs_app]; rfl
  have H1 := Lib.hid (rexact_walk w tb T h _ _ e1 (by simp; omega))
  have H2 := Lib.hid (fun (w2 : World) (hb : Below w.heap.size w w2) => rexact_walk w2 tb T (h.below hb) _ _ e2 (by simp; omega))
  have s1 := bs_size lo
  have s2 := bs_size dm
  have hA : adX (exR T) lo dm = if (exR T (lo ++ [64] ++ dm)).2 = true then exR T (lo ++ [64] ++ dm) else exR T (64 :: dm) := rfl
  rw [hA]
  clear h e1 e2 hA
  generalize exR T (lo ++ [64] ++ dm) = r1 at *
  generalize exR T (64 :: dm) = r2 at *
  obtain ⟨v1, b1⟩ := r1
  obtain ⟨v2, b2⟩ := r2
  simp only [] at H1 H2 ⊢
  cases b1 with
  | true =>
    go_enter Tryd.func30, Tryd.ntmps30
    go_wp2_with fail
    refine H1.out.mono ?_
    rintro e w2 ⟨hb2, rfl⟩
    have HB2 := Lib.hid hb2
    clear hb2
    go_wp2_with fail
    go_ret2
    exact ⟨HB2.out, rfl⟩
  | false =>
    go_enter Tryd.func30, Tryd.ntmps30
    go_wp2_with fail
    refine H1.out.mono ?_
    rintro e w2 ⟨hb2, rfl⟩
    have HB2 := Lib.hid hb2
    clear hb2
    go_wp2_with fail
    refine (H2.out w2 HB2.out).mono ?_
    rintro e w3 ⟨hb3, rfl⟩
    have HB3 := Lib.hid (HB2.out.trans (hb3.mono HB2.out.size))
    clear hb3
    go_wp2_with fail
    go_ret2
    exact ⟨HB3.out, rfl⟩
def DmRel (ex : List UInt8 → List UInt8 × Bool) (R : List UInt8 × Bool) (v : List UInt8) (b : Bool) (rest : List UInt8) : Prop := (b = true ∧ R = (v, true)) ∨ (b = false ∧ v = [] ∧ dmGo ex rest = R)
set_option maxRecDepth 100000 in
theorem rdomain_walk (w : World) (tb : Nat) (T : List En) (h : RTabOk w tb T) (dm : List UInt8) (hd : dm.length ≤ 2000000) :
    Calls Tryd.prog 31 #[.pointer (some ⟨tb, 0, none⟩), .string (bs dm)] w fun e w' => Below w.heap.size w w' ∧ e = .returned (.tuple #[.string (bs (dmX (exR T) dm).1), .bool (dmX (exR T) dm).2]) := by
  have HX := Lib.hid (fun (w2 : World) (hb : Below w.heap.size w w2) (s : ByteArray) (key : List UInt8) (hs : s = bs key) (hl : key.length ≤ 2000000) => rexact_walk w2 tb T (h.below hb) s key hs (by omega))
  have H1 := Lib.hid (rexact_walk w tb T h (bs dm) dm rfl (by omega))
  have s1 := bs_size dm
  have HF := Lib.hid (from_bs dm)
  have HXN := Lib.hid (fun key (hh : (exR T key).2 = false) => exR_no hh)
  obtain ⟨ex, hex⟩ : ∃ ex, exR T = ex := ⟨_, rfl⟩
  rw [hex] at H1 HX HXN ⊢
  obtain ⟨R, hR⟩ : ∃ R, dmX ex dm = R := ⟨_, rfl⟩
  rw [hR]
  obtain ⟨r0, hr0⟩ : ∃ r0, ex dm = r0 := ⟨_, rfl⟩
  have HR : Hid (DmRel ex R r0.1 r0.2 (dm.drop 1)) := Lib.hid (by
    unfold dmX at hR
    rw [hr0] at hR
    cases hb : r0.2 with
    | true => rw [hb, if_pos rfl] at hR; exact .inl ⟨rfl, by rw [← hR, ← hb]⟩
    | false => rw [hb] at hR; exact .inr ⟨rfl, by have := HXN.out dm (by rw [hr0]; exact hb); rw [hr0] at this; rw [this], hR⟩)
  rw [hr0] at H1
  clear h hex hR hr0
  obtain ⟨v0, b0⟩ := r0
  simp only [] at H1 HR
  go_enter Tryd.func31, Tryd.ntmps31
  go_wp2_with fail
  refine H1.out.mono ?_
  rintro e w2 ⟨hb2, rfl⟩
  have HB2 := Lib.hid hb2
  clear hb2
  go_wp2_with fail
  go_loopg [6, 7, 8] dm.length (fun k s6 s7 s8 wr => ∃ (i : Nat) (v : List UInt8) (b : Bool), s6 = .string (bs v) ∧ s7 = .bool b ∧ s8 = .int .i64 (i : Int) ∧ 1 ≤ i ∧ i ≤ dm.length + 1 ∧ dm.length - i ≤ k ∧ Hid (Below w.heap.size w wr) ∧ Hid (DmRel ex R v b (dm.drop i)))
  case atStart => exact ⟨1, v0, b0, rfl, rfl, rfl, by omega, by omega, by omega, HB2, HR⟩
  case round =>
    clear HR HB2 H1
    obtain ⟨i, v, b, rfl, rfl, rfl, hi1, hi2, hk, HB, HR⟩ := hrel
    cases b with
    | true =>
      have HE : Hid (R = (v, true)) := Lib.hid (by rcases HR.out with h | h; exact h.2; exact absurd h.1 (by decide))
      clear HR
      by_cases hlt : i < dm.length
      · have hlt1 : (i : Int) < (dm.length : Int) := by omega
        go_wp2_with fail
        go_ret2
        exact ⟨HB.out, by rw [HE.out]; rfl⟩
      · have hlt1 : ¬ (i : Int) < (dm.length : Int) := by omega
        go_wp2_with fail
        go_ret2
        exact ⟨HB.out, by rw [HE.out]; rfl⟩
    | false =>
      have HE : Hid (v = [] ∧ dmGo ex (dm.drop i) = R) := Lib.hid (by rcases HR.out with h | h; exact absurd h.1 (by decide); exact h.2)
      clear HR
      by_cases hlt : i < dm.length
      · have hlt1 : (i : Int) < (dm.length : Int) := by omega
        have hget : dm.drop i = dm[i] :: dm.drop (i + 1) := List.drop_eq_getElem_cons hlt
        have p0 : i < (bs dm).size := by rw [bs_size]; exact hlt
        have hgb : (bs dm)[i]'p0 = dm[i] := bs_get dm i p0 hlt
        have HR2 : Hid (R = if dm[i] = 46 then (if (ex (dm.drop i)).2 = true then ex (dm.drop i) else dmGo ex (dm.drop (i + 1))) else dmGo ex (dm.drop (i + 1))) := Lib.hid (by have h := HE.out.2; rw [hget, dmGo, ← hget] at h; exact h.symm)
        by_cases h46 : dm[i] = 46
        · have hn : ((((bs dm)[i]'p0).toNat : Int) == 46) = true := by rw [hgb, h46]; rfl
          have HX1 := Lib.hid (HX.out wr HB.out _ _ (HF.out i) (by rw [List.length_drop]; omega))
          have HR3 : Hid (DmRel ex R (ex (dm.drop i)).1 (ex (dm.drop i)).2 (dm.drop (i + 1))) := Lib.hid (by
            have h := HR2.out
            rw [if_pos h46] at h
            cases hb : (ex (dm.drop i)).2 with
            | true => rw [hb, if_pos rfl] at h; exact .inl ⟨rfl, by rw [h, ← hb]⟩
            | false => rw [hb] at h; exact .inr ⟨rfl, by rw [HXN.out _ hb], h.symm⟩)
          clear hgb hget HR2 h46 HE
          generalize ex (dm.drop i) = r3 at *
          obtain ⟨v3, b3⟩ := r3
          simp only [] at HX1 HR3
          go_wp2_with fail
          refine HX1.out.mono ?_
          rintro e w3 ⟨hb3, rfl⟩
          have HB3 := Lib.hid (HB.out.trans (hb3.mono HB.out.size))
          clear hb3
          go_wp2_with fail
          go_roundg (gk - 1)
          case rel => exact ⟨i + 1, v3, b3, rfl, rfl, by go_num, by omega, by omega, by omega, HB3, HR3⟩
          case measure => omega
        · have hn : ((((bs dm)[i]'p0).toNat : Int) == 46) = false := by
            rw [hgb, beq_eq_false_iff_ne]; intro e; exact h46 (UInt8.toNat_inj.1 (by have : (46 : UInt8).toNat = 46 := rfl; omega))
          have HR3 : Hid (DmRel ex R v false (dm.drop (i + 1))) := Lib.hid (by have := HR2.out; rw [if_neg h46] at this; exact .inr ⟨rfl, HE.out.1, this.symm⟩)
          clear hgb hget HR2 h46 HE
          go_wp2_with fail
          go_roundg (gk - 1)
          case rel => exact ⟨i + 1, v, false, rfl, rfl, by go_num, by omega, by omega, by omega, HB, HR3⟩
          case measure => omega
      · have hlt1 : ¬ (i : Int) < (dm.length : Int) := by omega
        have HR3 : Hid (R = (v, false)) := Lib.hid (by have h := HE.out; rw [List.drop_of_length_le (by omega)] at h; rw [h.1, ← h.2]; rfl)
        clear HE
        go_wp2_with fail
        go_ret2
        exact ⟨HB.out, by rw [HR3.out]; rfl⟩
end Go.Proofs.YtlknclkkhincfaaDoor
