/-
  The walk of the document's Open. Conditions: the sizes.
-/
import Derived.Test.YtihhadgkcdkemaaDoorROpen
import Derived.Deep.CutBlock
import Derived.Deep.DeepCutAuto
namespace Go.Proofs.YtihhadgkcdkemaaDoor
open Go.RowKit Go.Maps
set_option linter.unusedVariables false
theorem cell_keep {w w' : World} (hb : Below w.heap.size w w') {a : Addr} {v : Value} (hc : w.cell? a = some v) : w'.cell? a = some v := (hb.cell (World.block_lt_of_cell? w a hc)).trans hc
theorem take_names {S : List Pq} {j : Nat} {x : Pq} (h : S[j]? = some x) : namesQ (S.take (j + 1)) = namesQ (S.take j) ++ [x.fr, x.tt] := by
  rw [List.take_add_one, h]
  exact namesQ_snoc _ _
theorem news4 (w : World) (E : TypeId) (a b c d : Value) : ∀ ad, (some (⟨w.heap.size, 0, none⟩ : Addr)) = some ad → ∀ j u, ([a, b, c, d] : List Value)[j]? = some u → (w.alloc (.cells #[a, b, c, d] E)).cell? (ad.add j) = some u := by
  intro ad e j u hu
  cases e
  rw [Addr.add_lit, (Blk.new w E #[a, b, c, d]).cell (0 + j), Nat.zero_add, ← hu]
  exact (List.getElem?_toArray (xs := [a, b, c, d]) (i := j))
set_option maxRecDepth 100000 in
set_option maxHeartbeats 4000000 in
theorem ropen_walk (w : World) (own : Nat → Nat × Nat) (rb : Nat) (S : List Pq) (h : RSt w own rb S) (hS : S.length ≤ 100000) (f t : ByteArray) (hf : f.size ≤ maxLen) (ht : t.size ≤ maxLen) (most : Int) (hm1 : -9223372036854775808 ≤ most) (hm2 : most ≤ 9223372036854775807) :
    Calls Tryd.prog 18 #[.pointer (some ⟨rb, 0, none⟩), .string f, .string t, .int .i64 most] w (ROpenPost w own rb S f t most) := by
  have HP := Lib.hid h
  have HF := Lib.hid hf
  have HT := Lib.hid ht
  obtain ⟨A0, c0, -, -, k0⟩ := h.head
  have HC := Lib.hid fun (i : Nat) (x : Pq) (hx : S[i]? = some x) => h.cells hx
  obtain ⟨n, hn⟩ : ∃ n, n = S.length := ⟨_, rfl⟩
  have HN := Lib.hid hn
  rw [← hn] at k0 hS
  have K0 := Lib.hid k0
  have hn2 : n ≤ 9223372036854775807 := by omega
  clear h hf ht hn
  go_enter Tryd.func18, Tryd.ntmps18
  go_wp2_with fail
  clear k0
  go_loopg [9, 10] n (fun k s9 s10 wr => ∃ (j : Nat) (A : Option Addr) (c : Nat) (L : List ByteArray) (m : Nat), j + k = n ∧ s10 = .int .i64 (j : Int) ∧ s9 = .slice A m c ∧ Hid (m = L.length) ∧ Hid (L = withAll [] (namesQ (S.take j))) ∧ Hid (m ≤ c ∧ c ≤ maxLen) ∧ Hid (RS wr wr.heap.size A L) ∧ Hid (Below w.heap.size w wr))
  case atStart => exact ⟨0, none, 0, [], 0, by omega, rfl, rfl, Lib.hid rfl, Lib.hid rfl, Lib.hid ⟨by simp, by simp [maxLen]⟩, Lib.hid (.inl rfl), Lib.hid (Below.refl _ _)⟩
  case round =>
    obtain ⟨j, A, c, L, m, hj, rfl, rfl, HM, HL, HC1, HR, HB⟩ := hrel
    have k0 := cell_keep HB.out K0.out
    have hm6 : m ≤ 200000 := by
      have := withAll_len (namesQ (S.take j)) []
      rw [namesQ_len, ← HL.out, List.length_take, ← HM.out] at this
      simp at this
      omega
    by_cases hlt : j < n
    · have hj1 : (j : Int) < (n : Int) := by omega
      obtain ⟨x, hx⟩ : ∃ x, S[j]? = some x := ⟨_, List.getElem?_eq_getElem (by have := HN.out; omega)⟩
      obtain ⟨b, off, n', c', A', cl, hn', hc1, hc2, kk, e1, e2, -, -⟩ := HC.out j x hx
      have kk2 := K0.out
      rw [kk] at kk2
      obtain ⟨rfl, rfl, rfl⟩ : A0 = some ⟨b, off, none⟩ ∧ n = n' ∧ c0 = c' := by
        injection kk2 with kk2
        injection kk2 with a1 a2 a3
        exact ⟨a1.symm, a2.symm, a3.symm⟩
      have e1' := cell_keep HB.out e1
      have E2 := Lib.hid e2
      have HLN := Lib.hid (take_names hx)
      have K1 := Lib.hid (with_walk wr A L m c HM.out HR.out HC1.out.1 HC1.out.2 (by omega) x.fr)
      clear kk2 kk hn' hc1 hc2 hx e1 e2
      generalize x.fr = a at *
      generalize x.tt = d at *
      go_wp2_with fail
      with_reducible refine K1.out.mono ?_
      rintro e w1 ⟨hb1, A1, c1, rfl, hA1, hC1, hr1⟩
      have HB1 := Lib.hid (HB.out.trans (hb1.mono HB.out.size))
      have HR1 := Lib.hid hr1
      have HCC := Lib.hid (And.intro hA1 hC1)
      have k1 := cell_keep HB1.out K0.out
      have e2 := cell_keep HB1.out E2.out
      have hl1 := withL_len a L
      rw [← HM.out] at hl1
      obtain ⟨L1, hL1⟩ : ∃ L1, withL a L = L1 := ⟨_, rfl⟩
      have HL1 := Lib.hid hL1
      rw [hL1] at HR1 HCC hl1
      rw [hL1]
      obtain ⟨m1, hm1⟩ : ∃ m1, m1 = L1.length := ⟨_, rfl⟩
      have HM1 := Lib.hid hm1
      rw [← hm1] at HCC hl1
      rw [← hm1]
      clear K1 hb1 hA1 hC1 hr1 hL1 hm1 k0 e1'
      have K2 := Lib.hid (with_walk w1 A1 L1 m1 c1 HM1.out HR1.out HCC.out.1 HCC.out.2 (by omega) d)
      go_wp2_with fail
      with_reducible refine K2.out.mono ?_
      rintro e w2 ⟨hb2, A2, c2, rfl, hA2, hC2, hr2⟩
      have HB2 := Lib.hid (HB1.out.trans (hb2.mono HB1.out.size))
      have HR2 := Lib.hid hr2
      have HCC2 := Lib.hid (And.intro hA2 hC2)
      have HL2 : Hid (withL d L1 = withAll [] (namesQ (S.take (j + 1)))) := Lib.hid (by rw [HLN.out, withAll_app, ← HL.out, ← HL1.out]; rfl)
      clear K2 hb2 hA2 hC2 hr2 k1 e2
      go_wp2_with fail
      go_roundg (gk - 1)
      case rel => exact ⟨j + 1, A2, c2, _, _, by omega, by go_num, rfl, Lib.hid rfl, HL2, HCC2, HR2, HB2⟩
      case measure => omega
    · have hj1 : ¬ (j : Int) < (n : Int) := by omega
      have HL0 : Hid (L = withAll [] (namesQ S)) := Lib.hid (by rw [HL.out, List.take_of_length_le (by have := HN.out; omega)])
      have K1 := Lib.hid (with_walk wr A L m c HM.out HR.out HC1.out.1 HC1.out.2 (by omega) f)
      clear HL hlt
      go_wp2_with fail
      with_reducible refine K1.out.mono ?_
      rintro e w1 ⟨hb1, A1, c1, rfl, hA1, hC1, hr1⟩
      have HB1 := Lib.hid (HB.out.trans (hb1.mono HB.out.size))
      have HR1 := Lib.hid hr1
      have HCC := Lib.hid (And.intro hA1 hC1)
      have hl1 := withL_len f L
      rw [← HM.out] at hl1
      obtain ⟨L1, hL1⟩ : ∃ L1, withL f L = L1 := ⟨_, rfl⟩
      have HL1 := Lib.hid hL1
      rw [hL1] at HR1 HCC hl1
      rw [hL1]
      obtain ⟨m1, hm1⟩ : ∃ m1, m1 = L1.length := ⟨_, rfl⟩
      have HM1 := Lib.hid hm1
      rw [← hm1] at HCC hl1
      rw [← hm1]
      clear K1 hb1 hA1 hC1 hr1 hL1 hm1 k0
      have K2 := Lib.hid (with_walk w1 A1 L1 m1 c1 HM1.out HR1.out HCC.out.1 HCC.out.2 (by omega) t)
      go_wp2_with fail
      with_reducible refine K2.out.mono ?_
      rintro e w2 ⟨hb2, A2, c2, rfl, hA2, hC2, hr2⟩
      have HB2 := Lib.hid (HB1.out.trans (hb2.mono HB1.out.size))
      have HL2 : Hid ((withL t L1).length = (portsQ S f t).length) := Lib.hid (by rw [← withAll_ports, withAll_app, ← HL0.out, ← HL1.out]; rfl)
      rw [HL2.out]
      clear K2 hb2 hA2 hC2 hr2
      have KF := Lib.hid (rport_walk f w2 HF.out)
      have KT := Lib.hid (rport_walk t w2 HT.out)
      obtain ⟨pf, hpf⟩ : ∃ pf, portB f = pf := ⟨_, rfl⟩
      obtain ⟨pt, hpt⟩ : ∃ pt, portB t = pt := ⟨_, rfl⟩
      have HPF := Lib.hid hpf
      have HPT := Lib.hid hpt
      rw [hpf] at KF
      rw [hpt] at KT
      clear hpf hpt
      have KP := Lib.hid (place_walk w2 own rb S (HP.out.below HB2.out) f t)
      have HC : Hid (((idxQ f t S).isSome = true ∨ f = t ∨ portB f = false ∨ portB t = false ∨ 32 < (portsQ S f t).length) → openQ S f t most = (S, 50)) := Lib.hid fun h => if_pos h
      have HCn : Hid (¬ ((idxQ f t S).isSome = true ∨ f = t ∨ portB f = false ∨ portB t = false ∨ 32 < (portsQ S f t).length) → openQ S f t most = if most < 1 ∨ 64 < most then (S, 1) else (S ++ [⟨f, t, most.toNat, []⟩], 0)) := Lib.hid fun h => if_neg h
      obtain ⟨pl, hpl⟩ : ∃ pl, placeI S f t = pl := ⟨_, rfl⟩
      have HPL := Lib.hid hpl
      rw [hpl] at KP
      clear hpl
      generalize (portsQ S f t).length = np at *
      clear HR HR1 HCC HM HM1 HL1 HL2 HL0 HC1 HB HB1 hl1 hm6 hj1 hj
      go_wp2_with fail
      with_reducible refine KF.out.mono ?_
      rintro e3 w3 ⟨rfl, rfl⟩
      go_wp2_with fail
      with_reducible refine KT.out.mono ?_
      rintro e4 w4 ⟨rfl, rfl⟩
      go_wp2_with fail
      with_reducible refine KP.out.mono ?_
      rintro e5 w5 ⟨rfl, rfl⟩
      clear KF KT KP
      cases pf
      · have HE := Lib.hid (HC.out (.inr (.inr (.inl HPF.out))))
        go_wp2_with fail
        go_ret
        exact ROpenPost.no HP.out HE.out HB2.out rfl
      cases pt
      · have HE := Lib.hid (HC.out (.inr (.inr (.inr (.inl HPT.out)))))
        go_wp2_with fail
        go_ret
        exact ROpenPost.no HP.out HE.out HB2.out rfl
      by_cases hft : f = t
      · have HE := Lib.hid (HC.out (.inr (.inl hft)))
        obtain ⟨q1, q2⟩ := str_same hft
        clear hft
        go_wp2_with fail
        go_ret
        exact ROpenPost.no HP.out HE.out HB2.out rfl
      have q1 := str_ne hft
      have q2 : ¬ f.toList = t.toList := fun e => by rw [e] at q1; simp at q1
      have HFT := Lib.hid hft
      clear hft
      have hpl2 : (idxQ f t S = none ∧ pl = -1) ∨ ((idxQ f t S).isSome = true ∧ ∃ i : Nat, pl = (i : Int)) := by
        rw [← HPL.out]
        unfold placeI
        cases idxQ f t S with
        | none => exact .inl ⟨rfl, rfl⟩
        | some i => exact .inr ⟨rfl, i, rfl⟩
      rcases hpl2 with ⟨hid, rfl⟩ | ⟨hid, i, rfl⟩
      rotate_left
      · have HE := Lib.hid (HC.out (.inl hid))
        have hi0 : (0 : Int) ≤ (i : Int) := by omega
        clear hid
        go_wp2_with fail
        go_ret
        exact ROpenPost.no HP.out HE.out HB2.out rfl
      by_cases h32 : 32 < np
      · have HE := Lib.hid (HC.out (.inr (.inr (.inr (.inr h32)))))
        have h33 : (32 : Int) < (np : Int) := by omega
        clear h32 hid
        go_wp2_with fail
        go_ret
        exact ROpenPost.no HP.out HE.out HB2.out rfl
      have h33 : (np : Int) ≤ 32 := by omega
      have HCm := HCn.out (by
        rintro (h | h | h | h | h)
        · rw [hid] at h; cases h
        · exact HFT.out h
        · rw [HPF.out] at h; cases h
        · rw [HPT.out] at h; cases h
        · exact h32 h)
      by_cases hmo : most < 1 ∨ 64 < most
      · have HE := Lib.hid (HCm.trans (if_pos hmo))
        clear h32 HCm hid
        rcases hmo with hmo | hmo
        · go_wp2_with fail
          go_ret
          exact ROpenPost.no HP.out HE.out HB2.out rfl
        · have hmo1 : 1 ≤ most := by omega
          go_wp2_with fail
          go_ret
          exact ROpenPost.no HP.out HE.out HB2.out rfl
      obtain ⟨q, rfl⟩ := Int.eq_ofNat_of_zero_le (show 0 ≤ most by omega)
      have HE := Lib.hid (HCm.trans (if_neg hmo))
      rw [Int.toNat_natCast] at HE
      have hmo1 : 1 ≤ (q : Int) := by omega
      have hmo2 : (q : Int) ≤ 64 := by omega
      have HID := Lib.hid hid
      clear h32 HCm hid hmo
      obtain ⟨v, g, T, h0, h1, h2, h3, h4, h5, h6⟩ := HP.out
      obtain ⟨Av, nv, cv, rfl, hv1, hv2, hv3⟩ := h3.sl
      rw [cellsR_len S T h0] at hv1
      obtain rfl : nv = n := by have := HN.out; omega
      have H0 := Lib.hid h0
      have H1 := Lib.hid h1
      have H2 := Lib.hid h2
      have H3 := Lib.hid h3
      have H4 := Lib.hid h4
      have H5 := Lib.hid h5
      have H6 := Lib.hid h6
      have HV := Lib.hid (And.intro hv2 hv3)
      clear h0 h1 h2 h3 h4 h5 h6 hv1 hv2 hv3 K0
      have KK : Hid (∀ w', Below w.heap.size w w' → w'.cell? ⟨rb, 0, none⟩ = some (.slice Av nv cv) ∧ w'.frozen? ⟨rb, 0, none⟩ = false) := Lib.hid fun w' hb => ⟨(H1.out.keep hb).cell 0, (H1.out.keep hb).frozen 0⟩
      have k0 := (KK.out _ HB2.out).1
      have HAl := Lib.hid (HB2.out.alloc HB2.out.size (.cells #[.string f, .string t, .int .i64 (q : Int), .slice none 0 0] 64))
      have k0a := (KK.out _ HAl.out).1
      go_wp2_with (first
        | (at_builtin; refine wpList_appX _ uxP (.tmp 89) (.tmp 94) rfl rfl rfl (H3.out.below HAl.out fun k hk => H3.out.lt hk) (some ⟨w5.heap.size, 0, none⟩) 1 1 rfl [.string f, .string t, .int .i64 (q : Int), .slice none 0 0] rfl (fun h => by cases h) (news4 w5 64 _ _ _ _) (by intro u hu; simp at hu; rcases hu with rfl | rfl | rfl | rfl <;> rfl) (by have := H3.out.form.1; omega) ?_; intro v3 g3 w3 hX3 hG3 ho3; obtain ⟨A3, n3, c3, rfl, -⟩ := hX3.sl; have HX3 := Lib.hid hX3; have HG3 := Lib.hid hG3; have HO3 := Lib.hid ho3; have hB3 := (H1.out.keep HAl.out).grown hG3 (fun e => by have := H4.out rb e.symm; rw [H2.out] at this; cases this); have k3 := hB3.cell 0; have f3 := hB3.frozen 0; clear hX3 hG3 ho3 hB3))
      go_ret
      have hs := ropened (w1 := w) H0.out H1.out H2.out H3.out H4.out H5.out H6.out HAl.out HG3.out HX3.out HO3.out HID.out (by have := HPF.out; unfold portB at this; simp at this; omega) (by have := HPT.out; unfold portB at this; simp at this; omega) (by omega) (by omega)
      unfold ROpenPost
      rw [HE.out]
      exact ⟨_, hs.1, hs.2, rfl⟩
end Go.Proofs.YtihhadgkcdkemaaDoor
