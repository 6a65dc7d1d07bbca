/-
  The walk of the program's Open. Conditions: the sizes.
-/
import Derived.Test.YtihhadgkcdkemaaDoorPOpen0
import Derived.Deep.RegionHeld3
import Derived.Deep.CutBlock
import Derived.Deep.DeepCutAuto
import Derived.BigQuiet
import Derived.Deep.QuietTactic
namespace Go.Proofs.YtihhadgkcdkemaaDoor
open Go.RowKit Go.Maps
set_option linter.unusedVariables false
/-- what Open leaves -/
def OpenPost (w : World) (own : Nat → Nat × Nat) (pb : Nat) (S : List Pq) (f t : ByteArray) (most : Int) (e : Ending) (w' : World) : Prop :=
  ∃ own', PSt w' own' pb (openQ S f t most).1 ∧ Turn isP w w' own own' ∧ e = .returned (.int .i64 (openQ S f t most).2)
/-- the set of the two names -/
def Set2 (w wx : World) (f t : ByteArray) : Prop :=
  Below w.heap.size w wx ∧ Blk wx w.heap.size 46 #[.string f, .string t] ∧ ∃ D : DataW Unit, wx.ownsMap Tryd.prog 9 unitElem (w.heap.size + 1) 2 D ∧ ∀ s : ByteArray, s.size ≤ maxLen → (Maps.has D (kS s) = true ↔ s = f ∨ s = t)
theorem has_put_S {D : DataW Unit} (h : IsMap D) (f s : ByteArray) (u : DataW Unit) : Maps.has (D.put (kS f) u) (kS s) = true ↔ s = f ∨ Maps.has D (kS s) = true := by
  by_cases e : s = f
  · subst e
    exact ⟨fun _ => .inl rfl, fun _ => Maps.has_put_same h (kS_key s) u⟩
  · rw [Maps.has_put_other (fun h2 => e (kS_inj h2))]
    exact ⟨.inr, fun h2 => h2.elim (fun h3 => absurd h3 e) id⟩
theorem set2_mk {w w1 w2 : World} {f t a b : ByteArray} {E : DataW Unit} (hab : (a = f ∧ b = t) ∨ (a = t ∧ b = f)) (hw : E = .map [])
    (o1 : w1.ownsMap Tryd.prog 9 unitElem (w.heap.size + 1) 1 (E.put (kS a) (.agg []))) (g1 : (((w.alloc (.cells #[.string f, .string t] 46)).alloc (.map #[] 0)).drew).grownBy w1 (some (w.heap.size + 1)))
    (o2 : w2.ownsMap Tryd.prog 9 unitElem (w.heap.size + 1) 2 ((E.put (kS a) (.agg [])).put (kS b) (.agg []))) (g2 : w1.grownBy w2 (some (w.heap.size + 1))) : Set2 w w2 f t := by
  subst hw
  have hs : (((w.alloc (.cells #[.string f, .string t] 46)).alloc (.map #[] 0)).drew).heap.size = w.heap.size + 2 := by simp
  have g12 := g1.andThen g2 fun j hj => .inr hj
  have h0 : IsMap (DataW.map (H := Unit) []) := ⟨[], rfl⟩
  have hb : Below w.heap.size w (((w.alloc (.cells #[.string f, .string t] 46)).alloc (.map #[] 0)).drew) := bdrewN (((Below.refl _ _).alloc (Nat.le_refl _) _).alloc (by simp) _) 1
  have hB : Blk (((w.alloc (.cells #[.string f, .string t] 46)).alloc (.map #[] 0)).drew) w.heap.size 46 #[.string f, .string t] := (Blk.new w _ _).alloc _
  refine ⟨⟨g12.os.trans hb.os, g12.tape.trans hb.tape, g12.output.trans hb.output, Nat.le_trans hb.size g12.size, fun k hk => (g12.block k (by omega) (fun e => by injection e with e; omega)).trans (hb.block k hk)⟩, hB.grown g12 (fun e => by injection e with e; omega), _, o2, fun s hs2 => ?_⟩
  rw [has_put_S (h0.put _ _), has_put_S h0]
  have hf0 : Maps.has (DataW.map (H := Unit) []) (kS s) = false := rfl
  rw [hf0]
  simp only [Bool.false_eq_true, or_false]
  rcases hab with ⟨rfl, rfl⟩ | ⟨rfl, rfl⟩
  · exact or_comm
  · exact Iff.rfl
def mkP : Option Nat → Value
  | none => .pointer none
  | some b => .pointer (some ⟨b, 0, none⟩)
theorem inv_mkP (v : Value) (y : DataW Unit × List MemPlace) (h : ptrElem v = some y) : ∃ c, v = mkP c := by
  rcases ptrElem_inv h with ⟨rfl, _⟩ | ⟨b, rfl, _⟩
  · exact ⟨none, rfl⟩
  · exact ⟨some b, rfl⟩
theorem inv_mkE (key : Value) (kl : Lit) (h : keyOf Tryd.prog 46 key = some kl) : ∃ x, key = mkE x := by
  obtain ⟨s, t, e, _⟩ := keyE_inv h
  exact ⟨(s, t), e⟩
/-- what the set of names holds while the pipes are gone over -/
def SetV (S : List Pq) (f t : ByteArray) (left : Lit → Bool) (D : DataW Unit) : Prop :=
  ∀ s : ByteArray, s.size ≤ maxLen → (Maps.has D (kS s) = true ↔ s = f ∨ s = t ∨ ∃ x ∈ S, left (kE x.fr x.tt) = false ∧ (s = x.fr ∨ s = x.tt))
theorem setv_step {S : List Pq} {f t a b : ByteArray} {left : Lit → Bool} {D : DataW Unit} (h : SetV S f t left D) (hD : IsMap D) (hS : ∀ x ∈ S, okP x) {x : Pq} (hx : x ∈ S) (ha : x.fr = a) (hb : x.tt = b) (c d : ByteArray) (hcd : (c = a ∧ d = b) ∨ (c = b ∧ d = a)) :
    SetV S f t (fun z => left z && !z.sameKey (kE a b)) ((D.put (kS c) (.agg [])).put (kS d) (.agg [])) := by
  subst ha hb
  have hml : ∀ {s : ByteArray}, s.size ≤ 32 → s.size ≤ maxLen := fun h => Nat.le_trans h (by simp [maxLen])
  intro s hs
  rw [has_put_S (hD.put _ _), has_put_S hD, h s hs]
  have hox := hS x hx
  have key : (s = d ∨ s = c) ↔ (s = x.fr ∨ s = x.tt) := by
    rcases hcd with ⟨rfl, rfl⟩ | ⟨rfl, rfl⟩
    · exact or_comm
    · exact Iff.rfl
  constructor
  · rintro (e | e | e | e | ⟨y, hy, hl, e⟩)
    · exact .inr (.inr ⟨x, hx, by show (left _ && !Lit.sameKey _ _) = false; rw [WideAt.sameKey_self (kE_key (hml hox.1) (hml hox.2.1))]; simp, key.1 (.inl e)⟩)
    · exact .inr (.inr ⟨x, hx, by show (left _ && !Lit.sameKey _ _) = false; rw [WideAt.sameKey_self (kE_key (hml hox.1) (hml hox.2.1))]; simp, key.1 (.inr e)⟩)
    · exact .inl e
    · exact .inr (.inl e)
    · exact .inr (.inr ⟨y, hy, by show (left _ && !Lit.sameKey _ _) = false; rw [hl]; rfl, e⟩)
  · rintro (e | e | ⟨y, hy, hl, e⟩)
    · exact .inr (.inr (.inl e))
    · exact .inr (.inr (.inr (.inl e)))
    · rw [Bool.and_eq_false_iff] at hl
      rcases hl with hl | hl
      · exact .inr (.inr (.inr (.inr ⟨y, hy, hl, e⟩)))
      · have hk : (kE y.fr y.tt).sameKey (kE x.fr x.tt) = true := by simpa using hl
        have hoy := hS y hy
        obtain ⟨e1, e2⟩ := kE_inj (hml hoy.1) (hml hoy.2.1) (hml hox.1) (hml hox.2.1) (WideAt.sameKey_eq hk)
        rw [e1, e2] at e
        rcases key.2 e with e | e
        · exact .inl e
        · exact .inr (.inl e)
theorem OpenPost.no {w w' : World} {own : Nat → Nat × Nat} {pb : Nat} {S : List Pq} {f t : ByteArray} {most er : Int} {e : Ending} (h : PSt w own pb S) (hs : openQ S f t most = (S, er)) (hb : Below w.heap.size w w') (he : e = .returned (.int .i64 er)) : OpenPost w own pb S f t most e w' := by
  unfold OpenPost
  rw [hs]
  exact ⟨own, h.below hb, Turn.of_below hb fun _ _ => rfl, he⟩
theorem grown_frame {w w6 : World} {o : Obj} {row : Option Nat} (h : ((w.alloc o).drew).grownBy w6 row) : w.grownBy w6 row :=
  ⟨h.os, h.tape, h.output, by have := h.size; simp at this; omega, fun i hi hne => (h.block i (by simp; omega) hne).trans (Below.heap_alloc w o i hi)⟩
theorem str_same {s t : ByteArray} (h : s = t) : (s.toList == t.toList) = true ∧ s.toList = t.toList := by subst h; simp
set_option maxRecDepth 100000 in
set_option maxHeartbeats 4000000 in
theorem open_walk (w : World) (own : Nat → Nat × Nat) (pb : Nat) (S : List Pq) (h : PSt w own pb S) (hS : S.length ≤ 1000000) (f t : ByteArray) (hf : f.size ≤ maxLen) (ht : t.size ≤ maxLen) (most : Int) (hm1 : -9223372036854775808 ≤ most) (hm2 : most ≤ 9223372036854775807) :
    Calls Tryd.prog 7 #[.pointer (some ⟨pb, 0, none⟩), .string f, .string t, .int .i64 most] w (OpenPost w own pb S f t most) := by
  have hmm := @run_makeMap Tryd.prog
  have HP := Lib.hid h
  have HF := Lib.hid hf
  have HT := Lib.hid ht
  clear h hf ht
  have hs0 : (w.alloc (.cells #[.string f, .string t] 46)).heap.size = w.heap.size + 1 := by simp
  have o0 : (((w.alloc (.cells #[.string f, .string t] 46)).alloc (.map #[] 0)).drew).ownsMap Tryd.prog 9 (unitElem (H := Unit)) (w.heap.size + 1) 0 (.map []) := by
    have := World.ownsMap_made (H := Unit) (w.alloc (.cells #[.string f, .string t] 46)) Tryd.prog 9 unitElem
    rw [hs0] at this
    exact this
  obtain ⟨wf, uf, of, gf⟩ := o0.update lawS Tryd.underlying48 (by simp [maxLen]) (keyS HF.out) unitElem_mk
  obtain ⟨wft, uft, oft, gft⟩ := of.update lawS Tryd.underlying48 (by simp [maxLen]) (keyS HT.out) unitElem_mk
  obtain ⟨wt, ut, ot, gt⟩ := o0.update lawS Tryd.underlying48 (by simp [maxLen]) (keyS HT.out) unitElem_mk
  obtain ⟨wtf, utf, otf, gtf⟩ := ot.update lawS Tryd.underlying48 (by simp [maxLen]) (keyS HF.out) unitElem_mk
  have HS1 := Lib.hid (set2_mk (w := w) (.inl ⟨rfl, rfl⟩) rfl of gf oft gft)
  have HS2 := Lib.hid (set2_mk (w := w) (.inr ⟨rfl, rfl⟩) rfl ot gt otf gtf)
  clear of gf oft gft ot gt otf gtf o0 hs0
  go_enter Tryd.func7, Tryd.ntmps7
  go_wp2_with fail
  go_upto_region 3 with (fail)
  go_cut [10] from 17 to 22 (fun x wx => x = .map (some (w.heap.size + 1)) ∧ Hid (Set2 w wx f t))
  case first =>
    go_region
    all_goals
      go_wp2
      go_meet
      first | exact ⟨rfl, HS1⟩ | exact ⟨rfl, HS2⟩
  case rest =>
    obtain ⟨rfl, HST⟩ := hcut
    clear HS1 HS2 uf uft ut utf
    obtain ⟨hbS, hBS, Dp, oS, hS2⟩ := HST.out
    obtain ⟨mb, nS, D, qs, h1, h2, h3, h4, h5, h6, h7, h8, h9⟩ := HP.out
    have kpb := (h1.keep hbS).cell 0
    have HO1 := Lib.hid (ownsMap_same h4 (hbS.block mb h4.lt))
    have HB1 := Lib.hid hbS
    have HX1 := Lib.hid hBS
    have HD1 := Lib.hid oS
    have HV1 : Hid (SetV S f t (Maps.has D) Dp) := Lib.hid fun s hs => by
      rw [hS2 s hs]
      refine ⟨fun h => h.elim .inl fun h => .inr (.inl h), fun h => h.elim .inl fun h => h.elim .inr fun ⟨x, hx, hl, _⟩ => ?_⟩
      obtain ⟨i, hi, rfl⟩ := List.mem_iff_getElem.1 hx
      have ho := h7.2 _ hx
      have hm : ∀ {s : ByteArray}, s.size ≤ 32 → s.size ≤ maxLen := fun h => Nat.le_trans h (by simp [maxLen])
      have := ((h8 _ _ (hm ho.1) (hm ho.2.1)).2 i _ (idxQ_at h7.1 (List.getElem?_eq_getElem hi) rfl rfl) (List.getElem?_eq_getElem (by omega))).1
      rw [this] at hl
      cases hl
    have H1 := Lib.hid h1
    have H2 := Lib.hid h2
    have H3 := Lib.hid h3
    have H4 := Lib.hid h4
    have H5 := Lib.hid h5
    have H6 := Lib.hid h6
    have H7 := Lib.hid h7
    have H8 := Lib.hid h8
    have H9 := Lib.hid h9
    clear hbS hBS oS hS2 h1 h2 h3 h4 h5 h6 h7 h8 h9 HST
    go_wp2_with (at_range; refine wpList_range_own _ rfl _ 42 rfl 46 49 lawE Tryd.underlying42 ptrElem mb nS D rfl HO1.out ?_; intro w0 hrg0 hg0 hs0)
    go_frame
    have hpm := HD1.out.lt
    have hsz : Maps.size D ≤ 1000000 := Nat.le_trans HO1.out.size_le (by rw [H5.out]; exact hS)
    have HG0 := Lib.hid hg0
    have HS0 := Lib.hid hs0
    have HR0 := Lib.hid hrg0
    have HPM := Lib.hid hpm
    have HD0 := Lib.hid (HD1.out.kept hg0 (by simp))
    have HX0 := Lib.hid (HX1.out.grown hg0 (by simp))
    have HB0 : Hid (Below w.heap.size w w0) := Lib.hid (HB1.out.trans ((⟨hg0.os, hg0.tape, hg0.output, hg0.size, fun k hk => hg0.block k hk (by simp)⟩ : Below wc.heap.size wc w0).mono HB1.out.size))
    clear hrg0 hg0 hs0 hpm kpb hsz
    have HSZ : Hid (Maps.size D ≤ 1000000) := Lib.hid (Nat.le_trans HO1.out.size_le (by rw [H5.out]; exact hS))
    go_loopg [11] (Maps.size D) (fun k s11 wr => ∃ (left : Lit → Bool) (n : Nat) (Dr : DataW Unit), Hid (wr.ranges Tryd.prog 46 ptrElem mb wc.heap.size nS D left k) ∧ Hid (wr.ownsMap Tryd.prog 9 unitElem (w.heap.size + 1) n Dr) ∧ Hid (n + 2 * k ≤ 2 + 2 * Maps.size D) ∧ Hid (Below w.heap.size w wr) ∧ Hid (SetV S f t left Dr) ∧ Hid (Blk wr w.heap.size 46 #[.string f, .string t]) ∧ Hid (∀ z, left z = true → Maps.has D z = true))
    case atStart => exact ⟨Maps.has D, 2, Dp, HR0, HD0, Lib.hid (by omega), HB0, HV1, HX0, Lib.hid fun z h => h⟩
    case round =>
      obtain ⟨left, n, Dr, HR, HO, HN, HB, HV, HX, HL⟩ := hrel
      clear HD0 HX0 HB0 HR0 HS0 HG0 HD1 HX1 HV1
      go_wp2_with (at_next; refine wpList_next_ranges _ rfl _ rfl 46 lawE ptrElem mkE mkP inv_mkE inv_mkP mb wc.heap.size nS D left gk rfl HR.out ?_ ?_)
      · intro hc0 hl0
        have HL0 := Lib.hid hl0
        clear hc0 hl0
        have hml : ∀ {s : ByteArray}, s.size ≤ 32 → s.size ≤ maxLen := fun h => Nat.le_trans h (by simp [maxLen])
        have HLEN : Hid (Maps.size Dr = (portsQ S f t).length) := Lib.hid (set_size HO.out (portsQ_nodup S f t) (fun s hs => by
            rcases portsQ_mem.1 hs with rfl | rfl | ⟨x, hx, rfl | rfl⟩
            · exact HF.out
            · exact HT.out
            · exact hml (H7.out.2 x hx).1
            · exact hml (H7.out.2 x hx).2.1) fun s hs => by
          rw [HV.out s hs, portsQ_mem]
          exact ⟨fun h => h.elim .inl fun h => h.elim (fun h => .inr (.inl h)) fun ⟨x, hx, _, e⟩ => .inr (.inr ⟨x, hx, e⟩), fun h => h.elim .inl fun h => h.elim (fun h => .inr (.inl h)) fun ⟨x, hx, e⟩ => .inr (.inr ⟨x, hx, HL0.out _, e⟩)⟩)
        have kpb : wr.cell? ⟨pb, 0, none⟩ = some (.map (some mb)) := (H1.out.keep HB.out).cell 0
        have x0 := HX.out.cell 0
        have x1 := HX.out.cell 1
        have hO4 : wr.ownsMap Tryd.prog 46 ptrElem mb nS D := ownsMap_same H4.out (HB.out.block mb H4.out.lt)
        obtain ⟨A, is, hL, his⟩ : ∃ A is, (∀ k, (Instr.lookup 42 (.map (some mb)) (.agg #[.string f, .string t]) true).run Tryd.prog (wr.drewN k) = .ok (.tuple #[.pointer A, .bool is]) (wr.drewN k)) ∧ is = (idxQ f t S).isSome := by
          obtain ⟨m1, m2⟩ := H8.out f t HF.out HT.out
          cases e : idxQ f t S with
          | none => exact ⟨none, false, fun k => look_no hO4 HF.out HT.out (m1 e) k, rfl⟩
          | some i =>
            obtain ⟨x, hx, -, -⟩ := idxQ_some e
            have hi : i < qs.length := by rw [H6.out]; exact (List.getElem?_eq_some_iff.1 hx).1
            obtain ⟨m3, m4⟩ := m2 i _ e (List.getElem?_eq_getElem hi)
            exact ⟨_, true, fun k => look_yes hO4 HF.out HT.out m3 (m4 .nil) k, rfl⟩
        have HIS := Lib.hid his
        clear hO4 his
        clear hml HV HL0 HN HR HL
        go_wp2_with fail
        go_quiet (fail)
        have HBq := Lib.hid (bdrewN HB.out nq)
        have HOq : Hid ((wr.drewN nq).ownsMap Tryd.prog 9 unitElem (w.heap.size + 1) n Dr) := Lib.hid HO.out
        have HXq : Hid (Blk (wr.drewN nq) w.heap.size 46 #[.string f, .string t]) := Lib.hid HX.out
        have HC : Hid (((idxQ f t S).isSome = true ∨ f = t ∨ portB f = false ∨ portB t = false ∨ 32 < (portsQ S f t).length) → openQ S f t most = (S, 50)) := Lib.hid fun h => if_pos h
        have HCn : Hid (¬ ((idxQ f t S).isSome = true ∨ f = t ∨ portB f = false ∨ portB t = false ∨ 32 < (portsQ S f t).length) → openQ S f t most = if most < 1 ∨ 64 < most then (S, 1) else (S ++ [⟨f, t, most.toNat, []⟩], 0)) := Lib.hid fun h => if_neg h
        clear hL HO HB HX x0 x1 kpb
        generalize wr.drewN nq = w3 at *
        cases is
        · skip
          by_cases hft : f = t
          · have HE := Lib.hid (HC.out (.inr (.inl hft)))
            obtain ⟨q1, q2⟩ := str_same hft
            clear hft
            go_wp2_with fail
            go_ret
            exact OpenPost.no HP.out HE.out HBq.out rfl
          · have q1 := str_ne hft
            have q2 : ¬ f.toList = t.toList := fun e => by rw [e] at q1; simp at q1
            have HFT := Lib.hid hft
            clear hft
            have KF := Lib.hid (port_walk f w3 HF.out)
            have HPF : Hid (portB f = portB f) := Lib.hid rfl
            obtain ⟨pf, hpf⟩ : ∃ pf, portB f = pf := ⟨_, rfl⟩
            rw [hpf] at KF
            go_wp2_with fail
            with_reducible refine KF.out.mono ?_
            rintro e4 w4 ⟨rfl, hb4⟩
            have HB4 := Lib.hid (HBq.out.trans (hb4.mono HBq.out.size))
            have HO4 := Lib.hid (ownsMap_same HOq.out (hb4.block _ HOq.out.lt))
            have HX4 := Lib.hid (HXq.out.keep hb4)
            clear hb4 KF
            cases pf
            · have HE := Lib.hid (HC.out (.inr (.inr (.inl hpf))))
              clear hpf
              go_wp2_with fail
              go_ret
              exact OpenPost.no HP.out HE.out HB4.out rfl
            · have HPF := Lib.hid hpf
              clear hpf
              have KT := Lib.hid (port_walk t w4 HT.out)
              obtain ⟨pt, hpt⟩ : ∃ pt, portB t = pt := ⟨_, rfl⟩
              rw [hpt] at KT
              go_wp2_with fail
              with_reducible refine KT.out.mono ?_
              rintro e5 w5 ⟨rfl, hb5⟩
              have HB5 := Lib.hid (HB4.out.trans (hb5.mono HB4.out.size))
              have HO5 := Lib.hid (ownsMap_same HO4.out (hb5.block _ HO4.out.lt))
              have HX5 := Lib.hid (HX4.out.keep hb5)
              clear hb5 KT
              cases pt
              · have HE := Lib.hid (HC.out (.inr (.inr (.inr (.inl hpt)))))
                clear hpt
                go_wp2_with fail
                go_ret
                exact OpenPost.no HP.out HE.out HB5.out rfl
              · have HPT := Lib.hid hpt
                clear hpt
                have hlen := HO5.out.len Tryd.underlying48 3
                rw [HLEN.out] at hlen
                by_cases h32 : 32 < (portsQ S f t).length
                · have HE := Lib.hid (HC.out (.inr (.inr (.inr (.inr h32)))))
                  have h33 : (32 : Int) < ((portsQ S f t).length : Int) := by omega
                  clear h32
                  go_wp2_with fail
                  go_ret
                  exact OpenPost.no HP.out HE.out HB5.out rfl
                · have hidx : idxQ f t S = none := by
                    have := HIS.out
                    cases e : idxQ f t S with
                    | none => rfl
                    | some i => rw [e] at this; cases this
                  have h33 : ((portsQ S f t).length : Int) ≤ 32 := by omega
                  have HCm := HCn.out (by
                    rintro (h | h | h | h | h)
                    · rw [hidx] at h; cases h
                    · exact HFT.out h
                    · rw [HPF.out] at h; cases h
                    · rw [HPT.out] at h; cases h
                    · exact h32 h)
                  by_cases hmo : most < 1 ∨ 64 < most
                  · have HE := Lib.hid (HCm.trans (if_pos hmo))
                    clear h32 HCm hidx
                    rcases hmo with hmo | hmo
                    · go_wp2_with fail
                      go_ret
                      exact OpenPost.no HP.out HE.out HB5.out rfl
                    · have hmo1 : 1 ≤ most := by omega
                      go_wp2_with fail
                      go_ret
                      exact OpenPost.no HP.out HE.out HB5.out rfl
                  · obtain ⟨m, rfl⟩ := Int.eq_ofNat_of_zero_le (show 0 ≤ most by omega)
                    have HE := Lib.hid (HCm.trans (if_neg hmo))
                    rw [Int.toNat_natCast] at HE
                    have hmo1 : 1 ≤ (m : Int) := by omega
                    have hmo2 : (m : Int) ≤ 64 := by omega
                    have HID := Lib.hid hidx
                    clear h32 HCm hidx hmo
                    have hO5 : w5.ownsMap Tryd.prog 46 ptrElem mb nS D := ownsMap_same H4.out (HB5.out.block mb H4.out.lt)
                    have hn5 : nS < maxLen := by rw [H5.out]; exact Nat.lt_of_le_of_lt hS (by simp [maxLen])
                    obtain ⟨w6, u6, o6, g6⟩ := (show ((w5.alloc (.cells #[.int .i64 (m : Int), .slice none 0 0] 53)).drew).ownsMap Tryd.prog 46 ptrElem mb nS D from hO5.alloc (.cells #[.int .i64 (m : Int), .slice none 0 0] 53)).update lawE Tryd.underlying42 hn5 (keyE HF.out HT.out) (ptrElem_mk w5.heap.size)
                    have p5 := H1.out.keep HB5.out
                    have hml : mb < w.heap.size := H4.out.lt
                    have hps : pb < w.heap.size := H1.out.lt
                    have hs5 := HB5.out.size
                    have p6 : Blk w6 pb 44 #[.map (some mb)] := (show Blk (w5.alloc (.cells #[.int .i64 (m : Int), .slice none 0 0] 53)).drew pb _ _ from p5.alloc _).grown g6 (fun e => by injection e with e; have := H3.out; rw [← e, H2.out] at this; cases this)
                    have x6 : Blk w6 w.heap.size 46 #[.string f, .string t] := (show Blk (w5.alloc (.cells #[.int .i64 (m : Int), .slice none 0 0] 53)).drew _ _ _ from HX5.out.alloc _).grown g6 (fun e => by injection e with e; omega)
                    have K0 : Hid (w5.drew.cell? ⟨pb, 0, none⟩ = some (.map (some mb)) ∧ w5.drew.cell? ⟨w.heap.size, 0, none⟩ = some (.string f) ∧ w5.drew.cell? ⟨w.heap.size, 1, none⟩ = some (.string t)) := Lib.hid ⟨p5.cell 0, HX5.out.cell 0, HX5.out.cell 1⟩
                    have K1 : Hid ((w5.alloc (.cells #[.int .i64 (m : Int), .slice none 0 0] 53)).drew.cell? ⟨pb, 0, none⟩ = some (.map (some mb)) ∧ (w5.alloc (.cells #[.int .i64 (m : Int), .slice none 0 0] 53)).drew.cell? ⟨w.heap.size, 0, none⟩ = some (.string f) ∧ (w5.alloc (.cells #[.int .i64 (m : Int), .slice none 0 0] 53)).drew.cell? ⟨w.heap.size, 1, none⟩ = some (.string t)) :=
                      Lib.hid ⟨(p5.alloc _).cell 0, (HX5.out.alloc _).cell 0, (HX5.out.alloc _).cell 1⟩
                    have K2 : Hid (w6.cell? ⟨pb, 0, none⟩ = some (.map (some mb)) ∧ w6.cell? ⟨w.heap.size, 0, none⟩ = some (.string f) ∧ w6.cell? ⟨w.heap.size, 1, none⟩ = some (.string t)) := Lib.hid ⟨p6.cell 0, x6.cell 0, x6.cell 1⟩
                    have q6 : Blk w6 w5.heap.size 53 #[.int .i64 (m : Int), .slice none 0 0] := (show Blk (w5.alloc (.cells #[.int .i64 (m : Int), .slice none 0 0] 53)).drew w5.heap.size _ _ from Blk.new w5 53 #[.int .i64 (m : Int), .slice none 0 0]).grown g6 (fun e => by injection e with e; omega)
                    have G6 := (grownBy_of_below HB5.out (some mb)).andThen (grown_frame g6) (fun j hj => .inr hj)
                    have HFIN := Lib.hid (opened H1.out H2.out H3.out H4.out H5.out H6.out H7.out H8.out H9.out G6 o6 q6 hs5 HID.out (by have := HPF.out; unfold portB at this; simp at this; omega) (by have := HPT.out; unfold portB at this; simp at this; omega) (by omega) (by omega))
                    clear hO5 hn5 o6 g6 p5 hml hps hs5 p6 x6 q6 G6
                    go_wp2_with fail
                    go_region_held3 (fun w' => w'.cell? ⟨pb, 0, none⟩ = some (.map (some mb)) ∧ w'.cell? ⟨w.heap.size, 0, none⟩ = some (.string f) ∧ w'.cell? ⟨w.heap.size, 1, none⟩ = some (.string t)) (first | exact K0.out | exact K1.out | exact K2.out) (fail)
                    all_goals
                      go_wp2_with fail
                      go_ret
                      unfold OpenPost
                      rw [HE.out]
                      exact ⟨_, HFIN.out.1, HFIN.out.2, rfl⟩
        · have HE := Lib.hid (HC.out (.inl HIS.out.symm))
          go_wp2_with fail
          go_ret
          exact OpenPost.no HP.out HE.out HBq.out rfl
      · intro a b c kl y1 y2 w1 cnt1 hkey hlk hv hat hrg1 hlt hg1 hs1 hen
        obtain ⟨a', b', e1, ha, hb, rfl⟩ := keyE_inv hkey
        obtain ⟨rfl, rfl⟩ : a = a' ∧ b = b' := by simpa [mkE] using e1
        obtain ⟨x, hx, hxa, hxb⟩ : ∃ x, x ∈ S ∧ x.fr = a ∧ x.tt = b := by
          have h1 := HL.out _ hlk
          cases e : idxQ a b S with
          | none => rw [((H8.out a b ha hb).1 e)] at h1; cases h1
          | some i =>
            obtain ⟨x, h2, h3, h4⟩ := idxQ_some e
            exact ⟨x, List.mem_of_getElem? h2, h3, h4⟩
        have HV1 := Lib.hid (fun c d hcd => setv_step HV.out HO.out.isMap H7.out.2 hx hxa hxb c d hcd)
        have HX1 := Lib.hid (HX.out.grown hg1 (by have := HPM.out; intro e; injection e with e; have := HB1.out.size; omega))
        have HO1' := Lib.hid (HO.out.kept hg1 (by have := HPM.out; intro e; injection e with e; omega))
        have HB' : Hid (Below w.heap.size w w1) := Lib.hid ⟨hg1.os.trans HB.out.os, hg1.tape.trans HB.out.tape, hg1.output.trans HB.out.output, Nat.le_trans HB.out.size hg1.size, fun k hk => (hg1.block k (Nat.lt_of_lt_of_le hk HB.out.size) (by intro e; injection e with e; have := HB1.out.size; omega)).trans (HB.out.block k hk)⟩
        have HR1 := Lib.hid hrg1
        have HHA := Lib.hid ha
        have HHB := Lib.hid hb
        have HLT := Lib.hid hlt
        unfold mkE at hen
        clear hkey hlk hv hat hrg1 hlt hg1 hs1 e1 ha hb hx hxa hxb
        have HY2 := Lib.hid (Blk.new w1 46 #[.string a, .string b])
        have HR2 := Lib.hid (HR1.out.alloc (.cells #[.string a, .string b] 46))
        have HO2 := Lib.hid (HO1'.out.alloc (.cells #[.string a, .string b] 46))
        have HX2 := Lib.hid (HX1.out.alloc (.cells #[.string a, .string b] 46))
        have HB2 := Lib.hid (HB'.out.alloc HB'.out.size (.cells #[.string a, .string b] 46))
        have hy1 : w1.heap.size ≠ w.heap.size + 1 := by have := HO1'.out.lt; omega
        clear HR1 HO1' HX1 HB' HR HO HX HB
        go_wp2_with fail
        generalize w1.alloc (.cells #[.string a, .string b] 46) = w2 at *
        generalize w1.heap.size = yb at *
        have o0 : (w2.drew).ownsMap Tryd.prog 9 (unitElem (H := Unit)) (w.heap.size + 1) n Dr := HO2.out
        have hn1 : n < maxLen := by have := HN.out; have := HSZ.out; simp only [maxLen]; omega
        have hn2 : n + 1 < maxLen := by have := HN.out; have := HSZ.out; simp only [maxLen]; omega
        obtain ⟨wa, ua, oa, ga⟩ := o0.update lawS Tryd.underlying48 hn1 (keyS HHA.out) unitElem_mk
        obtain ⟨wab, uab, oab, gab⟩ := oa.update lawS Tryd.underlying48 hn2 (keyS HHB.out) unitElem_mk
        obtain ⟨wb, ub, ob, gb⟩ := o0.update lawS Tryd.underlying48 hn1 (keyS HHB.out) unitElem_mk
        obtain ⟨wba, uba, oba, gba⟩ := ob.update lawS Tryd.underlying48 hn2 (keyS HHA.out) unitElem_mk
        replace ga : w2.grownBy wa (some (w.heap.size + 1)) := ⟨ga.os, ga.tape, ga.output, ga.size, ga.block⟩
        replace gb : w2.grownBy wb (some (w.heap.size + 1)) := ⟨gb.os, gb.tape, gb.output, gb.size, gb.block⟩
        have hyn : some yb ≠ some (w.heap.size + 1) := fun e => hy1 (by injection e)
        have ya := HY2.out.grown ga hyn
        have yab := ya.grown gab hyn
        have yb' := HY2.out.grown gb hyn
        have yba := yb'.grown gba hyn
        have K0 : Hid (w2.drew.cell? ⟨yb, 0, none⟩ = some (.string a) ∧ w2.drew.cell? ⟨yb, 1, none⟩ = some (.string b)) := Lib.hid ⟨HY2.out.cell 0, HY2.out.cell 1⟩
        have K1 : Hid (wa.cell? ⟨yb, 0, none⟩ = some (.string a) ∧ wa.cell? ⟨yb, 1, none⟩ = some (.string b)) := Lib.hid ⟨ya.cell 0, ya.cell 1⟩
        have K2 : Hid (wab.cell? ⟨yb, 0, none⟩ = some (.string a) ∧ wab.cell? ⟨yb, 1, none⟩ = some (.string b)) := Lib.hid ⟨yab.cell 0, yab.cell 1⟩
        have K3 : Hid (wb.cell? ⟨yb, 0, none⟩ = some (.string a) ∧ wb.cell? ⟨yb, 1, none⟩ = some (.string b)) := Lib.hid ⟨yb'.cell 0, yb'.cell 1⟩
        have K4 : Hid (wba.cell? ⟨yb, 0, none⟩ = some (.string a) ∧ wba.cell? ⟨yb, 1, none⟩ = some (.string b)) := Lib.hid ⟨yba.cell 0, yba.cell 1⟩
        have hrn : some wc.heap.size ≠ some (w.heap.size + 1) := fun e => by have := HPM.out; injection e with e; omega
        have hmn : some mb ≠ some (w.heap.size + 1) := fun e => by have := H4.out.lt; injection e with e; omega
        have hxn : some w.heap.size ≠ some (w.heap.size + 1) := fun e => by injection e with e; omega
        have gA := ga.andThen gab fun j hj => .inr hj
        have gB := gb.andThen gba fun j hj => .inr hj
        have bel : ∀ {wx : World}, w2.grownBy wx (some (w.heap.size + 1)) → Below w.heap.size w wx := fun g => ⟨g.os.trans HB2.out.os, g.tape.trans HB2.out.tape, g.output.trans HB2.out.output, Nat.le_trans HB2.out.size g.size, fun k hk => (g.block k (Nat.lt_of_lt_of_le hk HB2.out.size) (by intro e; injection e with e; omega)).trans (HB2.out.block k hk)⟩
        have E1 : Hid (wab.ranges Tryd.prog 46 ptrElem mb wc.heap.size nS D (fun z => left z && !z.sameKey (kE a b)) cnt1 ∧ wab.ownsMap Tryd.prog 9 unitElem (w.heap.size + 1) (n + 1 + 1) ((Dr.put (kS a) (.agg [])).put (kS b) (.agg [])) ∧ Below w.heap.size w wab ∧ Blk wab w.heap.size 46 #[.string f, .string t]) := Lib.hid ⟨HR2.out.kept gA hmn hrn, oab, bel gA, HX2.out.grown gA hxn⟩
        have E2 : Hid (wba.ranges Tryd.prog 46 ptrElem mb wc.heap.size nS D (fun z => left z && !z.sameKey (kE a b)) cnt1 ∧ wba.ownsMap Tryd.prog 9 unitElem (w.heap.size + 1) (n + 1 + 1) ((Dr.put (kS b) (.agg [])).put (kS a) (.agg [])) ∧ Below w.heap.size w wba ∧ Blk wba w.heap.size 46 #[.string f, .string t]) := Lib.hid ⟨HR2.out.kept gB hmn hrn, oba, bel gB, HX2.out.grown gB hxn⟩
        clear oa ga oab gab ob gb oba gba ya yab yb' yba hyn hrn hmn hxn gA gB bel HR2 HO2 HX2 HB2 HY2 o0 hn1 hn2 hy1
        go_region_held3 (fun w' => w'.cell? ⟨yb, 0, none⟩ = some (.string a) ∧ w'.cell? ⟨yb, 1, none⟩ = some (.string b)) (first | exact K0.out | exact K1.out | exact K2.out | exact K3.out | exact K4.out) (fail)
        all_goals
          go_wp2
          go_roundg cnt1
          case rel =>
            first
              | exact ⟨_, n + 1 + 1, _, Lib.hid E1.out.1, Lib.hid E1.out.2.1, Lib.hid (by have := HN.out; have := HLT.out; omega), Lib.hid E1.out.2.2.1, Lib.hid (HV1.out a b (.inl ⟨rfl, rfl⟩)), Lib.hid E1.out.2.2.2, Lib.hid fun z h => HL.out z (by simp only [Bool.and_eq_true] at h; exact h.1)⟩
              | exact ⟨_, n + 1 + 1, _, Lib.hid E2.out.1, Lib.hid E2.out.2.1, Lib.hid (by have := HN.out; have := HLT.out; omega), Lib.hid E2.out.2.2.1, Lib.hid (HV1.out b a (.inr ⟨rfl, rfl⟩)), Lib.hid E2.out.2.2.2, Lib.hid fun z h => HL.out z (by simp only [Bool.and_eq_true] at h; exact h.1)⟩
          case measure => exact HLT.out
end Go.Proofs.YtihhadgkcdkemaaDoor
