/-
  The walk of the program's Parse. Conditions: the size; the tables.
-/
import Derived.Test.YtlknclkkhincfaaDoorTbCut
import Derived.Test.YtlknclkkhincfaaDoorTbIns
import Derived.Test.YtlknclkkhincfaaDoorTbBd
import Derived.Test.YtlknclkkhincfaaDoorLibAll
import Derived.Deep.RegionLaw
namespace Go.Proofs.YtlknclkkhincfaaDoor
open Go.RowKit Go.Shelf
set_option linter.unusedVariables false
theorem results_tmp_cell {fn : Func} {p u : Tmp} {ty : TypeId} (h : fn.results = #[.tmp u, .cell p ty]) (tmps : Array Value) (P : Program) (w : World) :
    (results fn tmps).run P w =
      ((asAddr (tmps.getD p undef)).run P w).andThen fun a w₁ => ((loadVar ty a).run P w₁).andThen fun v w₂ => .ok (.tuple #[tmps.getD u undef, v]) w₂ := by
  simp only [results, h]
  simp [Sem.run_bind, Result.andThen]
/-- the pieces, with a blank between two -/
theorem join_call (w : World) (v : Value) (gi : Option Nat) (x : PL) (n : Nat) (h : OwnX 1 w gi v (strsV x.ps)) (hb : LnB n x) (hn : n ≤ 262144) :
    Calls Tryd.prog 26 #[v, .string ⟨#[32]⟩] w fun e w' => Below w.heap.size w w' ∧ e = .returned (.string (bs (joinB x.ps))) := by
  obtain ⟨A, m, c, rfl, -⟩ := h.sl
  have hm : strsV x.ps = (x.ps.map bs).map Value.string := by unfold strsV; rw [List.map_map]; rfl
  rw [hm] at h
  obtain ⟨e1, e2, e3, hr⟩ := h.rs
  rw [List.length_map] at e1
  rcases hr with h0 | ⟨b, off, rfl, hlt, hc⟩
  · have h1 : x.ps = [] := by simpa using h0
    rw [h1] at e1 ⊢
    subst e1
    exact (Tryd.strings_Join_none A c ⟨#[32]⟩ w).mono fun e w' ⟨h1, h2⟩ => ⟨by rw [h2]; exact Below.refl _ _, h1⟩
  · have hl : (x.ps.map bs).length = m := by rw [List.length_map, e1]
    have hd : (x.ps.map bs).map (·.data.toList) = x.ps := by
      rw [List.map_map]
      have : ((fun s : ByteArray => s.data.toList) ∘ bs) = id := by funext l; exact bs_list l
      rw [this, List.map_id]
    have hj := join_len n x.ps hb.2
    have hb1 := hb.1
    have hmul : x.ps.length * (n + 1) ≤ 262145 * 262145 := Nat.mul_le_mul (by omega) (by omega)
    have h := Tryd.strings_Join b off c (x.ps.map bs) ⟨#[32]⟩ w (fun j y hy => by
      have hj := (List.getElem?_eq_some_iff.1 hy).1
      rw [hc j hj]
      unfold st
      rw [List.getD_eq_getElem?_getD, hy]; rfl) hlt (by omega) (by omega) (by
        rw [hd]
        show (Lib.join x.ps [32]).length ≤ _
        omega)
    rw [hl, hd] at h
    exact h.mono fun e w' ⟨h1, h2⟩ => ⟨h2, h1⟩
/-- a table, behind the pointer to block tb, in blocks of its own from block S on -/
def TabIn (w : World) (tb S : Nat) (T : List En) : Prop :=
  ∃ v g, Blk w tb 70 #[v] ∧ OwnX 2 w g v (T.map enC).flatten ∧ (∀ k, g = some k → S ≤ k) ∧ tb < S
theorem TabIn.st {w : World} {tb S : Nat} {T : List En} (h : TabIn w tb S T) : TabSt w tb T := by
  obtain ⟨v, g, h1, h2, h3, h4⟩ := h
  exact ⟨v, g, h1, h2, fun e => by have := h3 tb e; omega⟩
theorem TabIn.below {w w' : World} {tb S : Nat} {T : List En} (h : TabIn w tb S T) (hb : Below w.heap.size w w') : TabIn w' tb S T := by
  obtain ⟨v, g, h1, h2, h3, h4⟩ := h
  exact ⟨v, g, h1.keep hb, h2.below hb fun k hk => h2.lt hk, h3, h4⟩
theorem TabIn.far {w : World} {tb S : Nat} {T : List En} (h : TabIn w tb S T) {p : Addr} (hp : p.block < S) (hne : p.block ≠ tb) (u : Value) : TabIn (w.setCell p u) tb S T := by
  obtain ⟨v, g, h1, h2, h3, h4⟩ := h
  exact ⟨v, g, h1.far (fun e => hne e.symm) u, h2.same (by simp) fun k hk => Below.heap_setCell w p u k (fun e => by have := h3 k hk; omega), h3, h4⟩
/-- lines that stay -/
def LnSt (w : World) (S0 S1 : Nat) (vo : Value) (L : List PL) : Prop := ∃ own : Nat → Nat × Nat, CutSt w own vo L ∧ ∀ k, ¬ (S0 ≤ k ∧ k < S1) → own k = (0, 0)
theorem LnSt.safe {w w' : World} {S0 S1 : Nat} {vo : Value} {L : List PL} {S : Nat → Prop} (h : LnSt w S0 S1 vo L) (hs : Safe S w w') (hS : ∀ k, S0 ≤ k → k < S1 → S k) : LnSt w' S0 S1 vo L := by
  obtain ⟨own, ⟨g, R, h1, h2, h3, h4, h5⟩, hz⟩ := h
  have key : ∀ k, own k ≠ (0, 0) → S k := fun k hk => by
    apply Classical.byContradiction
    intro hn
    exact hk (hz k fun ⟨a, b⟩ => hn (hS k a b))
  refine ⟨own, ⟨g, R, h1.safe hs fun k hk => key k (by rw [h2 k hk]; simp), h2, h3, h4, fun i x r hx hr => (h5 i x r hx hr).keep hs.size fun k _ hk => ⟨hs.block k (key k (by rw [hk]; simp)), rfl⟩⟩, hz⟩
theorem LnSt.of {w : World} {own : Nat → Nat × Nat} {S0 : Nat} {vo : Value} {L : List PL} (h : CutSt w own vo L) (hz : ∀ k, k < S0 → own k = (0, 0)) : LnSt w S0 w.heap.size vo L := by
  obtain ⟨g, R, h1, h2, h3, h4, h5⟩ := h
  refine ⟨fun k => if k < w.heap.size then own k else (0, 0), ⟨g, R, h1, fun b hb => ?_, h3, h4, fun i x r hx hr => (h5 i x r hx hr).keep (Nat.le_refl _) fun k hk _ => ⟨rfl, if_pos hk⟩⟩, fun k hk => ?_⟩
  · show (if b < w.heap.size then own b else _) = _
    rw [if_pos (h1.lt hb)]; exact h2 b hb
  · show (if k < w.heap.size then own k else _) = _
    split
    · exact hz k (by omega)
    · rfl
/-- line j -/
theorem LnSt.at_ {w : World} {S0 S1 : Nat} {A : Option Addr} {n c : Nat} {L : List PL} (h : LnSt w S0 S1 (.slice A n c) L) {j : Nat} {x : PL} (hx : L[j]? = some x) :
    ∃ gb off Ap np cp gi, A = some ⟨gb, off, none⟩ ∧ w.cell? ⟨gb, off + j * 3, none⟩ = some (.int .i64 (x.at_ : Int)) ∧ w.cell? ⟨gb, off + j * 3 + 1, none⟩ = some (.string (bs x.key)) ∧ w.cell? ⟨gb, off + j * 3 + 2, none⟩ = some (.slice Ap np cp) ∧ OwnX 1 w gi (.slice Ap np cp) (strsV x.ps) := by
  obtain ⟨own, ⟨g, R, h1, h2, h3, h4, h5⟩, hz⟩ := h
  have hj := (List.getElem?_eq_some_iff.1 hx).1
  obtain ⟨r, hr⟩ : ∃ r, R[j]? = some r := ⟨_, List.getElem?_eq_getElem (by omega)⟩
  obtain ⟨_, _, _, _, gb, off, _, hA, _, hcf⟩ := h1.elem (by omega) h4 hr
  obtain ⟨v, gi, hre, hv, -⟩ := h5 j x r hx hr
  obtain ⟨Ap, np, cp, rfl, -⟩ := hv.sl
  refine ⟨gb, off, Ap, np, cp, gi, hA, ?_, ?_, ?_, hv⟩
  · have := (hcf 0 (by omega)).1; rw [hre] at this; exact this
  · have := (hcf 1 (by omega)).1; rw [hre] at this; exact this
  · have := (hcf 2 (by omega)).1; rw [hre] at this; exact this
theorem LnSt.len {w : World} {S0 S1 : Nat} {vo : Value} {L : List PL} (h : LnSt w S0 S1 vo L) : ∃ A c, vo = .slice A L.length c ∧ L.length ≤ c ∧ c ≤ maxLen := by
  obtain ⟨own, h, -⟩ := h
  exact h.len
/-- what Parse leaves -/
def PPost (w : World) (R : List En × Int × Int) (e : Ending) (w' : World) : Prop :=
  Below w.heap.size w w' ∧ ((R.2.1 = 0 ∧ (∃ tb S, e = .returned (.tuple #[.pointer (some ⟨tb, 0, none⟩), .agg #[.int .i64 0, .int .i64 0]]) ∧ TabIn w' tb S R.1 ∧ sortE R.1 ∧ R.1.length ≤ 2000)) ∨
    (¬ R.2.1 = 0 ∧ e = .returned (.tuple #[.pointer none, .agg #[.int .i64 R.2.1, .int .i64 R.2.2]])))
/-- the same, and the table is a new one -/
def PPostN (w : World) (R : List En × Int × Int) (e : Ending) (w' : World) : Prop :=
  Below w.heap.size w w' ∧ ((R.2.1 = 0 ∧ (∃ tb S, e = .returned (.tuple #[.pointer (some ⟨tb, 0, none⟩), .agg #[.int .i64 0, .int .i64 0]]) ∧ TabIn w' tb S R.1 ∧ sortE R.1 ∧ R.1.length ≤ 2000 ∧ w.heap.size ≤ tb)) ∨
    (¬ R.2.1 = 0 ∧ e = .returned (.tuple #[.pointer none, .agg #[.int .i64 R.2.1, .int .i64 R.2.2]])))
theorem PPostN.weak {w : World} {R : List En × Int × Int} {e : Ending} {w' : World} (h : PPostN w R e w') : PPost w R e w' := by
  obtain ⟨h1, h2⟩ := h
  rcases h2 with ⟨q, tb, S, a, b, c, d, -⟩ | h2
  · exact ⟨h1, .inl ⟨q, tb, S, a, b, c, d⟩⟩
  · exact ⟨h1, .inr h2⟩
theorem below_drew {B : Nat} {w w' : World} (h : Below B w w') : Below B w w'.drew := ⟨h.os, h.tape, h.output, h.size, h.block⟩
def SafeS (w : World) (S0 S1 : Nat) (k : Nat) : Prop := k < w.heap.size ∨ (S0 ≤ k ∧ k < S1)
theorem parse_open (w : World) (W0 : World) (h : W0 = ((w.alloc (.cells #[.int .i64 0, .int .i64 0] 27)).alloc (.cells #[.int .i64 0, .int .i64 0] 27)).alloc (.cells #[.slice none 0 0] 70)) :
    Blk W0 w.heap.size 27 #[.int .i64 0, .int .i64 0] ∧ Blk W0 (w.heap.size + 1) 27 #[.int .i64 0, .int .i64 0] ∧ Blk W0 (w.heap.size + 1 + 1) 70 #[.slice none 0 0] ∧ Below w.heap.size w W0 ∧ W0.heap.size = w.heap.size + 3 := by
  subst h
  have b0 := Blk.new w 27 #[.int .i64 0, .int .i64 0]
  have b1 := Blk.new (w.alloc (.cells #[.int .i64 0, .int .i64 0] 27)) 27 #[.int .i64 0, .int .i64 0]
  have b2 := Blk.new ((w.alloc (.cells #[.int .i64 0, .int .i64 0] 27)).alloc (.cells #[.int .i64 0, .int .i64 0] 27)) 70 #[.slice none 0 0]
  refine ⟨(b0.alloc _).alloc _, ?_, ?_, (((Below.refl _ _).alloc (Nat.le_refl _) _).alloc (by simp) _).alloc (by simp; omega) _, by simp⟩
  · have h := b1.alloc (.cells #[.slice none 0 0] 70)
    simpa using h
  · simpa using b2
set_option maxRecDepth 100000 in
set_option maxHeartbeats 4000000 in
theorem parse_walkN (text : List UInt8) (w : World) (hs : text.length ≤ 262144) (hT : TabsT w.heap.size w) : Calls Tryd.prog 8 #[.string (bs text)] w (PPostN w (parseP text)) := by
  have hsz := bs_size text
  have hls : ¬ (262144 : Int) < (text.length : Int) := by omega
  obtain ⟨W0, hW0⟩ : ∃ W0, W0 = ((w.alloc (.cells #[.int .i64 0, .int .i64 0] 27)).alloc (.cells #[.int .i64 0, .int .i64 0] 27)).alloc (.cells #[.slice none 0 0] 70) := ⟨_, rfl⟩
  obtain ⟨o1, o2, o3, o4, o5⟩ := parse_open w W0 hW0
  have HC := Lib.hid (cut_walk text W0 hs (fun w' hb => hT w' (o4.trans (hb.mono o4.size))))
  unfold CutPost at HC
  obtain ⟨hbd1, hbd2⟩ := cutP_bd text
  have hpp : parseP text = parseGo (cutP text).1 [] (if 0 ≤ (cutP text).2 then 61 else 0) (cutP text).2 := by unfold parseP; rw [if_neg (by omega)]
  rw [hpp]
  generalize cutP text = LB at *
  obtain ⟨L, bad⟩ := LB
  simp only [] at HC hbd1 hbd2
  obtain ⟨c, hc⟩ : ∃ c : Int, (if 0 ≤ bad then 61 else 0) = c := ⟨_, rfl⟩
  simp only []
  rw [hc]
  obtain ⟨R, hR⟩ : ∃ R, parseGo L [] c bad = R := ⟨_, rfl⟩
  rw [hR]
  have HR : Hid (parseGo (L.drop 0) [] c bad = R) := Lib.hid hR
  have HBD := Lib.hid hbd1
  have HO1 := Lib.hid o1
  have HO2 := Lib.hid o2
  have HO3 := Lib.hid o3
  have HO4 := Lib.hid o4
  have HO5 := Lib.hid o5
  have HW0 := Lib.hid hW0
  have HCC := Lib.hid hc
  clear hT hpp hR hbd1 o1 o2 o3 o4 o5 hc
  go_enter Tryd.func8, Tryd.ntmps8
  go_wp2_with fail
  refine wp_scope_inline 0 rfl ?_
  go_wp2_with fail
  rw [← HW0.out]
  clear hW0
  refine HC.out.mono ?_
  rintro e w1 ⟨own, vo, hC, hz, rfl, hb1⟩
  obtain ⟨A, cc, rfl, hcc, hcm⟩ := hC.len
  unfold maxLen at hcm
  have HL := Lib.hid (LnSt.of hC hz)
  have HB1 := Lib.hid hb1
  have b1 := HO1.out.keep hb1
  have b2 := HO2.out.keep hb1
  have b3 := HO3.out.keep hb1
  have k21 := b2.cell 1
  have f21 := b2.frozen 1
  have k20 := (b2.set_ 1 (.int .i64 bad)).cell 0
  have f20 := (b2.set_ 1 (.int .i64 bad)).frozen 0
  have k211 := (b2.set_ 1 (.int .i64 bad)).cell 1
  have HBB1 := Lib.hid b1
  have HBB2 := Lib.hid b2
  have HBB3 := Lib.hid b3
  clear hC hz hb1 b1 b2 b3 HC
  have hrS : ¬ SafeS w W0.heap.size w1.heap.size w.heap.size := by unfold SafeS; have := HO5.out; omega
  have hfS : ¬ SafeS w W0.heap.size w1.heap.size (w.heap.size + 1) := by unfold SafeS; have := HO5.out; omega
  have htS : ¬ SafeS w W0.heap.size w1.heap.size (w.heap.size + 1 + 1) := by unfold SafeS; have := HO5.out; omega
  have h01 := HB1.out.size
  have hSlt : ∀ k, SafeS w W0.heap.size w1.heap.size k → k < w1.heap.size := by intro k hk; unfold SafeS at hk; have := HO5.out; omega
  have HSR := Lib.hid hrS
  have HSF := Lib.hid hfS
  have HSTt := Lib.hid htS
  have HSlt := Lib.hid hSlt
  have HT0 : Hid (TabIn w1 (w.heap.size + 1 + 1) w1.heap.size []) := Lib.hid ⟨_, none, HBB3.out, OwnX.nil _ none, (fun k h => by cases h), HBB3.out.lt⟩
  have h1b := HBB1.out.lt
  have h2b := HBB2.out.lt
  have HBlw : Hid (∀ w', Safe (SafeS w W0.heap.size w1.heap.size) w1 w' → Below w.heap.size w w') := Lib.hid fun w' hs => (HO4.out.trans (HB1.out.mono HO4.out.size)).trans (hs.to_below fun k hk => .inl hk)
  clear hrS hfS htS hSlt
  by_cases hb : 0 ≤ bad
  case' pos =>
    have HCq : Hid (c = 61) := Lib.hid (by rw [← HCC.out, if_pos hb])
    have H1 : Hid (Safe (SafeS w W0.heap.size w1.heap.size) w1 ((w1.setCell ⟨w.heap.size + 1, 1, none⟩ (.int .i64 bad)).setCell ⟨w.heap.size + 1, 0, none⟩ (.int .i64 61))) := Lib.hid (((Safe.refl _ _).set_ HSF.out _).set_ HSF.out _)
    have H2 : Hid (Blk ((w1.setCell ⟨w.heap.size + 1, 1, none⟩ (.int .i64 bad)).setCell ⟨w.heap.size + 1, 0, none⟩ (.int .i64 61)) (w.heap.size + 1) 27 #[.int .i64 c, .int .i64 bad]) := Lib.hid (by rw [HCq.out]; exact (HBB2.out.set_ 1 _).set_ 0 _)
    have H3 : Hid (Blk ((w1.setCell ⟨w.heap.size + 1, 1, none⟩ (.int .i64 bad)).setCell ⟨w.heap.size + 1, 0, none⟩ (.int .i64 61)) w.heap.size 27 #[.int .i64 0, .int .i64 0]) := Lib.hid ((HBB1.out.far (by simp) _).far (by simp) _)
    have H4 : Hid (TabIn ((w1.setCell ⟨w.heap.size + 1, 1, none⟩ (.int .i64 bad)).setCell ⟨w.heap.size + 1, 0, none⟩ (.int .i64 61)) (w.heap.size + 1 + 1) w1.heap.size []) := Lib.hid ((HT0.out.far h2b (by simp) _).far h2b (by simp) _)
    have hcc : (c != 0) = true := by rw [HCq.out]; rfl
    have hcd : (c == 0) = false := by rw [HCq.out]; rfl
    go_wp2_with fail
    generalize (w1.setCell ⟨w.heap.size + 1, 1, none⟩ (.int .i64 bad)).setCell ⟨w.heap.size + 1, 0, none⟩ (.int .i64 61) = W2 at *
  case' neg =>
    have HCq : Hid (c = 0) := Lib.hid (by rw [← HCC.out, if_neg hb])
    have H1 : Hid (Safe (SafeS w W0.heap.size w1.heap.size) w1 (w1.setCell ⟨w.heap.size + 1, 1, none⟩ (.int .i64 bad))) := Lib.hid ((Safe.refl _ _).set_ HSF.out _)
    have H2 : Hid (Blk (w1.setCell ⟨w.heap.size + 1, 1, none⟩ (.int .i64 bad)) (w.heap.size + 1) 27 #[.int .i64 c, .int .i64 bad]) := Lib.hid (by rw [HCq.out]; exact HBB2.out.set_ 1 _)
    have H3 : Hid (Blk (w1.setCell ⟨w.heap.size + 1, 1, none⟩ (.int .i64 bad)) w.heap.size 27 #[.int .i64 0, .int .i64 0]) := Lib.hid (HBB1.out.far (by simp) _)
    have H4 : Hid (TabIn (w1.setCell ⟨w.heap.size + 1, 1, none⟩ (.int .i64 bad)) (w.heap.size + 1 + 1) w1.heap.size []) := Lib.hid (HT0.out.far h2b (by simp) _)
    have hcc : (c != 0) = false := by rw [HCq.out]; rfl
    have hcd : (c == 0) = true := by rw [HCq.out]; rfl
    go_wp2_with fail
    generalize w1.setCell ⟨w.heap.size + 1, 1, none⟩ (.int .i64 bad) = W2 at *
  all_goals
    clear k21 f21 k20 f20 k211 HBB1 HBB2 HBB3 HT0 HCC hb
    go_loopg [30] L.length (fun k s30 wr => ∃ (j : Nat) (T : List En), s30 = .int .i64 (j : Int) ∧ j + k = L.length ∧ Hid (Safe (SafeS w W0.heap.size w1.heap.size) w1 wr) ∧ Hid (TabIn wr (w.heap.size + 1 + 1) w1.heap.size T) ∧ Hid (Blk wr (w.heap.size + 1) 27 #[.int .i64 c, .int .i64 bad]) ∧ Hid (Blk wr w.heap.size 27 #[.int .i64 0, .int .i64 0]) ∧ Hid (sortE T ∧ T.length ≤ j ∧ T.length ≤ 2000) ∧ Hid (parseGo (L.drop j) T c bad = R))
    case atStart => exact ⟨0, [], rfl, by omega, H1, H4, H2, H3, Lib.hid ⟨List.Pairwise.nil, by simp, by simp⟩, HR⟩
    case round =>
      obtain ⟨j, T, rfl, hj, HS, HTb, HF, HRb, HSo, HG⟩ := hrel
      clear H1 H2 H3 H4 HR
      by_cases hlt : j < L.length
      · have hj1 : (j : Int) < (L.length : Int) := by omega
        obtain ⟨x, hx⟩ : ∃ x, L[j]? = some x := ⟨_, List.getElem?_eq_getElem hlt⟩
        have hLn := HL.out.safe HS.out fun k h1 h2 => .inr ⟨h1, h2⟩
        obtain ⟨gb, off, Ap, np, cp, gi, rfl, q0, q1, q2, hp⟩ := hLn.at_ hx
        have HBx := Lib.hid (HBD.out x (List.mem_of_getElem? hx))
        have HG1 : Hid (parseGo (x :: L.drop (j + 1)) T c bad = R) := Lib.hid (by
          rw [← HG.out]; congr 1
          obtain ⟨h1, h2⟩ := List.getElem?_eq_some_iff.1 hx
          rw [← h2]; exact (List.drop_eq_getElem_cons h1).symm)
        have hnb := Blk.new wr 74 #[.int .i64 (x.at_ : Int), .string (bs x.key), .slice Ap np cp]
        have hF1 := HF.out.alloc (.cells #[.int .i64 (x.at_ : Int), .string (bs x.key), .slice Ap np cp] 74)
        have x0 := hnb.cell 0
        have x1 := hnb.cell 1
        have x2 := hnb.cell 2
        have f0 := hF1.cell 0
        have f1 := hF1.cell 1
        have hba := (Below.refl wr.heap.size wr).alloc (Nat.le_refl _) (.cells #[.int .i64 (x.at_ : Int), .string (bs x.key), .slice Ap np cp] 74)
        have hsS : ∀ k, SafeS w W0.heap.size w1.heap.size k → k < wr.heap.size := fun k hk => Nat.lt_of_lt_of_le (HSlt.out k hk) HS.out.size
        have HS1 := Lib.hid (HS.out.below hba hsS)
        have HT1 := Lib.hid (HTb.out.below hba)
        have HF1 := Lib.hid hF1
        have HR1 := Lib.hid (HRb.out.alloc (.cells #[.int .i64 (x.at_ : Int), .string (bs x.key), .slice Ap np cp] 74))
        have HN1 := Lib.hid hnb
        have HP1 := Lib.hid (hp.below hba fun k hk => hp.lt hk)
        have HSz : Hid (wr.heap.size < (wr.alloc (.cells #[.int .i64 (x.at_ : Int), .string (bs x.key), .slice Ap np cp] 74)).heap.size ∧ w1.heap.size ≤ wr.heap.size) := Lib.hid ⟨by simp, HS.out.size⟩
        clear hLn hx hp hnb hF1 hba hsS HG HS HTb HF HRb
        by_cases hq : ¬ c = 0 ∧ bad ≤ (x.at_ : Int)
        · have HE : Hid (R = (T, c, bad)) := Lib.hid (by rw [← HG1.out, parseGo, if_pos hq])
          first
          | exact absurd HCq.out hq.1
          | (have hq2 := hq.2
             have HNZ := Lib.hid hq.1
             clear hq
             go_wp2_with fail
             go_step3
             refine ⟨rfl, ?_⟩
             clear f0 f1
             generalize wr.alloc (.cells #[.int .i64 (x.at_ : Int), .string (bs x.key), .slice Ap np cp] 74) = WR at *
             have f0 : WR.cell? ⟨w.heap.size + 1, 0, none⟩ = _ := HF1.out.cell 0
             have f1 : WR.cell? ⟨w.heap.size + 1, 1, none⟩ = _ := HF1.out.cell 1
             have r0 : WR.cell? ⟨w.heap.size, 0, none⟩ = _ := HR1.out.cell 0
             have r1 : WR.cell? ⟨w.heap.size, 1, none⟩ = _ := HR1.out.cell 1
             have g0 : WR.frozen? ⟨w.heap.size, 0, none⟩ = _ := HR1.out.frozen 0
             have g1 : WR.frozen? ⟨w.heap.size, 1, none⟩ = _ := HR1.out.frozen 1
             go_wp2_with fail
             go_region
             go_wp2_with fail
             refine jump_ret ?_
             have HWf := Lib.hid ((HR1.out.set_ 0 (.int .i64 c)).set_ 1 (.int .i64 bad))
             have HBf := Lib.hid (HBlw.out _ ((HS1.out.set_ (p := ⟨w.heap.size, 0, none⟩) HSR.out (.int .i64 c)).set_ (p := ⟨w.heap.size, 1, none⟩) HSR.out (.int .i64 bad)))
             have z0 := HWf.out.cell 0
             have z1 := HWf.out.cell 1
             refine bodyPost_ret (v := .tuple #[.pointer none, .agg #[.int .i64 c, .int .i64 bad]]) ?_ rfl ?_
             · rw [results_tmp_cell rfl]; go_simp
             · exact ⟨below_drew HBf.out, .inr ⟨by rw [HE.out]; exact HNZ.out, by rw [HE.out]⟩⟩
             )
        · first
          | (have hq2 : ¬ bad ≤ (x.at_ : Int) := fun h => hq ⟨by rw [HCq.out]; decide, h⟩)
          | skip
          have HG2 := Lib.hid HG1.out
          rw [parseGo, if_neg hq] at HG2
          have HJ := Lib.hid (join_call (wr.alloc (.cells #[.int .i64 (x.at_ : Int), .string (bs x.key), .slice Ap np cp] 74)) (.slice Ap np cp) gi x text.length HP1.out HBx.out hs)
          clear hq HG1
          obtain ⟨v, hv⟩ : ∃ v, joinB x.ps = v := ⟨_, rfl⟩
          rw [hv] at HJ HG2
          clear hv
          go_wp2_with fail
          refine HJ.out.mono ?_
          rintro e w2 ⟨hb2, rfl⟩
          have hsS : ∀ k, SafeS w W0.heap.size w1.heap.size k → k < (wr.alloc (.cells #[.int .i64 (x.at_ : Int), .string (bs x.key), .slice Ap np cp] 74)).heap.size := fun k hk => Nat.lt_of_lt_of_le (HSlt.out k hk) HS1.out.size
          have HS2 := Lib.hid (HS1.out.below hb2 hsS)
          have HT2 := Lib.hid (HT1.out.below hb2)
          have HF2 := Lib.hid (HF1.out.keep hb2)
          have HR2 := Lib.hid (HR1.out.keep hb2)
          have HN2 := Lib.hid (HN1.out.keep hb2)
          have y1 := HN2.out.cell 1
          have HPl := Lib.hid (place_walk w2 (w.heap.size + 1 + 1) T x.key HT2.out.st HSo.out.1 (by have := HSo.out.2.1; omega))
          have HSz2 : Hid (w1.heap.size ≤ w2.heap.size ∧ wr.heap.size < w2.heap.size) := Lib.hid ⟨by have := HSz.out; have := hb2.size; omega, by have := HSz.out; have := hb2.size; omega⟩
          clear hb2 hsS HJ HT1 HF1 HR1 HN1 HS1 HP1 x0 x1 x2 f0 f1 q0 q1 q2 HSz
          go_wp2_with fail
          refine HPl.out.mono ?_
          rintro e w3 ⟨hb3, rfl⟩
          have HS3 := Lib.hid (HS2.out.below hb3 fun k hk => Nat.lt_of_lt_of_le (HSlt.out k hk) HS2.out.size)
          have HT3 := Lib.hid (HT2.out.below hb3)
          have HF3 := Lib.hid (HF2.out.keep hb3)
          have HR3 := Lib.hid (HR2.out.keep hb3)
          have HN3 := Lib.hid (HN2.out.keep hb3)
          have y0 := HN3.out.cell 0
          have y1 := HN3.out.cell 1
          have k20 := HF3.out.cell 0
          have f20 := HF3.out.frozen 0
          have k21 := HF3.out.cell 1
          have f21 := HF3.out.frozen 1
          have HSz3 : Hid (w1.heap.size ≤ w3.heap.size ∧ wr.heap.size < w3.heap.size) := Lib.hid ⟨by have := HSz2.out; have := hb3.size; omega, by have := HSz2.out; have := hb3.size; omega⟩
          have hks := bs_size x.key
          have hvs := bs_size v
          clear hb3 HPl HT2 HF2 HR2 HN2 HS2 HSz2
          by_cases hA : 320 < x.key.length ∨ v = [] ∨ 1000 < v.length
          · have HE : Hid (R = (T, 61, (x.at_ : Int))) := Lib.hid (by rw [← HG2.out, if_pos hA])
            clear HG2
            by_cases a1 : 320 < x.key.length
            · have a1' : (320 : Int) < (x.key.length : Int) := by omega
              clear hA
              have W5 : Hid (Safe (SafeS w W0.heap.size w1.heap.size) w1 ((w3.setCell ⟨w.heap.size + 1, 0, none⟩ (.int .i64 61)).setCell ⟨w.heap.size + 1, 1, none⟩ (.int .i64 (x.at_ : Int)))) := Lib.hid ((HS3.out.set_ (p := ⟨w.heap.size + 1, 0, none⟩) HSF.out _).set_ (p := ⟨w.heap.size + 1, 1, none⟩) HSF.out _)
              have F5 : Hid (Blk ((w3.setCell ⟨w.heap.size + 1, 0, none⟩ (.int .i64 61)).setCell ⟨w.heap.size + 1, 1, none⟩ (.int .i64 (x.at_ : Int))) (w.heap.size + 1) 27 #[.int .i64 61, .int .i64 (x.at_ : Int)]) := Lib.hid ((HF3.out.set_ 0 _).set_ 1 _)
              have R5 : Hid (Blk ((w3.setCell ⟨w.heap.size + 1, 0, none⟩ (.int .i64 61)).setCell ⟨w.heap.size + 1, 1, none⟩ (.int .i64 (x.at_ : Int))) w.heap.size 27 #[.int .i64 0, .int .i64 0]) := Lib.hid ((HR3.out.far (by simp) _).far (by simp) _)
              have HNZ : Hid (¬ (61 : Int) = 0) := Lib.hid (by decide)
              go_wp2_with fail
              go_step3
              refine ⟨rfl, ?_⟩
              clear y0 y1 k20 f20 k21 f21
              generalize (w3.setCell ⟨w.heap.size + 1, 0, none⟩ (.int .i64 61)).setCell ⟨w.heap.size + 1, 1, none⟩ (.int .i64 (x.at_ : Int)) = WR at *
              have f0 : WR.cell? ⟨w.heap.size + 1, 0, none⟩ = _ := F5.out.cell 0
              have f1 : WR.cell? ⟨w.heap.size + 1, 1, none⟩ = _ := F5.out.cell 1
              have r0 : WR.cell? ⟨w.heap.size, 0, none⟩ = _ := R5.out.cell 0
              have r1 : WR.cell? ⟨w.heap.size, 1, none⟩ = _ := R5.out.cell 1
              have g0 : WR.frozen? ⟨w.heap.size, 0, none⟩ = _ := R5.out.frozen 0
              have g1 : WR.frozen? ⟨w.heap.size, 1, none⟩ = _ := R5.out.frozen 1
              go_wp2_with fail
              go_region
              go_wp2_with fail
              refine jump_ret ?_
              have HWf := Lib.hid ((R5.out.set_ 0 (.int .i64 61)).set_ 1 (.int .i64 (x.at_ : Int)))
              have HBf := Lib.hid (HBlw.out _ ((W5.out.set_ (p := ⟨w.heap.size, 0, none⟩) HSR.out (.int .i64 61)).set_ (p := ⟨w.heap.size, 1, none⟩) HSR.out (.int .i64 (x.at_ : Int))))
              have z0 := HWf.out.cell 0
              have z1 := HWf.out.cell 1
              refine bodyPost_ret (v := .tuple #[.pointer none, .agg #[.int .i64 61, .int .i64 (x.at_ : Int)]]) ?_ rfl ?_
              · rw [results_tmp_cell rfl]; go_simp
              · exact ⟨below_drew HBf.out, .inr ⟨by rw [HE.out]; exact HNZ.out, by rw [HE.out]⟩⟩
            · have a1' : ¬ (320 : Int) < (x.key.length : Int) := by omega
              by_cases a2 : v = []
              · subst a2
                have b1 : ((bs []).toList == []) = true := by rw [bs_nil]; rfl
                have b2 : (bs []).toList = [] := bs_nil []
                clear hA
                have W5 : Hid (Safe (SafeS w W0.heap.size w1.heap.size) w1 ((w3.setCell ⟨w.heap.size + 1, 0, none⟩ (.int .i64 61)).setCell ⟨w.heap.size + 1, 1, none⟩ (.int .i64 (x.at_ : Int)))) := Lib.hid ((HS3.out.set_ (p := ⟨w.heap.size + 1, 0, none⟩) HSF.out _).set_ (p := ⟨w.heap.size + 1, 1, none⟩) HSF.out _)
                have F5 : Hid (Blk ((w3.setCell ⟨w.heap.size + 1, 0, none⟩ (.int .i64 61)).setCell ⟨w.heap.size + 1, 1, none⟩ (.int .i64 (x.at_ : Int))) (w.heap.size + 1) 27 #[.int .i64 61, .int .i64 (x.at_ : Int)]) := Lib.hid ((HF3.out.set_ 0 _).set_ 1 _)
                have R5 : Hid (Blk ((w3.setCell ⟨w.heap.size + 1, 0, none⟩ (.int .i64 61)).setCell ⟨w.heap.size + 1, 1, none⟩ (.int .i64 (x.at_ : Int))) w.heap.size 27 #[.int .i64 0, .int .i64 0]) := Lib.hid ((HR3.out.far (by simp) _).far (by simp) _)
                have HNZ : Hid (¬ (61 : Int) = 0) := Lib.hid (by decide)
                go_wp2_with fail
                go_step3
                refine ⟨rfl, ?_⟩
                clear y0 y1 k20 f20 k21 f21
                generalize (w3.setCell ⟨w.heap.size + 1, 0, none⟩ (.int .i64 61)).setCell ⟨w.heap.size + 1, 1, none⟩ (.int .i64 (x.at_ : Int)) = WR at *
                have f0 : WR.cell? ⟨w.heap.size + 1, 0, none⟩ = _ := F5.out.cell 0
                have f1 : WR.cell? ⟨w.heap.size + 1, 1, none⟩ = _ := F5.out.cell 1
                have r0 : WR.cell? ⟨w.heap.size, 0, none⟩ = _ := R5.out.cell 0
                have r1 : WR.cell? ⟨w.heap.size, 1, none⟩ = _ := R5.out.cell 1
                have g0 : WR.frozen? ⟨w.heap.size, 0, none⟩ = _ := R5.out.frozen 0
                have g1 : WR.frozen? ⟨w.heap.size, 1, none⟩ = _ := R5.out.frozen 1
                go_wp2_with fail
                go_region
                go_wp2_with fail
                refine jump_ret ?_
                have HWf := Lib.hid ((R5.out.set_ 0 (.int .i64 61)).set_ 1 (.int .i64 (x.at_ : Int)))
                have HBf := Lib.hid (HBlw.out _ ((W5.out.set_ (p := ⟨w.heap.size, 0, none⟩) HSR.out (.int .i64 61)).set_ (p := ⟨w.heap.size, 1, none⟩) HSR.out (.int .i64 (x.at_ : Int))))
                have z0 := HWf.out.cell 0
                have z1 := HWf.out.cell 1
                refine bodyPost_ret (v := .tuple #[.pointer none, .agg #[.int .i64 61, .int .i64 (x.at_ : Int)]]) ?_ rfl ?_
                · rw [results_tmp_cell rfl]; go_simp
                · exact ⟨below_drew HBf.out, .inr ⟨by rw [HE.out]; exact HNZ.out, by rw [HE.out]⟩⟩
              · have b1 : ((bs v).toList == []) = false := by rw [bs_nil]; exact beq_eq_false_iff_ne.2 a2
                have b2 : ¬ (bs v).toList = [] := by rw [bs_nil]; exact a2
                have b3 : (bs v).toList.isEmpty = false := by rw [bs_nil]; cases v with | nil => exact absurd rfl a2 | cons _ _ => rfl
                have a3 : (1000 : Int) < (v.length : Int) := by have := (hA.resolve_left a1).resolve_left a2; omega
                clear hA a2
                have W5 : Hid (Safe (SafeS w W0.heap.size w1.heap.size) w1 ((w3.setCell ⟨w.heap.size + 1, 0, none⟩ (.int .i64 61)).setCell ⟨w.heap.size + 1, 1, none⟩ (.int .i64 (x.at_ : Int)))) := Lib.hid ((HS3.out.set_ (p := ⟨w.heap.size + 1, 0, none⟩) HSF.out _).set_ (p := ⟨w.heap.size + 1, 1, none⟩) HSF.out _)
                have F5 : Hid (Blk ((w3.setCell ⟨w.heap.size + 1, 0, none⟩ (.int .i64 61)).setCell ⟨w.heap.size + 1, 1, none⟩ (.int .i64 (x.at_ : Int))) (w.heap.size + 1) 27 #[.int .i64 61, .int .i64 (x.at_ : Int)]) := Lib.hid ((HF3.out.set_ 0 _).set_ 1 _)
                have R5 : Hid (Blk ((w3.setCell ⟨w.heap.size + 1, 0, none⟩ (.int .i64 61)).setCell ⟨w.heap.size + 1, 1, none⟩ (.int .i64 (x.at_ : Int))) w.heap.size 27 #[.int .i64 0, .int .i64 0]) := Lib.hid ((HR3.out.far (by simp) _).far (by simp) _)
                have HNZ : Hid (¬ (61 : Int) = 0) := Lib.hid (by decide)
                go_wp2_with fail
                go_step3
                refine ⟨rfl, ?_⟩
                clear y0 y1 k20 f20 k21 f21
                generalize (w3.setCell ⟨w.heap.size + 1, 0, none⟩ (.int .i64 61)).setCell ⟨w.heap.size + 1, 1, none⟩ (.int .i64 (x.at_ : Int)) = WR at *
                have f0 : WR.cell? ⟨w.heap.size + 1, 0, none⟩ = _ := F5.out.cell 0
                have f1 : WR.cell? ⟨w.heap.size + 1, 1, none⟩ = _ := F5.out.cell 1
                have r0 : WR.cell? ⟨w.heap.size, 0, none⟩ = _ := R5.out.cell 0
                have r1 : WR.cell? ⟨w.heap.size, 1, none⟩ = _ := R5.out.cell 1
                have g0 : WR.frozen? ⟨w.heap.size, 0, none⟩ = _ := R5.out.frozen 0
                have g1 : WR.frozen? ⟨w.heap.size, 1, none⟩ = _ := R5.out.frozen 1
                go_wp2_with fail
                go_region
                go_wp2_with fail
                refine jump_ret ?_
                have HWf := Lib.hid ((R5.out.set_ 0 (.int .i64 61)).set_ 1 (.int .i64 (x.at_ : Int)))
                have HBf := Lib.hid (HBlw.out _ ((W5.out.set_ (p := ⟨w.heap.size, 0, none⟩) HSR.out (.int .i64 61)).set_ (p := ⟨w.heap.size, 1, none⟩) HSR.out (.int .i64 (x.at_ : Int))))
                have z0 := HWf.out.cell 0
                have z1 := HWf.out.cell 1
                refine bodyPost_ret (v := .tuple #[.pointer none, .agg #[.int .i64 61, .int .i64 (x.at_ : Int)]]) ?_ rfl ?_
                · rw [results_tmp_cell rfl]; go_simp
                · exact ⟨below_drew HBf.out, .inr ⟨by rw [HE.out]; exact HNZ.out, by rw [HE.out]⟩⟩
          · have a1' : ¬ (320 : Int) < (x.key.length : Int) := by omega
            have a2 : ¬ v = [] := fun h => hA (.inr (.inl h))
            have a3 : ¬ (1000 : Int) < (v.length : Int) := by omega
            have b1 : ((bs v).toList == []) = false := by rw [bs_nil]; exact beq_eq_false_iff_ne.2 a2
            have b2 : ¬ (bs v).toList = [] := by rw [bs_nil]; exact a2
            have b3 : (bs v).toList.isEmpty = false := by rw [bs_nil]; cases v with | nil => exact absurd rfl a2 | cons _ _ => rfl
            rw [if_neg hA] at HG2
            clear hA a2
            by_cases hh : hasE T x.key = true
            · have HE : Hid (R = (T, 63, (x.at_ : Int))) := Lib.hid (by rw [← HG2.out, if_pos hh])
              clear HG2
              rw [hh]
              have W5 : Hid (Safe (SafeS w W0.heap.size w1.heap.size) w1 ((w3.setCell ⟨w.heap.size + 1, 0, none⟩ (.int .i64 63)).setCell ⟨w.heap.size + 1, 1, none⟩ (.int .i64 (x.at_ : Int)))) := Lib.hid ((HS3.out.set_ (p := ⟨w.heap.size + 1, 0, none⟩) HSF.out _).set_ (p := ⟨w.heap.size + 1, 1, none⟩) HSF.out _)
              have F5 : Hid (Blk ((w3.setCell ⟨w.heap.size + 1, 0, none⟩ (.int .i64 63)).setCell ⟨w.heap.size + 1, 1, none⟩ (.int .i64 (x.at_ : Int))) (w.heap.size + 1) 27 #[.int .i64 63, .int .i64 (x.at_ : Int)]) := Lib.hid ((HF3.out.set_ 0 _).set_ 1 _)
              have R5 : Hid (Blk ((w3.setCell ⟨w.heap.size + 1, 0, none⟩ (.int .i64 63)).setCell ⟨w.heap.size + 1, 1, none⟩ (.int .i64 (x.at_ : Int))) w.heap.size 27 #[.int .i64 0, .int .i64 0]) := Lib.hid ((HR3.out.far (by simp) _).far (by simp) _)
              have HNZ : Hid (¬ (63 : Int) = 0) := Lib.hid (by decide)
              go_wp2_with fail
              go_step3
              refine ⟨rfl, ?_⟩
              clear y0 y1 k20 f20 k21 f21
              generalize (w3.setCell ⟨w.heap.size + 1, 0, none⟩ (.int .i64 63)).setCell ⟨w.heap.size + 1, 1, none⟩ (.int .i64 (x.at_ : Int)) = WR at *
              have f0 : WR.cell? ⟨w.heap.size + 1, 0, none⟩ = _ := F5.out.cell 0
              have f1 : WR.cell? ⟨w.heap.size + 1, 1, none⟩ = _ := F5.out.cell 1
              have r0 : WR.cell? ⟨w.heap.size, 0, none⟩ = _ := R5.out.cell 0
              have r1 : WR.cell? ⟨w.heap.size, 1, none⟩ = _ := R5.out.cell 1
              have g0 : WR.frozen? ⟨w.heap.size, 0, none⟩ = _ := R5.out.frozen 0
              have g1 : WR.frozen? ⟨w.heap.size, 1, none⟩ = _ := R5.out.frozen 1
              go_wp2_with fail
              go_region
              go_wp2_with fail
              refine jump_ret ?_
              have HWf := Lib.hid ((R5.out.set_ 0 (.int .i64 63)).set_ 1 (.int .i64 (x.at_ : Int)))
              have HBf := Lib.hid (HBlw.out _ ((W5.out.set_ (p := ⟨w.heap.size, 0, none⟩) HSR.out (.int .i64 63)).set_ (p := ⟨w.heap.size, 1, none⟩) HSR.out (.int .i64 (x.at_ : Int))))
              have z0 := HWf.out.cell 0
              have z1 := HWf.out.cell 1
              refine bodyPost_ret (v := .tuple #[.pointer none, .agg #[.int .i64 63, .int .i64 (x.at_ : Int)]]) ?_ rfl ?_
              · rw [results_tmp_cell rfl]; go_simp
              · exact ⟨below_drew HBf.out, .inr ⟨by rw [HE.out]; exact HNZ.out, by rw [HE.out]⟩⟩
            · have hh' : hasE T x.key = false := by simpa using hh
              rw [if_neg hh] at HG2
              have HH := Lib.hid hh'
              rw [hh']
              clear hh hh'
              by_cases hm : T.length = 2000
              · have HE : Hid (R = (T, 62, (x.at_ : Int))) := Lib.hid (by rw [← HG2.out, if_pos hm])
                clear HG2
                obtain ⟨htb, At, ct, t0, ht1, ht2, -⟩ := HT3.out.st.cells
                have hmb : ((T.length : Int) == 2000) = true := beq_iff_eq.2 (by omega)
                have W5 : Hid (Safe (SafeS w W0.heap.size w1.heap.size) w1 ((w3.setCell ⟨w.heap.size + 1, 0, none⟩ (.int .i64 62)).setCell ⟨w.heap.size + 1, 1, none⟩ (.int .i64 (x.at_ : Int)))) := Lib.hid ((HS3.out.set_ (p := ⟨w.heap.size + 1, 0, none⟩) HSF.out _).set_ (p := ⟨w.heap.size + 1, 1, none⟩) HSF.out _)
                have F5 : Hid (Blk ((w3.setCell ⟨w.heap.size + 1, 0, none⟩ (.int .i64 62)).setCell ⟨w.heap.size + 1, 1, none⟩ (.int .i64 (x.at_ : Int))) (w.heap.size + 1) 27 #[.int .i64 62, .int .i64 (x.at_ : Int)]) := Lib.hid ((HF3.out.set_ 0 _).set_ 1 _)
                have R5 : Hid (Blk ((w3.setCell ⟨w.heap.size + 1, 0, none⟩ (.int .i64 62)).setCell ⟨w.heap.size + 1, 1, none⟩ (.int .i64 (x.at_ : Int))) w.heap.size 27 #[.int .i64 0, .int .i64 0]) := Lib.hid ((HR3.out.far (by simp) _).far (by simp) _)
                have HNZ : Hid (¬ (62 : Int) = 0) := Lib.hid (by decide)
                go_wp2_with fail
                go_step3
                refine ⟨rfl, ?_⟩
                clear t0 y0 y1 k20 f20 k21 f21
                generalize (w3.setCell ⟨w.heap.size + 1, 0, none⟩ (.int .i64 62)).setCell ⟨w.heap.size + 1, 1, none⟩ (.int .i64 (x.at_ : Int)) = WR at *
                have f0 : WR.cell? ⟨w.heap.size + 1, 0, none⟩ = _ := F5.out.cell 0
                have f1 : WR.cell? ⟨w.heap.size + 1, 1, none⟩ = _ := F5.out.cell 1
                have r0 : WR.cell? ⟨w.heap.size, 0, none⟩ = _ := R5.out.cell 0
                have r1 : WR.cell? ⟨w.heap.size, 1, none⟩ = _ := R5.out.cell 1
                have g0 : WR.frozen? ⟨w.heap.size, 0, none⟩ = _ := R5.out.frozen 0
                have g1 : WR.frozen? ⟨w.heap.size, 1, none⟩ = _ := R5.out.frozen 1
                go_wp2_with fail
                go_region
                go_wp2_with fail
                refine jump_ret ?_
                have HWf := Lib.hid ((R5.out.set_ 0 (.int .i64 62)).set_ 1 (.int .i64 (x.at_ : Int)))
                have HBf := Lib.hid (HBlw.out _ ((W5.out.set_ (p := ⟨w.heap.size, 0, none⟩) HSR.out (.int .i64 62)).set_ (p := ⟨w.heap.size, 1, none⟩) HSR.out (.int .i64 (x.at_ : Int))))
                have z0 := HWf.out.cell 0
                have z1 := HWf.out.cell 1
                refine bodyPost_ret (v := .tuple #[.pointer none, .agg #[.int .i64 62, .int .i64 (x.at_ : Int)]]) ?_ rfl ?_
                · rw [results_tmp_cell rfl]; go_simp
                · exact ⟨below_drew HBf.out, .inr ⟨by rw [HE.out]; exact HNZ.out, by rw [HE.out]⟩⟩
              · rw [if_neg hm] at HG2
                obtain ⟨vt, gt, hBt, hXt, hgS, htS⟩ := HT3.out
                obtain ⟨At, nt, ct, rfl, -⟩ := hXt.sl
                obtain ⟨en, hct, hcmt, -⟩ := hXt.re
                subst en
                unfold maxLen at hcmt
                have t0 := hBt.cell 0
                have hmb : ((T.length : Int) == 2000) = false := beq_eq_false_iff_ne.2 (by omega)
                have hbA := (Below.refl w3.heap.size w3).alloc (Nat.le_refl _) (.cells #[.string (bs x.key), .string (bs v)] 78)
                have hbD := below_drew hbA
                have t0a := (hBt.keep hbA).cell 0
                have y1a := (HN3.out.keep hbA).cell 1
                have hBD := (Blk.new w3 78 #[.string (bs x.key), .string (bs v)]).drew
                have hXD := hXt.below hbD fun k hk => hXt.lt hk
                have HI := Lib.hid (ins_walk (w3.alloc (.cells #[.string (bs x.key), .string (bs v)] 78)).drew (.slice At T.length ct) (posE T x.key) gt T ⟨x.key, v⟩ w3.heap.size hXD hBD (fun e => by have := hXt.lt e; omega) (by have := HSo.out.2.2; omega) (posE_le _ _))
                have HTB : Hid (∀ w4 : World, (w3.alloc (.cells #[.string (bs x.key), .string (bs v)] 78)).drew.grownBy w4 gt → Blk w4 (w.heap.size + 1 + 1) 70 #[.slice At T.length ct] ∧ Blk w4 (w.heap.size + 1) 27 #[.int .i64 c, .int .i64 bad] ∧ Blk w4 w.heap.size 27 #[.int .i64 0, .int .i64 0] ∧ Safe (SafeS w W0.heap.size w1.heap.size) w1 w4 ∧ w3.heap.size < w4.heap.size) := Lib.hid fun w4 hg => by
                  have hne : ∀ k, k < w1.heap.size → some k ≠ gt := fun k hk e => by have := hgS k e.symm; omega
                  refine ⟨(hBt.keep hbD).grown hg (hne _ htS), (HF3.out.keep hbD).grown hg (hne _ h2b), (HR3.out.keep hbD).grown hg (hne _ h1b), ?_, ?_⟩
                  · exact (HS3.out.below hbD fun k hk => Nat.lt_of_lt_of_le (HSlt.out k hk) HS3.out.size).grown hg fun k hk => ⟨by have := HSlt.out k hk; have := HS3.out.size; have := hbD.size; omega, fun e => hne k (HSlt.out k hk) e.symm⟩
                  · have := hg.size
                    simp at this
                    omega
                have HGS := Lib.hid hgS
                clear hBt hXt hgS hbA hbD hBD hXD k20 f20 k21 f21
                go_wp2_with fail
                go_region_law (first
                  | (refine step_calls rfl #[.tmp 58, .tmp 59, .tmp 64] #[68, 3, 68] (by rfl) Tryd.func28 (by kernel_rfl) (by kernel_rfl) #[.slice At T.length ct, .int .i64 ((posE T x.key : Nat) : Int), .slice (some ⟨w3.heap.size, 0, none⟩) 1 1] (by simp [Act.eval, Act.put]) HI.out ?_; rintro e1 w4 ⟨v4, g4, rfl, hX4, hG4, ho4⟩; refine ⟨_, rfl, ?_⟩; obtain ⟨A4, n4, c4, rfl, -⟩ := hX4.sl; have HX4 := Lib.hid hX4; have HO4 := Lib.hid ho4; have HB4 := Lib.hid (HTB.out w4 hG4); have t4 := HB4.out.1.cell 0; have f4 := HB4.out.1.frozen 0; clear hX4 hG4 ho4))
                all_goals
                  go_wp2_with fail
                  go_roundg (gk - 1)
                  case rel =>
                    obtain ⟨i1, i2, i3, i4, i5⟩ := HB4.out
                    have hg4 : ∀ k, g4 = some k → w1.heap.size ≤ k := fun k hk => by
                      rcases HO4.out with h | ⟨k', h, hk'⟩
                      · exact HGS.out k (by rw [← h]; exact hk)
                      · rw [h] at hk
                        injection hk with hk
                        have : w3.heap.size + 1 ≤ k' := by simpa using hk'
                        have := HSz3.out.1
                        omega
                    have hset : ∀ k, g4 = some k → k ≠ w.heap.size + 1 + 1 := fun k hk => by have := hg4 k hk; omega
                    refine ⟨j + 1, putE T ⟨x.key, v⟩, by go_num, by omega, Lib.hid (i4.set_ (p := ⟨w.heap.size + 1 + 1, 0, none⟩) HSTt.out _), Lib.hid ⟨_, g4, i1.set_ 0 _, ?_, hg4, htS⟩, Lib.hid (i2.far (by simp) _), Lib.hid (i3.far (by show w.heap.size ≠ w.heap.size + 1 + 1; omega) _), Lib.hid ⟨putE_sort HSo.out.1 HH.out, by rw [putE_len]; have := HSo.out.2.1; omega, by rw [putE_len]; have := HSo.out.2.2; omega⟩, HG2⟩
                    exact OwnX.same (w := w4) HX4.out (by simp) fun k hk => Below.heap_setCell w4 _ _ k (hset k hk)
                  case measure => omega
      · have hj1 : ¬ (j : Int) < (L.length : Int) := by omega
        have HE : Hid (R = (T, c, bad)) := Lib.hid (by rw [← HG.out, List.drop_of_length_le (by omega)]; rfl)
        have f0 := HF.out.cell 0
        have f1 := HF.out.cell 1
        have r0 := HRb.out.cell 0
        have r1 := HRb.out.cell 1
        have g0 := HRb.out.frozen 0
        have g1 := HRb.out.frozen 1
        clear HG
        go_wp2_with fail
        first
        | (refine jump_ret ?_
           have HWf := Lib.hid ((HRb.out.set_ 0 (.int .i64 0)).set_ 1 (.int .i64 0))
           have HBf := Lib.hid (HBlw.out _ ((HS.out.set_ (p := ⟨w.heap.size, 0, none⟩) HSR.out (.int .i64 0)).set_ (p := ⟨w.heap.size, 1, none⟩) HSR.out (.int .i64 0)))
           have HTf := Lib.hid ((HTb.out.far (p := ⟨w.heap.size, 0, none⟩) h1b (by show w.heap.size ≠ w.heap.size + 1 + 1; omega) (.int .i64 0)).far (p := ⟨w.heap.size, 1, none⟩) h1b (by show w.heap.size ≠ w.heap.size + 1 + 1; omega) (.int .i64 0))
           have z0 := HWf.out.cell 0
           have z1 := HWf.out.cell 1
           refine bodyPost_ret (v := .tuple #[.pointer (some ⟨w.heap.size + 1 + 1, 0, none⟩), .agg #[.int .i64 0, .int .i64 0]]) ?_ rfl ?_
           · rw [results_tmp_cell rfl]; go_simp
           · exact ⟨HBf.out, .inl ⟨by rw [HE.out]; exact HCq.out, _, _, rfl, by rw [HE.out]; exact HTf.out, by rw [HE.out]; exact HSo.out.1, by rw [HE.out]; exact HSo.out.2.2, by show w.heap.size ≤ w.heap.size + 1 + 1; omega⟩⟩)
        | (have HNZ : Hid (¬ c = 0) := Lib.hid (by rw [HCq.out]; decide)
           clear f0 f1 r0 r1 g0 g1
           go_step3
           generalize wr = WR at *
           have f0 : WR.cell? ⟨w.heap.size + 1, 0, none⟩ = _ := HF.out.cell 0
           have f1 : WR.cell? ⟨w.heap.size + 1, 1, none⟩ = _ := HF.out.cell 1
           have r0 : WR.cell? ⟨w.heap.size, 0, none⟩ = _ := HRb.out.cell 0
           have r1 : WR.cell? ⟨w.heap.size, 1, none⟩ = _ := HRb.out.cell 1
           have g0 : WR.frozen? ⟨w.heap.size, 0, none⟩ = _ := HRb.out.frozen 0
           have g1 : WR.frozen? ⟨w.heap.size, 1, none⟩ = _ := HRb.out.frozen 1
           go_wp2_with fail
           go_region
           go_wp2_with fail
           refine jump_ret ?_
           have HWf := Lib.hid ((HRb.out.set_ 0 (.int .i64 c)).set_ 1 (.int .i64 bad))
           have HBf := Lib.hid (HBlw.out _ ((HS.out.set_ (p := ⟨w.heap.size, 0, none⟩) HSR.out (.int .i64 c)).set_ (p := ⟨w.heap.size, 1, none⟩) HSR.out (.int .i64 bad)))
           have z0 := HWf.out.cell 0
           have z1 := HWf.out.cell 1
           refine bodyPost_ret (v := .tuple #[.pointer none, .agg #[.int .i64 c, .int .i64 bad]]) ?_ rfl ?_
           · rw [results_tmp_cell rfl]; go_simp
           · exact ⟨below_drew HBf.out, .inr ⟨by rw [HE.out]; exact HNZ.out, by rw [HE.out]⟩⟩
           )
theorem parse_walk (text : List UInt8) (w : World) (hs : text.length ≤ 262144) (hT : TabsT w.heap.size w) : Calls Tryd.prog 8 #[.string (bs text)] w (PPost w (parseP text)) :=
  (parse_walkN text w hs hT).mono fun e w' h => h.weak
end Go.Proofs.YtlknclkkhincfaaDoor
