/-
  Several texts in one: Repl, Conc. Conditions: each part names its own.
-/
import Derived.Test.YtjnjnccfojfghaaGreatDoorMg22
import Derived.Test.YtjnjnccfojfghaaGreatDoorMg23
import Derived.Lib.SlBuf
import Derived.Shelf.Spec.SlicesInsert
import Derived.Test.YtjnjnccfojfghaaGreatDoorMg4
import Derived.Lib.AppendZerosOnto
import Derived.Lib.SliceRun
set_option linter.unusedSimpArgs false
/-! The walk of bytes.Replace at a content's dots. Conditions: the library's tables, the size. -/
namespace Go.Proofs.YtjnjnccfojfghaaGreatDoor
open Go.RowKit
set_option linter.unusedVariables false
def ddots : List UInt8 := [13, 10, 46, 46]
theorem repl_eq (s : List UInt8) : repl s = replS dots ddots (Lib.count s dots) s := rfl
/-- one round of it -/
theorem replS_step {s : List UInt8} {k : Nat} (h : Lib.count s dots = k + 1) : ∃ j : Nat, Lib.index s dots = (j : Int) ∧ j + 3 ≤ s.length ∧ Lib.count (s.drop (j + 3)) dots = k ∧ replS dots ddots (k + 1) s = s.take j ++ ddots ++ replS dots ddots k (s.drop (j + 3)) := by
  have hm : ¬ Lib.index s dots = -1 := fun e => by rw [Lib.count_miss e] at h; omega
  have hge := Lib.index_ge s dots
  obtain ⟨j, hj⟩ : ∃ j : Nat, Lib.index s dots = j := ⟨(Lib.index s dots).toNat, by omega⟩
  have hr := Lib.index_room s dots (by omega)
  have hc := Lib.count_hit (sub := dots) (by simp [dots]) hj
  have hd3 : dots.length = 3 := rfl
  rw [hd3] at hc hr
  refine ⟨j, hj, by omega, by omega, ?_⟩
  rw [replS, if_neg hm, hj]
  rfl
theorem replS_len : ∀ (k : Nat) (s : List UInt8), Lib.count s dots = k → (replS dots ddots k s).length = s.length + k
  | 0, s, _ => rfl
  | k + 1, s, h => by
    obtain ⟨j, _, h1, h2, h3⟩ := replS_step h
    rw [h3, List.length_append, List.length_append, replS_len k _ h2, List.length_take, List.length_drop]
    show min j s.length + 4 + _ = _
    omega
theorem count_le (k : Nat) : ∀ (s : List UInt8), Lib.count s dots = k → 3 * k ≤ s.length := by
  induction k with
  | zero => intro s _; omega
  | succ k ih =>
    intro s h
    obtain ⟨j, _, h1, h2, h3⟩ := replS_step h
    have := ih _ h2
    rw [List.length_drop] at this
    omega
/-- bytes.Count at the dots -/
theorem count_walk (w : World) (hT : TabsL w.heap.size w) {B B2 b2 o2 : Nat} {A : Option Addr} {l : List UInt8} (h : RB w B A l) (h2 : RB w B2 (some ⟨b2, o2, none⟩) dots) (n c c2 : Nat) (hn : n = l.length) (hc : n ≤ c) (hA : A = none → c = 0) (hl : n < 4294967281) :
    Calls Tryz.prog 124 #[.slice A n c, .slice (some ⟨b2, o2, none⟩) 3 c2] w fun e w' => (∃ q, w' = w.drewN q) ∧ e = .returned (.int .i64 (Lib.count l dots)) := by
  subst hn
  obtain ⟨m, hm⟩ := (hT w (Below.refl _ _)).2
  cases A with
  | none =>
    obtain rfl : c = 0 := hA rfl
    have h0 : l = [] := List.eq_nil_of_length_eq_zero (by omega)
    subst h0
    refine (Tryz.bytes_Count_nil (some ⟨b2, o2, none⟩) 3 c2 w (by decide) (by decide)).mono ?_
    rintro e w' ⟨rfl, rfl⟩
    exact ⟨⟨0, rfl⟩, rfl⟩
  | some a =>
    refine (Tryz.bytes_Count_at a ⟨b2, o2, none⟩ l.length c 3 c2 (nums l) (nums dots) m w (nums_len l) rfl (nums_rng l) (nums_rng _) (fun i hi => ?_) (fun i hi => ?_) hc hl (by decide) (by decide) hm).mono ?_
    · obtain ⟨b, off, e, _, hc⟩ := h.at_ hi
      injection e with e
      subst e
      rw [Addr.add_lit, hc i hi, nums_getD l hi]
    · obtain ⟨b, off, e, _, hc⟩ := h2.at_ (j := i) hi
      injection e with e
      injection e with e1 e2
      subst e1 e2
      rw [Addr.add_lit, hc i hi, nums_getD dots hi]
    · rintro e w' ⟨rfl, hw⟩
      exact ⟨hw, by rw [bytesOf_nums, bytesOf_nums]⟩
/-- bytes.Index at the dots -/
theorem index_walk (w : World) (hT : TabsL w.heap.size w) {B B2 b off b2 o2 : Nat} {l : List UInt8} (h : RB w B (some ⟨b, off, none⟩) l) (h2 : RB w B2 (some ⟨b2, o2, none⟩) dots) (n c c2 : Nat) (hn : n = l.length) (hc : n ≤ c) (hl : n < 4294967281) (i : Int) (hi : Lib.index l dots = i) :
    Calls Tryz.prog 122 #[.slice (some ⟨b, off, none⟩) n c, .slice (some ⟨b2, o2, none⟩) 3 c2] w fun e w' => (∃ q, w' = w.drewN q) ∧ e = .returned (.int .i64 i) := by
  subst hn hi
  obtain ⟨m, hm⟩ := (hT w (Below.refl _ _)).2
  refine (Tryz.bytes_Index_at ⟨b, off, none⟩ ⟨b2, o2, none⟩ l.length c 3 c2 (nums l) (nums dots) m w (nums_len l) rfl (nums_rng l) (nums_rng _) (fun i hi => ?_) (fun i hi => ?_) hc hl (by decide) hm).mono ?_
  · obtain ⟨b', off', e, _, hc⟩ := h.at_ hi
    injection e with e
    injection e with e1 e2
    subst e1 e2
    rw [Addr.add_lit, hc i hi, nums_getD l hi]
  · obtain ⟨b, off, e, _, hc⟩ := h2.at_ (j := i) hi
    injection e with e
    injection e with e1 e2
    subst e1 e2
    rw [Addr.add_lit, hc i hi, nums_getD dots hi]
  · rintro e w' ⟨rfl, hw⟩
    exact ⟨hw, by rw [bytesOf_nums, bytesOf_nums]⟩
/-- what Replace answers -/
def RepPost (w : World) (l : List UInt8) (e : Ending) (w' : World) : Prop :=
  Below w.heap.size w w' ∧ ∃ A2 n2 c2, e = .returned (.slice A2 n2 c2) ∧ OwnV w' w.heap.size (.slice A2 n2 c2) (repl l)
theorem holds_rb {w : World} {A : Option Addr} {l : List UInt8} (h : RB w w.heap.size A l) (n c : Nat) (hn : n = l.length) : Lib.HoldsBytes w (.slice A n c) l := by
  subst hn
  rcases h with rfl | ⟨b, off, rfl, _, hc⟩
  · exact ⟨A, c, rfl, fun _ => rfl, fun a _ j x hx => by simp at hx⟩
  · refine ⟨_, c, rfl, (fun e => by cases e), ?_⟩
    intro a e j x hx
    injection e with e
    subst e
    obtain ⟨hj, rfl⟩ := List.getElem?_eq_some_iff.1 hx
    rw [Addr.add_lit, hc j hj, bt_getElem hj]
theorem slice_mid (b off n c st j : Nat) (h : st + j ≤ c) (hne : c ≠ st) (W : World) : (Instr.slice 25 (.slice (some ⟨b, off, none⟩) n c) (some (.int .i64 (st : Int))) (some (.int .i64 ((st : Int) + (j : Int)))) none).run Tryz.prog W = .ok (.slice (some ⟨b, off + st, none⟩) j (c - st)) W := by
  have ht' : Tryz.prog.underlying 25 = some (.slice (Tryz.prog.elem 25)) := by simp [Program.elem, Tryz.underlying25]
  have he : Tryz.prog.elem 25 = 5 := by simp [Program.elem, Tryz.underlying25]
  rw [run_slice_lh W 25 _ _ _ ht' .i64 .i64 _ _ (by omega) (by omega) (by omega), he, Tryz.sizeOf5]
  have e1 : ((st : Int) + (j : Int)).toNat = st + j := by omega
  simp only [Result.andThen, sliced, Int.toNat_natCast, e1]
  by_cases h0 : st = 0
  · subst h0; simp [Addr.add, hne]
  · simp [Addr.add, hne, h0]
theorem slice_from (b off n c st : Nat) (h : st ≤ n) (W : World) : (Instr.slice 25 (.slice (some ⟨b, off, none⟩) n c) (some (.int .i64 (st : Int))) none none).run Tryz.prog W = .ok (.slice (some ⟨b, if c = st then off else off + st, none⟩) (n - st) (c - st)) W := by
  have ht' : Tryz.prog.underlying 25 = some (.slice (Tryz.prog.elem 25)) := by simp [Program.elem, Tryz.underlying25]
  have he : Tryz.prog.elem 25 = 5 := by simp [Program.elem, Tryz.underlying25]
  rw [run_slice_l W 25 _ _ _ ht' .i64 _ (by omega) (by omega), he, Tryz.sizeOf5]
  simp only [Result.andThen, sliced, Int.toNat_natCast]
  by_cases h0 : c = st
  · simp [h0]
  · by_cases h1 : st = 0
    · subst h1; simp [Addr.add, h0]
    · simp [Addr.add, h0, h1]
theorem buf_own {w w' : World} {T : Nat} {F : List UInt8} (b : Lib.Buf w w' w.heap.size T F) (hT : F.length = T) (hm : T ≤ maxLen) : OwnV w' w.heap.size (.slice (some ⟨w.heap.size, 0, none⟩) T T) F := by
  subst hT
  refine ⟨_, _, rfl, Nat.le_refl _, hm, ?_⟩
  by_cases h0 : F = []
  · exact .inl h0
  · have hp : 0 < F.length := List.length_pos_iff.2 h0
    have h1 := b.holds 0 F[0] (List.getElem?_eq_getElem hp)
    refine .inr ⟨w.heap.size, 0, rfl, Nat.le_refl _, World.block_lt_of_cell? _ _ h1, fun i hi => ?_⟩
    rw [Nat.zero_add, b.holds i F[i] (List.getElem?_eq_getElem hi), bt_getElem hi]
    exact ⟨rfl, b.free i hi⟩
theorem buf_drewN {w0 wr : World} {h N : Nat} {acc : List UInt8} (b : Lib.Buf w0 wr h N acc) (q : Nat) : Lib.Buf w0 (wr.drewN q) h N acc := ⟨bdrewN b.below q, b.there, b.free, b.holds, b.fits⟩
theorem buf_drew {w0 wr : World} {h N : Nat} {acc : List UInt8} (b : Lib.Buf w0 wr h N acc) : Lib.Buf w0 wr.drew h N acc := ⟨⟨b.below.os, b.below.tape, b.below.output, b.below.size, b.below.block⟩, b.there, b.free, b.holds, b.fits⟩
set_option maxRecDepth 100000 in
set_option maxHeartbeats 4000000 in
theorem repB_walk (w : World) (hT : TabsL w.heap.size w) {b2 o2 b3 o3 : Nat} {A : Option Addr} {l : List UInt8} (h : RB w w.heap.size A l) (h2 : RB w w.heap.size (some ⟨b2, o2, none⟩) dots) (h3 : RB w w.heap.size (some ⟨b3, o3, none⟩) ddots) (n c c2 c3 : Nat) (hn : n = l.length) (hc : n ≤ c) (hA : A = none → c = 0) (hm : c ≤ 9223372036854775807) (hl : n < 4294967281) (hc2 : 3 ≤ c2) :
    Calls Tryz.prog 90 #[.slice A n c, .slice (some ⟨b2, o2, none⟩) 3 c2, .slice (some ⟨b3, o3, none⟩) 4 c3, .int .i64 (-1)] w (RepPost w l) := by
  have K1 := Lib.hid (count_walk w hT h h2 n c c2 hn hc hA hl)
  obtain ⟨m, hcm⟩ : ∃ m, Lib.count l dots = m := ⟨_, rfl⟩
  rw [hcm] at K1
  obtain ⟨F, hF⟩ : ∃ F, repl l = F := ⟨_, rfl⟩
  have hF2 : replS dots ddots m l = F := by rw [← hF, repl_eq, hcm]
  have H0 := Lib.hid hF2
  have HCM := Lib.hid hcm
  have hlen := replS_len m l hcm
  have hcle := count_le m l hcm
  rw [hF2] at hlen
  have HR := Lib.hid h
  have HR2 := Lib.hid h2
  have HR3 := Lib.hid h3
  have HN := Lib.hid hn
  have HT := Lib.hid hT
  have HP : Hid (∀ e w', Below w.heap.size w w' → (∃ A2 n2 c2, e = .returned (.slice A2 n2 c2) ∧ OwnV w' w.heap.size (.slice A2 n2 c2) F) → RepPost w l e w') := Lib.hid fun e w' hb h => by unfold RepPost; rw [hF]; exact ⟨hb, h⟩
  have hFl : F.length = n + m := by rw [hlen, hn]
  have hml : 3 * m ≤ n := by rw [hn]; exact hcle
  clear h h2 h3 hT hF hF2 hcm hlen hcle hn
  by_cases hm0 : m = 0
  · subst hm0
    have hFe : F = l := H0.out.symm
    subst hFe
    clear hFl hml H0 HCM HT HR2 HR3
    go_enter Tryz.func90, Tryz.ntmps90
    go_wp2_with fail
    refine K1.out.mono ?_
    rintro e1 w1 ⟨⟨q, rfl⟩, rfl⟩
    have RD : Hid (RB (w.drewN q) w.heap.size A F) := Lib.hid (HR.out.drewN q)
    have HBD : Hid (Below w.heap.size w (w.drewN q)) := Lib.hid (bdrewN (Below.refl _ _) q)
    go_wp2_with (at_builtin; go_loud (refine wpList_appQ _ u8S (.const (.slice none 0 0)) (.tmp 24) rfl rfl w.heap.size rfl (OwnQ.nil _ _ none) _ _ rfl HN.out RD.out (by have := HN.out; simp; omega) (Nat.le_refl _) ?_); intro v2 own2 w2 hO2 hg2 ho2; obtain ⟨A2, cc2, rfl, -⟩ := hO2.out; have HO2 := Lib.hid hO2; have HG2 := Lib.hid hg2; clear hO2 hg2 ho2)
    go_ret
    exact HP.out _ _ (HBD.out.trans ⟨HG2.out.os, HG2.out.tape, HG2.out.output, HG2.out.size, fun k hk => HG2.out.block k (Nat.lt_of_lt_of_le hk HBD.out.size) (by simp)⟩) ⟨A2, _, cc2, rfl, OwnV.of_q HO2.out⟩
  · have hmi : ((m : Int) == 0) = false := beq_eq_false_iff_ne.2 (by omega)
    obtain ⟨b, off, rfl, -, -⟩ := HR.out.at_ (j := 0) (by rw [← HN.out]; omega)
    go_enter Tryz.func90, Tryz.ntmps90
    go_wp2_with fail
    refine K1.out.mono ?_
    rintro e1 w1 ⟨⟨q, rfl⟩, rfl⟩
    have e1 : IntKind.i64.wrap ((n : Int) + (m : Int)) = ((n + m : Nat) : Int) := by rw [IntWalk.i64_in _ (by omega)]; omega
    have e2 : IntKind.i64.wrap (m : Int) = (m : Int) := IntWalk.i64_in _ (by omega)
    obtain ⟨T, hT⟩ : ∃ T, n + m = T := ⟨_, rfl⟩
    rw [hT] at e1
    have hFT : F.length = T := by omega
    have hmk := run_make_row' (P := Tryz.prog) 25 5 (.int .u8 0) 1 Tryz.underlying25 (by kernel_rfl) rfl .i64 .i64 T (by omega) (by omega)
    have B0 : Lib.Buf w ((w.drewN q).alloc (.cells (madeCells #[.int .u8 0] T) 5)) w.heap.size T [] := by
      have := Lib.Buf.start (w.drewN q) (madeCells #[.int .u8 0] T) 5 T 0 (by simp [madeCells])
      exact ⟨(bdrewN (Below.refl w.heap.size w) q).trans this.below, this.there, this.free, this.holds, this.fits⟩
    have HB0 := Lib.hid B0
    have hTb : T < 9000000000 := by omega
    have HTm := Lib.hid hT
    clear B0 hT
    go_wp2_with fail
    clear hmk K1 e1 e2 hmi
    have HSL : Hid (∀ (bp : Nat), bp ≤ T → ∀ W, (Instr.slice 25 (.slice (some ⟨w.heap.size, 0, none⟩) T T) (some (.int .i64 (bp : Int))) none none).run Tryz.prog W = .ok (Lib.tailV w.heap.size T bp) W) := Lib.hid fun bp hbp W => Lib.run_slice_tailV (P := Tryz.prog) W 25 5 Tryz.underlying25 Tryz.sizeOf5 w.heap.size T bp hbp
    have hsz5 : (Tryz.prog.info? 5).map (·.size) = some 1 := by kernel_rfl
    have HS5 := Lib.hid hsz5
    clear hsz5
    go_loopg [11, 12, 49] m (fun k s11 s12 s49 wr => ∃ (st i : Nat) (acc : List UInt8), i + k = m ∧ s49 = .int .i64 i ∧ s12 = .int .i64 st ∧ s11 = .int .i64 acc.length ∧ Hid (Lib.Buf w wr w.heap.size T acc) ∧ st ≤ n ∧ Hid (Lib.count (l.drop st) dots = k) ∧ Hid (acc ++ replS dots ddots k (l.drop st) = F))
    case atStart => exact ⟨0, 0, [], by omega, rfl, rfl, rfl, HB0, Nat.zero_le _, by rw [List.drop_zero]; exact HCM, by rw [List.drop_zero, List.nil_append]; exact H0⟩
    case round =>
      obtain ⟨st, i, acc, hi, rfl, rfl, rfl, HB, hst, HC, H⟩ := hrel
      clear H0 HB0 HCM
      by_cases hk : gk = 0
      · subst hk
        have him : ¬ (i : Int) < (m : Int) := by omega
        have hFe : acc ++ l.drop st = F := H.out
        have hsn : (st : Int) ≤ (n : Int) := by omega
        have hln : acc.length + (n - st) = T := by
          have h9 := congrArg List.length hFe
          rw [List.length_append, List.length_drop, ← HN.out] at h9
          omega
        have RD : Hid (RB w w.heap.size (some ⟨b, if c = st then off else off + st, none⟩) (l.drop st)) := Lib.hid (by
          by_cases hcs : c = st
          · exact .inl (List.drop_eq_nil_of_le (by rw [← HN.out]; omega))
          · rw [if_neg hcs]; exact HR.out.drop st)
        have HV := Lib.hid (holds_rb RD.out (n - st) (c - st) (by rw [List.length_drop, HN.out]))
        have hdl : (l.drop st).length = n - st := by rw [List.length_drop, HN.out]
        obtain ⟨w5, hr5, B5⟩ := Lib.copy_part (P := Tryz.prog) w wr.drew w.heap.size T acc (l.drop st) (.slice (some ⟨b, if c = st then off else off + st, none⟩) (n - st) (c - st)) 25 3 5 Tryz.underlying25 HS5.out (Nat.le_refl _) (buf_drew HB.out) HV.out (by omega)
        rw [hdl] at hr5
        rw [hFe] at B5
        have HB5 := Lib.hid B5
        have hsl1 := HSL.out acc.length (by omega)
        have hsl2 := slice_from b off n c st hst
        have ew1 : IntKind.i64.wrap ((acc.length : Int) + ((n - st : Nat) : Int)) = (T : Int) := by rw [IntWalk.i64_in _ (by omega)]; omega
        clear B5 hFe hdl HC H HB HV RD
        generalize hoff : (if c = st then off else off + st) = offs at *
        clear hoff
        go_upto_region 28 with fail
        go_region_law (refine step_copy_runI rfl _ _ 25 25 rfl _ _ (by simp [Act.eval, Act.put]) (by simp [Act.eval, Act.put]) hr5 ?_)
        go_wp2
        go_ret
        exact HP.out _ _ HB5.out.below ⟨_, _, _, rfl, buf_own HB5.out hFT (by unfold maxLen; omega)⟩
      · have him : (i : Int) < (m : Int) := by omega
        have e1 : IntKind.i64.wrap ((i : Int) + 1) = (i : Int) + 1 := IntWalk.i64_in _ (by omega)
        obtain ⟨k, rfl⟩ : ∃ k, gk = k + 1 := ⟨gk - 1, by omega⟩
        obtain ⟨j, hj1, hj2, hj3, hj4⟩ := replS_step HC.out
        rw [List.length_drop, ← HN.out] at hj2
        rw [List.drop_drop] at hj3 hj4
        have RD : Hid (RB w w.heap.size (some ⟨b, off + st, none⟩) (l.drop st)) := Lib.hid (HR.out.drop st)
        have KI := Lib.hid (index_walk wr (fun w' hb' => HT.out w' (HB.out.below.trans (hb'.mono HB.out.below.size))) (RD.out.below HB.out.below) (HR2.out.below HB.out.below) (n - st) (c - st) c2 (by rw [List.length_drop, HN.out]) (by omega) (by omega) (j : Int) hj1)
        have hcs : c ≠ st := by omega
        have hsn : (st : Int) ≤ (n : Int) := by omega
        have ej : IntKind.i64.wrap ((st : Int) + (j : Int)) = ((st + j : Nat) : Int) := by rw [IntWalk.i64_in _ (by omega)]; omega
        go_wp2_with fail
        refine KI.out.mono ?_
        rintro e3 w3 ⟨⟨q3, rfl⟩, rfl⟩
        have HBd := Lib.hid (buf_drew (buf_drewN HB.out q3))
        generalize wr.drewN q3 = wd at *
        obtain ⟨xj, hxj⟩ : ∃ xj, (l.drop st).take j = xj := ⟨_, rfl⟩
        have hxl : xj.length = j := by rw [← hxj, List.length_take, List.length_drop, ← HN.out]; omega
        have HV := Lib.hid (holds_rb (hxj ▸ RD.out.take j) j (c - st) hxl.symm)
        have hlen4 : acc.length + j + 4 ≤ T := by
          have h9 := congrArg List.length H.out
          rw [hj4, ← hxj.symm, List.length_append, List.length_append, List.length_append] at h9
          have h10 : ddots.length = 4 := rfl
          have h11 := congrArg List.length hxj
          omega
        obtain ⟨w5, hr5, B5⟩ := Lib.copy_part (P := Tryz.prog) w wd.drew w.heap.size T acc xj (.slice (some ⟨b, off + st, none⟩) j (c - st)) 25 3 5 Tryz.underlying25 HS5.out (Nat.le_refl _) HBd.out HV.out (by omega)
        obtain ⟨w6, hr6, B6⟩ := Lib.copy_part (P := Tryz.prog) w w5 w.heap.size T (acc ++ xj) ddots (.slice (some ⟨b3, o3, none⟩) 4 c3) 25 3 5 Tryz.underlying25 HS5.out (Nat.le_refl _) B5 (holds_rb HR3.out 4 c3 rfl) (by rw [List.length_append, hxl]; show _ + 4 ≤ T; omega)
        rw [hxl] at hr5
        rw [List.length_append, hxl] at hr6
        have hd4 : ddots.length = 4 := rfl
        rw [hd4] at hr6
        have HB6 := Lib.hid B6
        have HX : Hid ((acc ++ xj ++ ddots) ++ replS dots ddots k (l.drop (st + (j + 3))) = F) := Lib.hid (by rw [← H.out, hj4, hxj]; simp)
        have HL6 : Hid ((acc ++ xj ++ ddots).length = acc.length + j + 4) := Lib.hid (by rw [List.length_append, List.length_append, hxl]; rfl)
        have HC6 := Lib.hid hj3
        have hsl1 := HSL.out acc.length (by omega)
        have hsl2 := slice_mid b off n c st j (by omega) hcs
        have hsl3 : ∀ W, (Instr.slice 25 (.slice (some ⟨w.heap.size, 0, none⟩) T T) (some (.int .i64 ((acc.length : Int) + (j : Int)))) none none).run Tryz.prog W = .ok (Lib.tailV w.heap.size T (acc.length + j)) W := fun W => by
          have := HSL.out (acc.length + j) (by omega) W
          rwa [show ((acc.length + j : Nat) : Int) = (acc.length : Int) + (j : Int) by omega] at this
        have ew1 : IntKind.i64.wrap ((acc.length : Int) + (j : Int)) = (acc.length : Int) + (j : Int) := IntWalk.i64_in _ (by omega)
        have ew2 : IntKind.i64.wrap ((acc.length : Int) + (j : Int) + 4) = (acc.length : Int) + (j : Int) + 4 := IntWalk.i64_in _ (by omega)
        have ew3 : IntKind.i64.wrap ((st : Int) + (j : Int) + 3) = (st : Int) + (j : Int) + 3 := IntWalk.i64_in _ (by omega)
        clear B5 B6 hj1 hj3 hj4 hxj hxl HC H HBd KI RD HB HV hd4
        go_upto_region 15 with fail
        go_region_law (refine step_copy_runI rfl _ _ 25 25 rfl _ _ (by simp [Act.eval, Act.put]) (by simp [Act.eval, Act.put]) hr5 ?_)
        go_wp2_with (at_builtin; refine Lib.wpList_copy_run _ rfl _ _ 25 25 rfl _ _ rfl rfl hr6 ?_)
        go_roundg k
        case rel => exact ⟨st + (j + 3), i + 1, acc ++ xj ++ ddots, by omega, by go_num, by go_num, by rw [HL6.out]; go_num, HB6, by omega, HC6, HX⟩
        case measure => omega
end Go.Proofs.YtjnjnccfojfghaaGreatDoor

/-! The walks of slices.Grow at nil and of slices.Concat at two slices of bytes. Conditions: the sizes. -/
namespace Go.Proofs.YtjnjnccfojfghaaGreatDoor
open Go.RowKit
set_option linter.unusedVariables false
/-- a new slice that reads as l -/
def NewPost (w : World) (l : List UInt8) (e : Ending) (w' : World) : Prop :=
  Below w.heap.size w w' ∧ ∃ A2 n2 c2, e = .returned (.slice A2 n2 c2) ∧ OwnV w' w.heap.size (.slice A2 n2 c2) l
def GrowPost (w : World) (e : Ending) (w' : World) : Prop :=
  Below w.heap.size w w' ∧ ∃ own A2 c2, e = .returned (.slice A2 0 c2) ∧ OwnQ w' w.heap.size own (.slice A2 0 c2) []
set_option maxRecDepth 100000 in
set_option maxHeartbeats 2000000 in
theorem grow_walk (w : World) (n : Nat) (hn : n ≤ 140737488355328) :
    Calls Tryz.prog 91 #[.slice none 0 0, .int .i64 (n : Int)] w (GrowPost w) := by
  by_cases h0 : n = 0
  · subst h0
    go_enter Tryz.func91, Tryz.ntmps91
    go_wp2
    go_ret
    exact ⟨Below.refl _ _, none, none, 0, rfl, OwnQ.nil _ _ none⟩
  · obtain ⟨i0, hi0, hzz⟩ := Option.map_eq_some_iff.1 (show (Tryz.prog.info? 5).map (fun i => (i.zero, i.size, i.bytes)) = some (some (.int .u8 0), 1, 1) by kernel_rfl)
    simp only [Prod.mk.injEq] at hzz
    obtain ⟨hz0, hs0, hb0⟩ := hzz
    have h1 : ¬ ((n : Int) < 0) := by omega
    have h4 : (0 : Int) < (n : Int) := by omega
    have hrz : ∀ ty, (Builtin.append_ #[25, 3] ty #[.slice none 0 0, .int .i64 (n : Int)]).run Tryz.prog w =
        .ok (.slice (some ⟨w.heap.size, 0, none⟩) n (grownCap w n 0 5)) (w.drew.alloc (.cells (#[] ++ Builtin.zeroCells (Value.int .u8 0).cells n ++ Builtin.zeroCells (Value.int .u8 0).cells (grownCap w n 0 5 - n)) 5)) := fun ty => by
      have h := Lib.run_append_grow_zeros w 25 3 ty 5 i0 (.int .u8 0) .i64 .i64 Tryz.underlying25 Tryz.underlying3 hi0 hz0 none 0 0 [] (run_firstCells_none w.drew i0.size 0 0 0) n (by omega) (by omega) (by omega) (by omega) (by rw [hb0]; omega) (growslice_fits (by omega) (by rw [hb0]; omega))
      rw [Nat.zero_add] at h
      exact h
    have hG1 : n ≤ grownCap w n 0 5 := grownCap_ge w _ _ _
    have hG2 := grownCap_le_maxLen w n 0 5 (by unfold maxLen; omega)
    generalize grownCap w n 0 5 = G at *
    have hG3 : G ≤ 9223372036854775807 := by unfold maxLen at hG2; omega
    have hz : (Value.int .u8 0).cells = #[.int .u8 0] := rfl
    rw [hz] at hrz
    have e1 : wrap64 (n : Int) = (n : Int) := by unfold wrap64; omega
    have e2 : IntKind.i64.wrap (n : Int) = (n : Int) := IntWalk.i64_in _ (by omega)
    obtain ⟨cs, hcs⟩ : ∃ cs, (#[] ++ Builtin.zeroCells #[.int .u8 0] n ++ Builtin.zeroCells #[.int .u8 0] (G - n) : Array Value) = cs := ⟨_, rfl⟩
    rw [hcs] at hrz
    have hsz : cs.size = G := by rw [← hcs]; simp [size_zeroCells]; omega
    have HSZ := Lib.hid hsz
    clear hi0 hz0 hs0 hb0 hcs hsz hz
    go_enter Tryz.func91, Tryz.ntmps91
    go_wp2_with (at_builtin; refine Lib.wpList_append_run _ rfl _ _ _ _ rfl _ _ rfl rfl _ _ (hrz _) ?_)
    go_ret
    refine ⟨⟨rfl, rfl, rfl, by simp, fun k hk => ?_⟩, some w.heap.size, _, G, rfl, _, G, rfl, Nat.zero_le _, hG2, .inr ⟨w.heap.size, 0, rfl, rfl, Nat.le_refl _, by simp, fun i hi => by simp at hi, fun i hi => ?_⟩⟩
    · exact Below.heap_alloc w.drew _ k hk
    · have hB := Blk.new w.drew 5 cs
      have := hB.cell (0 + i)
      rw [show w.drew.heap.size = w.heap.size from rfl] at this
      refine ⟨?_, hB.frozen _⟩
      show ((w.drew.alloc (.cells cs 5)).cell? ⟨w.heap.size, 0 + i, none⟩).isSome = true
      rw [this, Array.getElem?_eq_getElem (by rw [HSZ.out]; omega)]
      rfl
theorem below_q {w w1 w2 : World} {base : Nat} {own : Option Nat} {v : Value} {l : List UInt8} (hb : Below base w w1) (h : OwnQ w1 base own v l) (hg : w1.grownBy w2 own) (hs : base ≤ w1.heap.size) : Below base w w2 := hb.trans (h.belowG hg hs)
set_option maxRecDepth 100000 in
set_option maxHeartbeats 4000000 in
theorem conc_walk (w : World) (q : Nat) (A1 A2 : Option Addr) (l1 l2 : List UInt8) (n1 c1 n2 c2 : Nat) (hq1 : w.cell? ⟨q, 0, none⟩ = some (.slice A1 n1 c1)) (hq2 : w.cell? ⟨q, 1, none⟩ = some (.slice A2 n2 c2))
    (h1 : RB w w.heap.size A1 l1) (h2 : RB w w.heap.size A2 l2) (hn1 : n1 = l1.length) (hn2 : n2 = l2.length) (hb : n1 + n2 ≤ 140737488355328) :
    Calls Tryz.prog 52 #[.slice (some ⟨q, 0, none⟩) 2 2] w (NewPost w (l1 ++ l2)) := by
  have HR1 := Lib.hid h1
  have HR2 := Lib.hid h2
  have HN1 := Lib.hid hn1
  have HN2 := Lib.hid hn2
  have KG := Lib.hid (grow_walk w (n1 + n2) hb)
  have e1 : wrap64 ((n1 : Int) + (n2 : Int)) = (n1 : Int) + (n2 : Int) := by unfold wrap64; omega
  have e2 : IntKind.i64.wrap ((n1 : Int) + (n2 : Int)) = (n1 : Int) + (n2 : Int) := IntWalk.i64_in _ (by omega)
  have e3 : IntKind.i64.wrap (n1 : Int) = (n1 : Int) := IntWalk.i64_in _ (by omega)
  have p1 : ¬ ((n1 : Int) < 0) := by omega
  have p2 : ¬ ((n1 : Int) + (n2 : Int) < 0) := by omega
  have hql := World.block_lt_of_cell? _ _ hq1
  have HQL := Lib.hid hql
  clear h1 h2 hn1 hn2 hql
  go_enter Tryz.func52, Tryz.ntmps52
  go_wp2_with fail
  go_loopg [3, 11] 2 (fun k s3 s11 wr => w = wr ∧ ((k = 2 ∧ s11 = .int .i64 0 ∧ s3 = .int .i64 0) ∨ (k = 1 ∧ s11 = .int .i64 1 ∧ s3 = .int .i64 (n1 : Int)) ∨ (k = 0 ∧ s11 = .int .i64 2 ∧ s3 = .int .i64 ((n1 : Int) + (n2 : Int)))))
  case atStart => exact ⟨rfl, .inl ⟨rfl, rfl, rfl⟩⟩
  case round =>
    obtain ⟨rfl, hc⟩ := hrel
    rcases hc with ⟨rfl, rfl, rfl⟩ | ⟨rfl, rfl, rfl⟩ | ⟨rfl, rfl, rfl⟩
    · clear KG
      go_wp2
      go_roundg 1
      case rel => exact ⟨rfl, .inr (.inl ⟨rfl, rfl, rfl⟩)⟩
      case measure => omega
    · clear KG
      go_wp2
      go_roundg 0
      case rel => exact ⟨rfl, .inr (.inr ⟨rfl, rfl, rfl⟩)⟩
      case measure => omega
    · clear e1 e2 e3
      go_wp2_with fail
      refine KG.out.mono ?_
      rintro e5 w5 ⟨hb5, own5, A5, c5, rfl, hO5⟩
      have HB5 := Lib.hid hb5
      have HO5 := Lib.hid hO5
      clear hb5 hO5 KG p1 p2
      go_wp2_with fail
      go_loopg [6, 27] 2 (fun k s6 s27 wr => ∃ own acc, Hid (OwnQ wr w.heap.size own s6 acc) ∧ Hid (Below w.heap.size w wr) ∧ ((k = 2 ∧ s27 = .int .i64 0 ∧ acc = []) ∨ (k = 1 ∧ s27 = .int .i64 1 ∧ acc = l1) ∨ (k = 0 ∧ s27 = .int .i64 2 ∧ acc = l1 ++ l2)))
      case atStart => exact ⟨own5, [], HO5, HB5, .inl ⟨rfl, rfl, rfl⟩⟩
      case round =>
        obtain ⟨own, acc, HO, HB, hc⟩ := hrel
        obtain ⟨A6, c6, rfl, -⟩ := HO.out.out
        have d1 : wr.cell? ⟨q, 0, none⟩ = some (.slice A1 n1 c1) := by rw [HB.out.cell (show q < w.heap.size from HQL.out)]; exact hq1
        have d2 : wr.cell? ⟨q, 1, none⟩ = some (.slice A2 n2 c2) := by rw [HB.out.cell (show q < w.heap.size from HQL.out)]; exact hq2
        rcases hc with ⟨rfl, rfl, rfl⟩ | ⟨rfl, rfl, rfl⟩ | ⟨rfl, rfl, rfl⟩
        · have hbz : ([] : List UInt8).length + l1.length ≤ 140737488355328 := by have := HN1.out; simp; omega
          go_wp2_with (at_builtin; go_loud (refine wpList_appQ _ u8S (.tmp 31) (.tmp 32) rfl rfl w.heap.size rfl HO.out _ _ rfl HN1.out (HR1.out.below HB.out) hbz HB.out.size ?_); intro v2 own2 w2 hO2 hg2 ho2; obtain ⟨A7, cc7, rfl, -⟩ := hO2.out; have HO2 := Lib.hid hO2; have HG2 := Lib.hid hg2; clear hO2 hg2 ho2)
          rw [List.nil_append] at HO2
          go_roundg 1
          case rel => exact ⟨own2, l1, by have := HO2; simpa using this, Lib.hid (below_q HB.out HO.out HG2.out HB.out.size), .inr (.inl ⟨rfl, rfl, rfl⟩)⟩
          case measure => omega
        · have hbz : acc.length + l2.length ≤ 140737488355328 := by have := HN1.out; have := HN2.out; omega
          go_wp2_with (at_builtin; go_loud (refine wpList_appQ _ u8S (.tmp 31) (.tmp 32) rfl rfl w.heap.size rfl HO.out _ _ rfl HN2.out (HR2.out.below HB.out) hbz HB.out.size ?_); intro v2 own2 w2 hO2 hg2 ho2; obtain ⟨A7, cc7, rfl, -⟩ := hO2.out; have HO2 := Lib.hid hO2; have HG2 := Lib.hid hg2; clear hO2 hg2 ho2)
          go_roundg 0
          case rel => exact ⟨own2, acc ++ l2, by have := HO2; rwa [List.length_append] at this, Lib.hid (below_q HB.out HO.out HG2.out HB.out.size), .inr (.inr ⟨rfl, rfl, rfl⟩)⟩
          case measure => omega
        · go_wp2
          go_ret
          exact ⟨HB.out, _, _, _, rfl, OwnV.of_q (by have := HO.out; rwa [List.length_append] at this)⟩
end Go.Proofs.YtjnjnccfojfghaaGreatDoor
