/-
  The walk of the program's cut. Conditions: the size; the tables.
-/
import Derived.Test.YtlknclkkhincfaaDoorTbCs
namespace Go.Proofs.YtlknclkkhincfaaDoor
open Go.RowKit Go.Shelf
set_option linter.unusedVariables false
theorem cut_call (l : List UInt8) (hs : l.length < 4294967281) (w : World) {B : Nat} (hT : TabsT B w) : Calls Tryd.prog 45 #[.string (bs l), .string ⟨#[10]⟩] w fun e w' => ∃ x y, e = .returned (.tuple #[.string (bs (lineOf l)), .string x, .bool y]) ∧ ∃ n, w' = w.drewN n := by
  obtain ⟨m, hm⟩ := (hT w (Below.refl _ _)).2
  refine (Tryd.strings_Cut (bs l) ⟨#[10]⟩ m w (by rw [bs_size]; exact hs) hm).mono ?_
  rintro e w' ⟨h1, h2⟩
  rw [bs_list, show (Lib.cut l (ByteArray.mk #[10]).data.toList).1 = lineOf l from cut_line l] at h1
  exact ⟨_, _, h1, h2⟩
theorem triml_call (l : List UInt8) (w : World) : Calls Tryd.prog 46 #[.string (bs l), .string ⟨#[32, 9]⟩] w fun e w' => e = .returned (.string (bs (trimL l))) ∧ Below w.heap.size w w' := by
  have h := Any.strings_TrimLeft_laid Tryd.lays161 (by kernel_rfl) (bs l) bl2 w (by decide) (fun j b hb => of_decide_eq_true (List.all_eq_true.1 (show bl2.data.toList.all (fun b => decide (b.toNat < 128)) = true by decide) b (List.mem_of_getElem? hb)))
  rw [bs_list] at h
  have e : Lib.trimLeftS l bl2.data.toList = trimL l := trimL_lib _
  rw [e] at h
  exact h
theorem trimb_call (l : List UInt8) (hs : l.length ≤ 1000000) (w : World) : Calls Tryd.prog 47 #[.string (bs l), .string ⟨#[32, 9]⟩] w fun e w' => e = .returned (.string (bs (trimB l))) ∧ Below w.heap.size w w' := by
  have h := trim_call (bs l) (by rw [bs_size]; omega) w
  rw [bs_list] at h
  exact h
theorem iany_call (l : List UInt8) (hs : l.length < 4294967000) (s : ByteArray) (hse : s = bs l ++ ⟨#[32]⟩) (w : World) : Calls Tryd.prog 48 #[.string s, .string ⟨#[32, 9]⟩] w fun e w' => Below w.heap.size w w' ∧ e = .returned (.int .i64 (firstBl l : Int)) := by
  subst hse
  have hd : (bs l ++ ⟨#[32]⟩ : ByteArray).data.toList = l ++ [32] := by rw [app_list, bs_list]
  have h := iany_walk (bs l ++ ⟨#[32]⟩) w (by rw [size_len, hd]; simp; omega)
  rw [hd, firstBl_any] at h
  exact h
theorem lower_call (s : ByteArray) (l : List UInt8) (hse : s = bs l) (hs : l.length ≤ 1000000) (w : World) (hT : TabsT w.heap.size w) : Calls Tryd.prog 40 #[.string s] w fun e w' => Below w.heap.size w w' ∧ e = .returned (.string (bs (Lib.mapD lowU l))) := by
  subst hse
  have h := lower_walk (bs l) w (by rw [bs_size]; omega) hT
  rw [bs_list] at h
  exact h
theorem from_bs (l : List UInt8) (k : Nat) : (bs l).extract k l.length = bs (l.drop k) := by
  apply ByteArray.ext
  apply Array.ext'
  rw [ByteArray.data_extract]
  simp [bs]
  exact List.take_of_length_le (by simp)
theorem cut_next (text : List UInt8) {at_ : Nat} (h : at_ < text.length) (o : List PL × Int) :
    cutGo text.length (text.drop at_) at_ o = cutGo text.length (text.drop (at_ + (lineOf (text.drop at_)).length + 1)) (at_ + (lineOf (text.drop at_)).length + 1) (cutStep at_ (lineOf (text.drop at_)) o) := by
  have hl : (text.drop at_).length = text.length - at_ := List.length_drop
  rw [cutGo_fuel text.length (text.length + 1) _ _ _ (by omega) (by omega), cutGo, if_neg (fun e => by rw [e] at hl; simp at hl; omega), List.drop_drop]
  rfl
theorem line_le (text : List UInt8) {at_ : Nat} (h : at_ < text.length) : at_ + (lineOf (text.drop at_)).length ≤ text.length := by
  have := lineOf_len (text.drop at_)
  rw [List.length_drop] at this
  omega
theorem upto_bs (l : List UInt8) (k : Nat) : (bs l).extract 0 k = bs (l.take k) := by
  apply ByteArray.ext
  apply Array.ext'
  rw [ByteArray.data_extract]
  simp [bs]
theorem addP_new (a : Nat) (k : List UInt8) (s : List UInt8) : addP ⟨a, k, []⟩ s = ⟨a, k, (addP ⟨0, [], []⟩ s).ps⟩ := by
  unfold addP
  split <;> rfl
theorem addP_one (s : List UInt8) : (addP ⟨0, [], []⟩ s).ps.length ≤ 1 := by
  unfold addP
  split <;> simp
theorem news_of (w : World) (E : TypeId) (xs : List Value) : ∀ ad, (some (⟨w.heap.size, 0, none⟩ : Addr)) = some ad → ∀ j u, xs[j]? = some u → (w.alloc (.cells xs.toArray E)).cell? (ad.add j) = some u := by
  intro ad e j u hu
  cases e
  rw [Addr.add_lit, Nat.zero_add, (Blk.new w E xs.toArray).cell j]
  simpa using hu
theorem news3 (w : World) (E : TypeId) (x y z : Value) : ∀ ad, (some (⟨w.heap.size, 0, none⟩ : Addr)) = some ad → ∀ j u, ([x, y, z] : List Value)[j]? = some u → (w.alloc (.cells #[x, y, z] E)).cell? (ad.add j) = some u := news_of w E [x, y, z]
theorem below_new {w w' : World} {o : Obj} (hg : (w.alloc o).grownBy w' (some w.heap.size)) : Below w.heap.size w w' :=
  ⟨hg.os, hg.tape, hg.output, by have := hg.size; simp at this; omega, fun i hi => (hg.block i (by simp; omega) (fun e => by injection e; omega)).trans (Below.heap_alloc w o i hi)⟩
theorem CutSt.len {w : World} {own : Nat → Nat × Nat} {vo : Value} {out : List PL} (h : CutSt w own vo out) : ∃ A c, vo = .slice A out.length c ∧ out.length ≤ c ∧ c ≤ maxLen := by
  obtain ⟨g, R, h1, h2, h3, h4, h5⟩ := h
  obtain ⟨A, n, c, rfl, -⟩ := h1.sl
  obtain ⟨e1, e2, e3⟩ := h1.count (by omega) h4
  exact ⟨A, c, by rw [e1, h3], by omega, e3⟩
theorem modLast_len {out : List PL} {s : List UInt8} : (modLast out s).length = out.length := by
  unfold modLast
  split
  · rfl
  · rename_i x hx
    have : 0 < out.length := by cases out with | nil => simp at hx | cons _ _ => simp
    simp; omega
theorem List.mem_of_mem_dropLast' {α : Type} {l : List α} {x : α} (h : x ∈ l.dropLast) : x ∈ l := by
  rw [List.dropLast_eq_take] at h
  exact List.mem_of_mem_take h
theorem modLast_ps {out : List PL} {s : List UInt8} {k : Nat} (h : ∀ x ∈ out, x.ps.length ≤ k) : ∀ x ∈ modLast out s, x.ps.length ≤ k + 1 := by
  intro x hx
  unfold modLast at hx
  split at hx
  · have := h x hx; omega
  · rename_i y hy
    have hy2 := h y (List.mem_of_getLast? hy)
    rcases List.mem_append.1 hx with hx | hx
    · have := h x (List.mem_of_mem_dropLast' hx); omega
    · obtain rfl : x = addP y s := by simpa using hx
      unfold addP
      split
      · omega
      · show (y.ps ++ [trimB s]).length ≤ _
        rw [List.length_append]; simp; omega
/-- what cut leaves -/
def CutPost (w : World) (text : List UInt8) (e : Ending) (w' : World) : Prop :=
  ∃ own vo, CutSt w' own vo (cutP text).1 ∧ (∀ k, k < w.heap.size → own k = (0, 0)) ∧ e = .returned (.tuple #[vo, .int .i64 (cutP text).2]) ∧ Below w.heap.size w w'
set_option maxRecDepth 100000 in
set_option maxHeartbeats 2000000 in
theorem cut_walk (text : List UInt8) (w : World) (hs : text.length ≤ 262144) (hT : TabsT w.heap.size w) : Calls Tryd.prog 25 #[.string (bs text)] w (CutPost w text) := by
  have HIX := Lib.hid (Tryd.strings_IndexFunc 44 #[] (enters_of Tryd.func44 (by kernel_rfl) rfl) badR (bs text) w (cut_clos w))
  obtain ⟨R, hR⟩ : ∃ R, cutP text = R := ⟨_, rfl⟩
  obtain ⟨b0, hb0⟩ : ∃ b0, Lib.idxFunc badR true (bs text) = b0 := ⟨_, rfl⟩
  have HR : Hid (cutGo text.length (text.drop 0) 0 ([], b0) = R) := Lib.hid (by rw [List.drop_zero, ← hb0]; exact hR)
  rw [hb0] at HIX
  have HI0 : Hid (-1 ≤ b0 ∧ b0 ≤ 262144) := Lib.hid (by
    have hi := Lib.idxFuncFrom_range badR true (bs text) (bs text).size 0
    have e : Lib.idxFuncFrom badR true (bs text) (bs text).size 0 = b0 := hb0
    rw [e, bs_size] at hi
    omega)
  have HRR := Lib.hid hR
  have hsz := bs_size text
  have HT := Lib.hid hT
  unfold CutPost
  rw [hR]
  clear hR hb0 hT
  go_enter Tryd.func25, Tryd.ntmps25
  go_wp2_with fail
  refine HIX.out.mono ?_
  rintro e w1 ⟨rfl, hb1⟩
  have HB1 := Lib.hid hb1
  clear hb1 HIX
  go_wp2_with fail
  go_loopg [4, 5, 6] (text.length + 1) (fun k s4 s5 s6 wr => ∃ (at_ : Nat) (out : List PL) (bad : Int), s4 = .int .i64 bad ∧ s6 = .int .i64 (at_ : Int) ∧ at_ + k = text.length + 1 ∧ -1 ≤ bad ∧ bad ≤ 262144 ∧ Hid (Below w.heap.size w wr) ∧ Hid (∃ own, CutSt wr own s5 out ∧ ∀ k, k < w.heap.size → own k = (0, 0)) ∧ Hid (cutGo text.length (text.drop at_) at_ (out, bad) = R) ∧ Hid (out.length ≤ at_ ∧ ∀ x ∈ out, x.ps.length ≤ at_))
  case atStart =>
    exact ⟨0, [], b0, rfl, rfl, by omega, HI0.out.1, HI0.out.2, HB1, Lib.hid ⟨fun _ => (0, 0), CutSt.nil _ _, fun _ _ => rfl⟩, HR, Lib.hid ⟨by simp, fun x hx => by cases hx⟩⟩
  case round =>
    clear HR HRR
    obtain ⟨at_, out, bad, rfl, rfl, hk, hb1, hb2, HB, HC, HG, HL⟩ := hrel
    by_cases hlt : at_ < text.length
    · have hlt1 : (at_ : Int) < (text.length : Int) := by omega
      have HG1 := Lib.hid ((cut_next text hlt (out, bad)).symm.trans HG.out)
      have hle := line_le text hlt
      have hT1 := HT.out.below HB.out
      have HX := Lib.hid (from_bs text at_)
      have HC1 := Lib.hid (cut_call (text.drop at_) (by rw [List.length_drop]; omega) wr hT1)
      obtain ⟨ln, hln⟩ : ∃ ln, lineOf (text.drop at_) = ln := ⟨_, rfl⟩
      rw [hln] at HG1 hle HC1
      have hnl := bs_nil
      have hsl := bs_size ln
      have HT1 := Lib.hid hT1
      clear HG hln hT1
      go_wp2_with fail
      rw [HX.out]
      refine HC1.out.mono ?_
      rintro e w2 ⟨x7, y7, rfl, nq, rfl⟩
      have HL1 := Lib.hid (triml_call ln (wr.drewN nq))
      obtain ⟨inn, hinn⟩ : ∃ inn, trimL ln = inn := ⟨_, rfl⟩
      have hil : inn.length ≤ ln.length := by rw [← hinn]; exact trimL_len ln
      rw [hinn] at HL1
      have hsi := bs_size inn
      have HI := Lib.hid hinn
      have HB2 := Lib.hid (bdrewN HB.out nq)
      have HC2 : Hid (∃ own, CutSt (wr.drewN nq) own u5 out ∧ ∀ k, k < w.heap.size → own k = (0, 0)) := Lib.hid HC.out
      clear HC1 HX hinn HB HC HT1
      generalize wr.drewN nq = w2 at *
      go_wp2_with fail
      refine HL1.out.mono ?_
      rintro e w3 ⟨rfl, hb3⟩
      have HB3 := Lib.hid (HB2.out.trans (hb3.mono HB2.out.size))
      have HC3 : Hid (∃ own, CutSt w3 own u5 out ∧ ∀ k, k < w.heap.size → own k = (0, 0)) := Lib.hid (by obtain ⟨own, h1, h2⟩ := HC2.out; exact ⟨own, h1.below hb3, h2⟩)
      have HL3 := Lib.hid (trimb_call inn (by omega) w3)
      obtain ⟨tr, htr⟩ : ∃ tr, trimB inn = tr := ⟨_, rfl⟩
      rw [htr] at HL3
      have HTR := Lib.hid htr
      clear hb3 HL1 HB2 HC2 htr
      go_wp2_with fail
      refine HL3.out.mono ?_
      rintro e w4 ⟨rfl, hb4⟩
      have HB4 := Lib.hid (HB3.out.trans (hb4.mono HB3.out.size))
      have HC4 : Hid (∃ own, CutSt w4 own u5 out ∧ ∀ k, k < w.heap.size → own k = (0, 0)) := Lib.hid (by obtain ⟨own, h1, h2⟩ := HC3.out; exact ⟨own, h1.below hb4, h2⟩)
      clear hb4 HL3 HB3 HC3
      by_cases htr : tr = []
      · subst htr
        have HS : Hid (cutStep at_ ln (out, bad) = (out, bad)) := Lib.hid (by unfold cutStep skipB; rw [HI.out, HTR.out]; rfl)
        go_wp2_with fail
        go_roundg (gk - (ln.length + 1))
        case rel => exact ⟨at_ + ln.length + 1, out, bad, rfl, by go_num, by omega, hb1, hb2, HB4, HC4, Lib.hid (by rw [← HS.out]; exact HG1.out), Lib.hid ⟨by have := HL.out.1; omega, fun x hx => by have := HL.out.2 x hx; omega⟩⟩
        case measure => omega
      · cases inn with
        | nil => exact absurd (by rw [← HTR.out]; rfl) htr
        | cons c r =>
          have hbe : ((bs tr).toList == []) = false := by rw [bs_nil]; exact beq_eq_false_iff_ne.2 htr
          have hbe2 : (bs tr).toList.isEmpty = false := by rw [bs_nil]; cases tr with | nil => exact absurd rfl htr | cons _ _ => rfl
          have hbn : ¬ (bs tr).toList = [] := by rw [bs_nil]; exact htr
          have p0 : 0 < (bs (c :: r)).size := by rw [bs_size]; simp
          have hc0 : ((bs (c :: r))[0]'p0) = c := rfl
          clear hnl
          by_cases h35 : c = 35
          · have hd : ((((bs (c :: r))[0]'p0).toNat : Int) == 35) = true := by rw [hc0, h35]; rfl
            have HS : Hid (cutStep at_ ln (out, bad) = (out, bad)) := Lib.hid (by unfold cutStep skipB; rw [HI.out, h35]; simp)
            clear hc0 h35 htr
            go_wp2_with fail
            go_roundg (gk - (ln.length + 1))
            case rel => exact ⟨at_ + ln.length + 1, out, bad, rfl, by go_num, by omega, hb1, hb2, HB4, HC4, Lib.hid (by rw [← HS.out]; exact HG1.out), Lib.hid ⟨by have := HL.out.1; omega, fun x hx => by have := HL.out.2 x hx; omega⟩⟩
            case measure => omega
          · have hd : ((((bs (c :: r))[0]'p0).toNat : Int) == 35) = false := by
              rw [hc0, beq_eq_false_iff_ne]; intro e; exact h35 (UInt8.toNat_inj.1 (by have : (35 : UInt8).toNat = 35 := rfl; omega))
            have HSk : Hid (skipB ln = false) := Lib.hid (by
              unfold skipB; rw [HI.out, HTR.out]
              cases tr with
              | nil => exact absurd rfl htr
              | cons _ _ => simp [h35])
            clear hc0 h35 htr
            obtain ⟨m, hm⟩ : ∃ m, (c :: r).length = m := ⟨_, rfl⟩
            rw [hm] at hsi hil
            have HM := Lib.hid hm
            clear hm
            by_cases hh : m = ln.length
            · have hq : ((m : Int) == (ln.length : Int)) = true := beq_iff_eq.2 (by omega)
              have HS : Hid (cutStep at_ ln (out, bad) = (out ++ [newPL at_ ln], bad)) := Lib.hid (by unfold cutStep headB; rw [HSk.out, HI.out, HM.out, hh]; simp)
              have HIA := Lib.hid (iany_call ln (by omega) _ rfl w4)
              have hfb := firstBl_le ln
              have HXU := Lib.hid (upto_bs ln (firstBl ln))
              have HXD := Lib.hid (from_bs ln (firstBl ln))
              have HNP := Lib.hid (show newPL at_ ln = addP ⟨at_, Lib.mapD lowU (ln.take (firstBl ln)), []⟩ (ln.drop (firstBl ln)) from rfl)
              generalize firstBl ln = n at *
              generalize newPL at_ ln = x at *
              go_wp2_with fail
              refine HIA.out.mono ?_
              rintro e w5 ⟨hb5, rfl⟩
              have HB5 := Lib.hid (HB4.out.trans (hb5.mono HB4.out.size))
              have HC5 : Hid (∃ own, CutSt w5 own u5 out ∧ ∀ k, k < w.heap.size → own k = (0, 0)) := Lib.hid (by obtain ⟨own, h1, h2⟩ := HC4.out; exact ⟨own, h1.below hb5, h2⟩)
              clear hb5 HB4 HC4 HIA
              have HLW := Lib.hid (lower_call ((bs ln).extract 0 n) (ln.take n) HXU.out (by rw [List.length_take]; omega) w5 (fun w' hb => HT.out w' (HB5.out.trans (hb.mono HB5.out.size))))
              generalize hky : Lib.mapD lowU (ln.take n) = ky at *
              have HKY := Lib.hid hky
              clear hky
              go_wp2_with fail
              refine HLW.out.mono ?_
              rintro e w6 ⟨hb6, rfl⟩
              have HB6 := Lib.hid (HB5.out.trans (hb6.mono HB5.out.size))
              have HC6 : Hid (∃ own, CutSt w6 own u5 out ∧ ∀ k, k < w.heap.size → own k = (0, 0)) := Lib.hid (by obtain ⟨own, h1, h2⟩ := HC5.out; exact ⟨own, h1.below hb6, h2⟩)
              clear hb6 HB5 HC5 HLW
              have HK := Lib.hid (add_walk (w6.alloc (.cells #[.int .i64 (at_ : Int), .string (bs ky), .slice none 0 0] 74)) w6.heap.size 0 none 0 0 none [] (bs (ln.drop n)) (by rw [bs_size, List.length_drop]; omega) ((Blk.new w6 74 #[.int .i64 (at_ : Int), .string (bs ky), .slice none 0 0]).cell 2) ((Blk.new w6 74 #[.int .i64 (at_ : Int), .string (bs ky), .slice none 0 0]).frozen 2) (OwnX.nil _ none) (fun h => by cases h) (by simp))
              go_wp2_with fail
              rw [HXD.out]
              refine HK.out.mono ?_
              rintro e w7 hp
              rw [bs_list] at hp
              obtain ⟨rfl, v, gi, hB7, hv7, hge7, hg7⟩ := add_new (Blk.new w6 74 #[.int .i64 (at_ : Int), .string (bs ky), .slice none 0 0]) hp
              obtain ⟨own, ⟨g, Q, h1, h2, h3, h4, h5⟩, hz⟩ := HC6.out
              obtain ⟨A7, n7, c7, rfl, -⟩ := hv7.sl
              obtain ⟨A5, n5, c5, rfl, hn5, -⟩ := h1.sl
              have hb7 := below_new hg7
              have q0 := hB7.cell 0
              have q1 := hB7.cell 1
              have q2 := hB7.cell 2
              have hb8 := hb7.alloc hb7.size (.cells #[.int .i64 (at_ : Int), .string (bs ky), .slice A7 n7 c7] 74)
              have HX8 := Lib.hid (h1.below hb8 fun k hk => h1.lt hk)
              have HV8 := Lib.hid (hv7.below ((Below.refl w7.heap.size w7).alloc (Nat.le_refl _) (.cells #[.int .i64 (at_ : Int), .string (bs ky), .slice A7 n7 c7] 74)) fun k hk => hv7.lt hk)
              have HB8 := Lib.hid hb8
              have H1 := Lib.hid h1
              have H2 := Lib.hid h2
              have H3 := Lib.hid h3
              have H4 := Lib.hid h4
              have H5 := Lib.hid h5
              have HZ := Lib.hid hz
              have HGE := Lib.hid hge7
              have HQL : Hid (Q.flatten.length ≤ 1000000) := Lib.hid (by rw [flat_len h4, h3]; have := HL.out.1; omega)
              clear hp hB7 hv7 hge7 hg7 hb7 hb8 HK HC6 h1 h2 h3 h4 h5 hz hn5
              go_wp2_with (at_builtin; refine wpList_appX _ uxL (.tmp 64) (.tmp 66) rfl rfl rfl HX8.out (some ⟨w7.heap.size, 0, none⟩) 1 1 rfl [.int .i64 (at_ : Int), .string (bs ky), .slice A7 n7 c7] rfl (fun h => by cases h) (news3 w7 74 _ _ _) (by intro u hu; simp at hu; rcases hu with rfl | rfl | rfl <;> rfl) (by have := HQL.out; omega) ?_; intro v9 g9 w9 hX9 hG9 ho9; obtain ⟨A9, n9, c9, rfl, -⟩ := hX9.sl; have HX9 := Lib.hid hX9; have HG9 := Lib.hid hG9; have HO9 := Lib.hid ho9; clear hX9 hG9 ho9)
              go_roundg (gk - (ln.length + 1))
              case rel =>
                have hx : x = ⟨at_, ky, (addP ⟨0, [], []⟩ (ln.drop n)).ps⟩ := by rw [HNP.out, addP_new]
                obtain ⟨own', hC9, hT9⟩ := CutSt.snoc x H1.out H2.out H3.out H4.out H5.out HB8.out (by rw [hx]; exact HV8.out) (fun k hk => by have := HGE.out k hk; simp at this; omega) HG9.out HO9.out (by rw [hx]; exact HX9.out)
                have hw6 := HB6.out.size
                refine ⟨at_ + ln.length + 1, out ++ [x], bad, rfl, by go_num, by omega, hb1, hb2, Lib.hid (HB6.out.trans (hT9.below hw6 HZ.out (fun h => by rcases h with h | h <;> cases h))), Lib.hid ⟨own', hC9, hT9.zero hw6 HZ.out (fun h => by rcases h with h | h <;> cases h)⟩, Lib.hid (by rw [← HS.out]; exact HG1.out), Lib.hid ⟨by have := HL.out.1; rw [List.length_append]; simp; omega, fun y hy => ?_⟩⟩
                rcases List.mem_append.1 hy with hy | hy
                · have := HL.out.2 y hy; omega
                · obtain rfl : y = x := by simpa using hy
                  rw [hx]
                  have := addP_one (ln.drop n)
                  show (addP ⟨0, [], []⟩ (ln.drop n)).ps.length ≤ _
                  omega
              case measure => omega
            · have hq : ((m : Int) == (ln.length : Int)) = false := beq_eq_false_iff_ne.2 (by omega)
              have HB5 := HB4
              obtain ⟨own, hC, hz⟩ := HC4.out
              obtain ⟨A5, c5, rfl, hn5, hc5⟩ := hC.len
              unfold maxLen at hc5
              have hlo := HL.out.1
              by_cases ho : out = []
              · subst ho
                have hCN := Lib.hid HC4.out
                clear hC hz HC4
                have HW : Hid (cutStep at_ ln ([], bad) = ([], worse bad at_)) := Lib.hid (by unfold cutStep headB; rw [HSk.out, HI.out, HM.out, beq_eq_false_iff_ne.2 hh]; simp)
                have HNB : Hid (worse bad at_ = bad ∨ worse bad at_ = at_) := Lib.hid (by unfold worse; split <;> simp)
                by_cases b1 : bad < 0
                · have HWB : Hid (worse bad at_ = at_) := Lib.hid (by unfold worse; rw [if_pos (.inl b1)])
                  go_wp2_with fail
                  go_roundg (gk - (ln.length + 1))
                  case rel => exact ⟨at_ + ln.length + 1, [], at_, rfl, by go_num, by omega, by omega, by omega, HB5, hCN, Lib.hid (by rw [← HWB.out, ← HW.out]; exact HG1.out), Lib.hid ⟨by simp, fun y hy => by cases hy⟩⟩
                  case measure => omega
                · by_cases b2 : (at_ : Int) < bad
                  · have HWB : Hid (worse bad at_ = at_) := Lib.hid (by unfold worse; rw [if_pos (.inr b2)])
                    go_wp2_with fail
                    go_roundg (gk - (ln.length + 1))
                    case rel => exact ⟨at_ + ln.length + 1, [], at_, rfl, by go_num, by omega, by omega, by omega, HB5, hCN, Lib.hid (by rw [← HWB.out, ← HW.out]; exact HG1.out), Lib.hid ⟨by simp, fun y hy => by cases hy⟩⟩
                    case measure => omega
                  · have HWB : Hid (worse bad at_ = bad) := Lib.hid (by unfold worse; rw [if_neg (by omega)])
                    go_wp2_with fail
                    go_roundg (gk - (ln.length + 1))
                    case rel => exact ⟨at_ + ln.length + 1, [], bad, rfl, by go_num, by omega, by omega, by omega, HB5, hCN, Lib.hid (by rw [← HWB.out, ← HW.out]; exact HG1.out), Lib.hid ⟨by simp, fun y hy => by cases hy⟩⟩
                    case measure => omega
              · have HW : Hid (cutStep at_ ln (out, bad) = (modLast out ln, bad)) := Lib.hid (by unfold cutStep headB; rw [HSk.out, HI.out, HM.out, beq_eq_false_iff_ne.2 hh]; simp [ho])
                obtain ⟨en, -, -, gb, off, v, gi, x, rfl, kc, kf, hx, hv, hne, hK⟩ := hC.last ho
                have hn0 : 0 < out.length := List.length_pos_iff.2 ho
                have e1 : IntKind.i64.wrap ((out.length : Int) - 1) = ((out.length - 1 : Nat) : Int) := by rw [IntWalk.i64_in _ (by omega)]; omega
                have b0 : ((out.length : Int) == 0) = false := beq_eq_false_iff_ne.2 (by omega)
                obtain ⟨A7, n7, c7, rfl, -⟩ := hv.sl
                have hxm := HL.out.2 x (List.mem_of_getLast? hx)
                have HA := Lib.hid (add_walk w4 gb (off + (out.length - 1) * 3) A7 n7 c7 gi x.ps (bs ln) (by rw [bs_size]; omega) kc kf hv hne (by omega))
                have HK := Lib.hid hK
                have HZ := Lib.hid hz
                have hj : out.length - 1 < out.length := by omega
                have HML := Lib.hid (modLast_len (out := out) (s := ln))
                have HMP := Lib.hid (modLast_ps (s := ln) HL.out.2)
                clear hC hz HC4 en kc kf hx hv hne hK ho hxm
                go_wp2_with fail
                refine HA.out.mono ?_
                rintro e w7 hp
                rw [bs_list] at hp
                obtain ⟨rfl, own', hC7, hT7⟩ := HK.out _ _ _ hp
                have HC7 := Lib.hid hC7
                have HT7 := Lib.hid hT7
                clear hp hC7 hT7 HK HA
                go_wp2_with fail
                go_roundg (gk - (ln.length + 1))
                case rel =>
                  have hw6 := HB5.out.size
                  exact ⟨at_ + ln.length + 1, modLast out ln, bad, rfl, by go_num, by omega, hb1, hb2, Lib.hid (HB5.out.trans (HT7.out.below hw6 HZ.out (fun h => by rcases h with h | h <;> cases h))), Lib.hid ⟨own', HC7.out, HT7.out.zero hw6 HZ.out (fun h => by rcases h with h | h <;> cases h)⟩, Lib.hid (by rw [← HW.out]; exact HG1.out), Lib.hid ⟨by rw [HML.out]; have := HL.out.1; omega, fun y hy => by have := HMP.out y hy; omega⟩⟩
                case measure => omega
    · have hlt1 : ¬ (at_ : Int) < (text.length : Int) := by omega
      have hnil : text.drop at_ = [] := List.drop_of_length_le (by omega)
      have HE : Hid (R = (out, bad)) := Lib.hid (by rw [← HG.out, hnil, cutGo_nil])
      clear hnil HG
      go_wp2_with fail
      go_ret2
      obtain ⟨own, h1, h2⟩ := HC.out
      exact ⟨own, _, by rw [HE.out]; exact h1, h2, by rw [HE.out]; rfl, HB.out⟩
end Go.Proofs.YtlknclkkhincfaaDoor
