/-
  The walk of the document's with. Conditions: the sizes.
-/
import Derived.Test.YtihhadgkcdkemaaDoorPSt
import Derived.WalkLawsBesides
import Derived.Lib.SliceRun
import Derived.Sort.Walk0
namespace Go.Proofs.YtihhadgkcdkemaaDoor
open Go.RowKit Go.Maps
set_option linter.unusedVariables false
def ltS (a b : ByteArray) : Bool := decide (a.data.toList < b.data.toList)
theorem less_eq (a b : ByteArray) : Op.bytesLess a.toList b.toList = ltS a b := by
  rw [bytesLess_eq, ByteArray.toList_eq, ByteArray.toList_eq]
  rfl
/-- names with one more, by rising bytes, each once -/
def withL (s : ByteArray) : List ByteArray → List ByteArray
  | [] => [s]
  | x :: r => if ltS x s = true then x :: withL s r else if x = s then x :: r else s :: x :: r
theorem withL_less {s : ByteArray} : ∀ {L : List ByteArray} {j : Nat} {x : ByteArray}, L[j]? = some x → ltS x s = true → withL s (L.drop j) = x :: withL s (L.drop (j + 1)) := by
  intro L j x h h1
  obtain ⟨hj, rfl⟩ := List.getElem?_eq_some_iff.1 h
  rw [List.drop_eq_getElem_cons hj, withL, if_pos h1]
theorem withL_len (s : ByteArray) : ∀ L : List ByteArray, (withL s L).length ≤ L.length + 1
  | [] => by simp [withL]
  | x :: r => by
    have := withL_len s r
    unfold withL
    split
    · simp; omega
    split
    · simp
    · simp
/-- a slice that reads as texts -/
def WithPost (w : World) (L : List ByteArray) (e : Ending) (w' : World) : Prop :=
  Below w.heap.size w w' ∧ ∃ A c, e = .returned (.slice A L.length c) ∧ L.length ≤ c ∧ c ≤ maxLen ∧ RS w' w'.heap.size A L
/-- .. that lies in new blocks, as the one handed in does -/
def WithPostB (w : World) (B : Nat) (L : List ByteArray) (e : Ending) (w' : World) : Prop :=
  Below w.heap.size w w' ∧ ∃ A c, e = .returned (.slice A L.length c) ∧ L.length ≤ c ∧ c ≤ maxLen ∧ RS w' w'.heap.size A L ∧ ∀ b off, A = some ⟨b, off, none⟩ → B ≤ b
theorem uxS : UX Tryd.prog 59 9 1 := by
  obtain ⟨i, h1, h2, h3, h4⟩ := info_parts (show (Tryd.prog.info? 9).map (fun i => (i.zero, i.size, i.bytes)) = some (some (.string ⟨#[]⟩), 1, 16) by kernel_rfl)
  exact ⟨Tryd.underlying59, ⟨i, _, h1, h2, rfl, h3, by omega⟩, by omega⟩
theorem belowX {B : Nat} {w w1 w2 : World} {own : Option Nat} (hb : Below B w w1) (hg : w1.grownBy w2 own) (ho : ∀ k, own = some k → B ≤ k) (hB : B ≤ w1.heap.size) : Below B w w2 :=
  ⟨hg.os.trans hb.os, hg.tape.trans hb.tape, hg.output.trans hb.output, Nat.le_trans hb.size hg.size, fun k hk => (hg.block k (by omega) (fun e => by have := ho k e.symm; omega)).trans (hb.block k hk)⟩
theorem OwnX.rs {w : World} {own : Option Nat} {A : Option Addr} {n c : Nat} {L : List ByteArray} (h : OwnX 1 w own (.slice A n c) (L.map Value.string)) : n = L.length ∧ n ≤ c ∧ c ≤ maxLen ∧ RS w w.heap.size A L := by
  obtain ⟨e1, e2, e3⟩ := h.form
  rw [List.length_map, Nat.mul_one] at e1
  refine ⟨e1.symm, e2, e3, ?_⟩
  rcases Nat.eq_zero_or_pos L.length with h0 | h0
  · exact .inl (List.eq_nil_of_length_eq_zero h0)
  · obtain ⟨g, off, -, rfl, hlt, hc, -⟩ := h.at_ (by omega)
    refine .inr ⟨g, off, rfl, hlt, fun i hi => ?_⟩
    rw [hc i (by rw [List.length_map]; exact hi), List.getElem?_map, List.getElem?_eq_getElem hi, st_getElem hi]
    rfl
theorem map_oneS (L : List ByteArray) : ∀ u ∈ L.map Value.string, u.oneCell' = true := by
  intro u hu
  obtain ⟨s, _, rfl⟩ := List.mem_map.1 hu
  rfl
theorem RS.news {w : World} {B : Nat} {A : Option Addr} {L : List ByteArray} (h : RS w B A L) : ∀ ad, A = some ad → ∀ j u, (L.map Value.string)[j]? = some u → w.cell? (ad.add j) = some u := by
  intro ad e j u hu
  have hj : j < L.length := by have := (List.getElem?_eq_some_iff.1 hu).1; simpa using this
  obtain ⟨b, off, rfl, -, hc⟩ := h.at_ hj
  cases e
  rw [Addr.add_lit, hc j hj, ← hu, List.getElem?_map, List.getElem?_eq_getElem hj, st_getElem hj]
  rfl
theorem RS.none_ {w : World} {B : Nat} {A : Option Addr} {L : List ByteArray} (h : RS w B A L) (hA : A = none) : L = [] := by
  rcases h with h | ⟨_, _, h, _⟩
  · exact h
  · rw [hA] at h; cases h
theorem RS.take {w : World} {B : Nat} {A : Option Addr} {L : List ByteArray} (h : RS w B A L) (k : Nat) : RS w B A (L.take k) := by
  rcases h with rfl | ⟨b, off, rfl, hb, hc⟩
  · exact .inl (by simp)
  · refine .inr ⟨b, off, rfl, hb, fun i hi => ?_⟩
    rw [List.length_take] at hi
    rw [hc i (by omega)]
    unfold st
    rw [List.getD_eq_getElem?_getD, List.getD_eq_getElem?_getD, List.getElem?_take_of_lt (by omega)]
theorem RS.dropA {w : World} {B : Nat} {A : Option Addr} {L : List ByteArray} (h : RS w B A L) (c k : Nat) (hc : L.length ≤ c) : RS w B (if c = k then A else A.map fun a => a.add (k * 1)) (L.drop k) := by
  rcases h with rfl | ⟨b, off, rfl, hb, hcl⟩
  · exact .inl (by simp)
  · by_cases h1 : L.length ≤ k
    · exact .inl (List.drop_of_length_le h1)
    · rw [if_neg (by omega)]
      refine .inr ⟨b, off + k, by simp [Addr.add_lit], hb, fun i hi => ?_⟩
      rw [List.length_drop] at hi
      rw [Nat.add_assoc, hcl (k + i) (by omega)]
      unfold st
      rw [List.getD_eq_getElem?_getD, List.getD_eq_getElem?_getD, List.getElem?_drop]
theorem sliceS_low (A : Option Addr) (n c k : Nat) (h1 : k ≤ n) (W : World) : (Instr.slice 59 (.slice A n c) (some (.int .i64 (k : Int))) none none).run Tryd.prog W = .ok (.slice (if c = k then A else A.map fun a => a.add (k * 1)) (n - k) (c - k)) W := by
  have ht' : Tryd.prog.underlying 59 = some (.slice (Tryd.prog.elem 59)) := by simp [Program.elem, Tryd.underlying59]
  have he : Tryd.prog.elem 59 = 9 := by simp [Program.elem, Tryd.underlying59]
  rw [run_slice_l W 59 _ _ _ ht' .i64 _ (by omega) (by omega), he, Tryd.sizeOf9]
  simp only [Result.andThen, sliced, Int.toNat_natCast]
theorem map_snocS (L : List ByteArray) (s : ByteArray) : L.map Value.string ++ [Value.string s] = (L ++ [s]).map Value.string := by simp
theorem one_newS (w : World) (E : TypeId) (s : ByteArray) : ∀ ad, (some (⟨w.heap.size, 0, none⟩ : Addr)) = some ad → ∀ j u, ([.string s] : List Value)[j]? = some u → (w.alloc (.cells #[.string s] E)).cell? (ad.add j) = some u := by
  intro ad e j u hu
  cases e
  have hj : j = 0 := by
    have := (List.getElem?_eq_some_iff.1 hu).1
    simpa using this
  subst hj
  simp at hu
  subst hu
  rw [Addr.add_lit]
  exact (Blk.new w E #[.string s]).cell 0
set_option maxRecDepth 100000 in
set_option maxHeartbeats 2000000 in
theorem with_walkB (w : World) (B : Nat) (hB : B ≤ w.heap.size) (A : Option Addr) (hA : ∀ b off, A = some ⟨b, off, none⟩ → B ≤ b) (L : List ByteArray) (n c : Nat) (hn : n = L.length) (hr : RS w w.heap.size A L) (hc : n ≤ c) (hm : c ≤ maxLen) (hl : n ≤ 1000000) (s : ByteArray) :
    Calls Tryd.prog 28 #[.slice A n c, .string s] w (WithPostB w B (withL s L)) := by
  have HGB := Lib.hid hB
  have HGA := Lib.hid hA
  clear hB hA
  have HR := Lib.hid hr
  have HN := Lib.hid hn
  have HM := Lib.hid hm
  unfold maxLen at hm
  obtain ⟨F, hF⟩ : ∃ F, withL s L = F := ⟨_, rfl⟩
  have HF0 : Hid (F = L.take 0 ++ withL s (L.drop 0)) := Lib.hid (by rw [← hF]; rfl)
  rw [hF]
  clear hr hn hF
  go_enter Tryd.func28, Tryd.ntmps28
  go_wp2
  go_loopg [5] n (fun k s5 wr => w = wr ∧ ∃ j : Nat, j + k = n ∧ s5 = .int .i64 (j : Int) ∧ Hid (F = L.take j ++ withL s (L.drop j)))
  case atStart => exact ⟨rfl, 0, by omega, rfl, HF0⟩
  case round =>
    obtain ⟨rfl, j, hj, rfl, H⟩ := hrel
    clear HF0
    have hjn : j ≤ n := by omega
    have hs1 := fun W => sliceS_low A n c j hjn W
    have hjc : (j : Int) ≤ (c : Int) := by omega
    -- the three appends
    by_cases hstop : j < n ∧ ltS (st L j) s = true
    · obtain ⟨hlt, hls⟩ := hstop
      have hj1 : (j : Int) < (n : Int) := by omega
      have hx : L[j]? = some (st L j) := by
        have hjl : j < L.length := by have := HN.out; omega
        rw [List.getElem?_eq_getElem hjl, st_getElem hjl]
      have H2 : Hid (F = L.take (j + 1) ++ withL s (L.drop (j + 1))) := Lib.hid (by
        rw [H.out, withL_less hx hls, List.take_add_one, hx]
        simp)
      obtain ⟨b, off, rfl, -, hcl⟩ := HR.out.at_ (j := j) (by have := HN.out; omega)
      have k0 := hcl j (by have := HN.out; omega)
      have q1 : Op.bytesLess (st L j).toList s.toList = true := by rw [less_eq]; exact hls
      clear hls hx hcl H hs1
      generalize st L j = x at *
      go_wp2
      go_roundg (gk - 1)
      case rel => exact ⟨rfl, j + 1, by omega, by go_num, H2⟩
      case measure => omega
    · by_cases hsame : j < n ∧ st L j = s
      · obtain ⟨hlt, hst⟩ := hsame
        have hj1 : (j : Int) < (n : Int) := by omega
        have hx : L[j]? = some s := by
          have hjl : j < L.length := by have := HN.out; omega
          rw [List.getElem?_eq_getElem hjl, ← hst, st_getElem hjl]
        have hns : ltS s s = false := by
          have : ¬ (j < n ∧ ltS (st L j) s = true) := hstop
          rw [hst] at this
          simpa [hlt] using this
        have HE : Hid (F = L) := Lib.hid (by
          obtain ⟨hjl, e⟩ := List.getElem?_eq_some_iff.1 hx
          rw [H.out, List.drop_eq_getElem_cons hjl, e, withL, if_neg (by rw [hns]; simp), if_pos rfl, ← e, ← List.drop_eq_getElem_cons hjl, List.take_append_drop])
        obtain ⟨b, off, rfl, -, hcl⟩ := HR.out.at_ (j := j) (by have := HN.out; omega)
        have k0 := hcl j (by have := HN.out; omega)
        rw [hst] at k0
        have q1 : Op.bytesLess s.toList s.toList = false := by rw [less_eq]; exact hns
        have q2 : (s.toList == s.toList) = true := by simp
        clear hns hx hcl H hs1 hst hstop
        go_wp2
        go_ret
        rw [HE.out]
        exact ⟨Below.refl _ _, _, c, by rw [← HN.out]; rfl, by rw [← HN.out]; exact hc, HM.out, HR.out, HGA.out⟩
      · have HE : Hid (F = L.take j ++ [s] ++ L.drop j) := Lib.hid (by
          rw [H.out]
          cases e : L.drop j with
          | nil => simp [withL]
          | cons x r =>
            have hjl : j < L.length := by
              rcases Nat.lt_or_ge j L.length with h | h
              · exact h
              · rw [List.drop_of_length_le h] at e; cases e
            have hx : st L j = x := by
              rw [List.drop_eq_getElem_cons hjl] at e
              injection e with e _
              rw [st_getElem hjl, e]
            have hjn2 : j < n := by rw [HN.out]; exact hjl
            rw [hx] at hstop hsame
            rw [withL, if_neg (fun h => hstop ⟨hjn2, h⟩), if_neg (fun h => hsame ⟨hjn2, h⟩)]
            simp)
        have HT : Hid (RS w w.heap.size A (L.take j)) := Lib.hid (HR.out.take j)
        have HD : Hid (RS w w.heap.size (if c = j then A else A.map fun a => a.add (j * 1)) (L.drop j)) := Lib.hid (HR.out.dropA c j (by rw [← HN.out]; exact hc))
        have HTL : Hid ((L.take j).length = j) := Lib.hid (by rw [List.length_take, ← HN.out]; omega)
        have HDL : Hid ((L.drop j).length = n - j) := Lib.hid (by rw [List.length_drop, ← HN.out])
        have hways : (¬ (j : Int) < (n : Int)) ∨ ((j : Int) < (n : Int) ∧ ∃ b off, A = some ⟨b, off, none⟩ ∧ w.cell? ⟨b, off + j, none⟩ = some (.string (st L j)) ∧ Op.bytesLess (st L j).toList s.toList = false ∧ ((st L j).toList == s.toList) = false) := by
          rcases Nat.lt_or_ge j n with h | h
          · refine .inr ⟨by omega, ?_⟩
            obtain ⟨b, off, e, -, hcl⟩ := HR.out.at_ (j := j) (by have := HN.out; omega)
            refine ⟨b, off, e, hcl j (by have := HN.out; omega), ?_, str_ne fun e => hsame ⟨h, e⟩⟩
            rw [less_eq]
            simpa [h] using hstop
          · exact .inl (by omega)
        clear hstop hsame H
        obtain ⟨Ad, hAd⟩ : ∃ Ad, Ad = (if c = j then A else A.map fun a => a.add (j * 1)) := ⟨_, rfl⟩
        rw [← hAd] at HD hs1
        clear hAd
        obtain ⟨nd, hnd⟩ : ∃ nd, nd = n - j := ⟨_, rfl⟩
        obtain ⟨cd, hcd⟩ : ∃ cd, cd = c - j := ⟨_, rfl⟩
        rw [← hnd] at HDL hs1
        rw [← hcd] at hs1
        have hnd2 : nd ≤ 1000000 := by omega
        clear hnd hcd
        have HA0 : Hid (A = none → j = 0) := Lib.hid fun e => by
          have := HR.out.none_ e
          rw [this] at HN
          have := HN.out
          simp at this
          omega
        have HAd : Hid (Ad = none → nd = 0) := Lib.hid fun e => by
          have h1 := HD.out.none_ e
          have h2 := HDL.out
          rw [h1] at h2
          exact h2.symm
        rcases hways with h1 | ⟨h1, b, off, rfl, k0, q1, q2⟩
        all_goals
          go_wp2_with (first
            | (at_builtin; refine wpList_appX _ uxS (.tmp 34) (.tmp 37) rfl rfl rfl (OwnX.nil _ none) _ j c rfl ((L.take j).map Value.string) (by rw [List.length_map, HTL.out, Nat.mul_one]) HA0.out HT.out.news (map_oneS _) (by simp; omega) ?_; intro v1 g1 w1 hX1 hG1 ho1; rw [List.nil_append] at hX1; obtain ⟨A1, n1, c1, rfl, -⟩ := hX1.sl; have HX1 := Lib.hid hX1; have HB1 := Lib.hid (belowX (Below.refl w.heap.size w) hG1 (fun k h => by cases h) (Nat.le_refl _)); have HO1 : Hid (∀ k, g1 = some k → w.heap.size ≤ k) := Lib.hid (fun k hk => by rcases ho1 with h | h <;> (rw [h] at hk; cases hk); exact Nat.le_refl _); clear hX1 hG1 ho1)
            | (at_builtin; refine wpList_appX _ uxS (.tmp 39) (.tmp 41) rfl rfl rfl (HX1.out.same (by simp) (fun k hk => Below.heap_alloc _ _ k (HX1.out.lt hk))) (some ⟨w1.heap.size, 0, none⟩) 1 1 rfl [Value.string s] rfl (fun h => by cases h) (one_newS w1 9 s) (map_oneS [s]) (by have := HX1.out.form.1; rw [List.length_map, HTL.out] at this; rw [List.length_map, HTL.out]; omega) ?_; intro v2 g2 w2 hX2 hG2 ho2; rw [map_snocS] at hX2; obtain ⟨A2, n2, c2, rfl, -⟩ := hX2.sl; have HX2 := Lib.hid hX2; have HB2 := Lib.hid (belowX (HB1.out.alloc HB1.out.size (.cells #[.string s] 9)) hG2 HO1.out (by simp; exact Nat.le_succ_of_le HB1.out.size)); have HO2 : Hid (∀ k, g2 = some k → w.heap.size ≤ k) := Lib.hid (fun k hk => by rcases ho2 with h | h; (rw [h] at hk; exact HO1.out k hk); (rw [h] at hk; cases hk; simp; exact Nat.le_succ_of_le HB1.out.size)); clear hX2 hG2 ho2)
            | (at_builtin; refine wpList_appX _ uxS (.tmp 43) (.tmp 46) rfl rfl rfl HX2.out Ad nd cd rfl ((L.drop j).map Value.string) (by rw [List.length_map, HDL.out, Nat.mul_one]) HAd.out (HD.out.below HB2.out).news (map_oneS _) (by rw [List.length_map, List.length_append, HTL.out]; simp; omega) ?_; intro v3 g3 w3 hX3 hG3 ho3; rw [← List.map_append] at hX3; obtain ⟨A3, n3, c3, rfl, -⟩ := hX3.sl; have HX3 := Lib.hid hX3; have HB3 := Lib.hid (belowX HB2.out hG3 HO2.out HB2.out.size); have HO3 : Hid (∀ k, g3 = some k → w.heap.size ≤ k) := Lib.hid (fun k hk => by rcases ho3 with h | h; (rw [h] at hk; exact HO2.out k hk); (rw [h] at hk; cases hk; exact HB2.out.size)); clear hX3 hG3 ho3))
          go_ret
          obtain ⟨r1, r2, r3, r4⟩ := HX3.out.rs
          rw [HE.out]
          refine ⟨HB3.out, A3, c3, by rw [← r1]; rfl, by rw [← r1]; exact r2, r3, r4, fun b off e => ?_⟩
          obtain ⟨g, o2, hg, e2, -⟩ := HX3.out.at_ (by rw [r1] at r2; simp only [List.length_append, List.length_cons, List.length_nil] at r2; omega)
          rw [e] at e2
          cases e2
          exact Nat.le_trans HGB.out (HO3.out _ hg)
theorem with_walk (w : World) (A : Option Addr) (L : List ByteArray) (n c : Nat) (hn : n = L.length) (hr : RS w w.heap.size A L) (hc : n ≤ c) (hm : c ≤ maxLen) (hl : n ≤ 1000000) (s : ByteArray) :
    Calls Tryd.prog 28 #[.slice A n c, .string s] w (WithPost w (withL s L)) :=
  (with_walkB w 0 (Nat.zero_le _) A (fun _ _ _ => Nat.zero_le _) L n c hn hr hc hm hl s).mono fun _ _ ⟨h1, A, c, h2, h3, h4, h5, _⟩ => ⟨h1, A, c, h2, h3, h4, h5⟩
end Go.Proofs.YtihhadgkcdkemaaDoor
