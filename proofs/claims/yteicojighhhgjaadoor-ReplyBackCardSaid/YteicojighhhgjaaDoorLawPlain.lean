/-
  The plain laws of reading: what is read may be; what is printed is read again; each beginning is too short. No condition.
-/
import Derived.Test.YteicojighhhgjaaDoorPrint
import Derived.Test.YteicojighhhgjaaDoorRLine
namespace Go.Proofs.YteicojighhhgjaaDoor
set_option linter.unusedVariables false

theorem rd_len : ∀ (k : Nat) (l : List UInt8) (a c : Int) (L : List ByteArray), L.length ≤ 50 → (rd k l a c L).L.length ≤ 50
  | 0, _, _, _, _, _ => by simp [rd, bad]
  | k + 1, l, a, c, L, h => by
    by_cases he : eol l < 0
    · rw [rd_short (by omega) he]; simp [bad]
    by_cases hf : lOk (fst l) = false ∨ (0 < a ∧ lN (fst l) ≠ c)
    · rw [rd_form (by omega) he hf]; simp [bad]
    by_cases h5 : L.length = 50
    · rw [rd_long (by omega) he hf h5]; simp [bad]
    cases hm : lM (fst l)
    · rw [rd_last (by omega) he hf h5 hm]; simp; omega
    · rw [rd_more (by omega) he hf h5 hm]
      exact rd_len _ _ _ _ _ (by simp; omega)
theorem readP_len (l : List UInt8) : (readP l).L.length ≤ 50 := rd_len _ _ _ _ _ (by simp)
theorem lOk_parts {x : List UInt8} (h : lOk x = true) : codeOk (lN x) = true ∧ textOk (lT x) = true := by
  unfold lOk bodyOk at h
  simp only [Bool.and_eq_true, Bool.or_eq_true, decide_eq_true_eq] at h
  obtain ⟨hc, h3, hd, hco, hm | ⟨_, ht⟩⟩ := h
  · refine ⟨hco, ?_⟩
    unfold lT
    rw [List.drop_eq_nil_of_le (by omega)]
    rfl
  · exact ⟨hco, ht⟩
theorem rd_right : ∀ (k : Nat) (l : List UInt8) (a c : Int) (L : List ByteArray), l.length < k → 0 ≤ a → L.all lineOk = true → L.length ≤ 50 → (rd k l a c L).e = 0 →
    rightOk (rd k l a c L).c (rd k l a c L).L = true ∧ a + 1 ≤ (rd k l a c L).n ∧ (rd k l a c L).n ≤ a + l.length
  | 0, _, _, _, _, h, _, _, _, _ => by omega
  | k + 1, l, a, c, L, hk, ha, hL, h50, h => by
    by_cases he : eol l < 0
    · rw [rd_short (by omega) he] at h; unfold bad short at h; simp only at h; split at h <;> omega
    by_cases hf : lOk (fst l) = false ∨ (0 < a ∧ lN (fst l) ≠ c)
    · rw [rd_form (by omega) he hf] at h; simp [bad] at h
    by_cases h5 : L.length = 50
    · rw [rd_long (by omega) he hf h5] at h; simp [bad] at h
    have hok : lOk (fst l) = true := by
      cases hx : lOk (fst l)
      · exact absurd (.inl hx) hf
      · rfl
    obtain ⟨p1, p2⟩ := lOk_parts hok
    have hm1 := (eol_at he).2.1
    have hL' : (L ++ [(⟨(lT (fst l)).toArray⟩ : ByteArray)]).all lineOk = true := by
      rw [List.all_append, hL, Bool.true_and, List.all_cons, List.all_nil, Bool.and_true]
      exact p2
    cases hm : lM (fst l)
    · rw [rd_last (by omega) he hf h5 hm]
      refine ⟨?_, ?_, ?_⟩
      · unfold rightOk
        rw [hL', p1, decide_eq_true (by simp), decide_eq_true (by simp; omega)]; rfl
      · simp only; omega
      · simp only; omega
    · rw [rd_more (by omega) he hf h5 hm] at h ⊢
      obtain ⟨q1, q2, q3⟩ := rd_right _ _ _ _ _ (by rw [List.length_drop]; omega) (by omega) hL' (by simp; omega) h
      refine ⟨q1, by omega, ?_⟩
      rw [List.length_drop] at q3
      omega
theorem indexByte_app {c : UInt8} {z : List UInt8} : ∀ (y : List UInt8), (∀ b ∈ y, b ≠ c) → Lib.indexByte (y ++ c :: z) c = y.length
  | [], _ => by simp [Lib.indexByte]
  | b :: y, h => by
    have ih := indexByte_app (z := z) y (fun b hb => h b (by simp [hb]))
    have hb : (b == c) = false := beq_eq_false_iff_ne.2 (h b (by simp))
    rw [List.cons_append]
    unfold Lib.indexByte
    rw [hb, ih]
    simp
theorem indexByte_no {c : UInt8} : ∀ (y : List UInt8), (∀ b ∈ y, b ≠ c) → Lib.indexByte y c = -1
  | [], _ => rfl
  | b :: y, h => by
    have ih := indexByte_no y (fun b hb => h b (by simp [hb]))
    have hb : (b == c) = false := beq_eq_false_iff_ne.2 (h b (by simp))
    unfold Lib.indexByte
    rw [hb, ih]
    rfl
theorem eol_line {y z : List UInt8} (hy : ∀ b ∈ y, b ≠ 10) (hl : y.length < 512) : eol (y ++ 10 :: z) = y.length := by
  unfold eol
  rw [List.take_append, List.take_of_length_le (by omega)]
  obtain ⟨k, hk⟩ : ∃ k, 512 - y.length = k + 1 := ⟨511 - y.length, by omega⟩
  rw [hk, List.take_succ_cons]
  exact indexByte_app y hy
theorem eol_no {y : List UInt8} (hy : ∀ b ∈ y, b ≠ 10) : eol y < 0 := by
  unfold eol
  rw [indexByte_no _ (fun b hb => hy b (List.mem_of_mem_take hb))]
  omega
/-- a line's bytes, but the last -/
def lnA (c : Int) (sep : UInt8) (s : List UInt8) : List UInt8 := dig3 c ++ (sep :: (s ++ [13]))
theorem lnA_len (c : Int) (sep : UInt8) (s : List UInt8) : (lnA c sep s).length = s.length + 5 := by
  unfold lnA; simp [dig3_len]; omega
theorem dig3_nat {c : Int} (h : codeOk c = true) : ∃ a b d : UInt8, dig3 c = [a, b, d] ∧ (a.toNat : Int) = 48 + c / 100 ∧ (b.toNat : Int) = 48 + c / 10 % 10 ∧ (d.toNat : Int) = 48 + c % 10 ∧ 200 ≤ c ∧ c ≤ 599 := by
  unfold codeOk at h
  rw [decide_eq_true_eq] at h
  refine ⟨_, _, _, rfl, ?_, ?_, ?_, h.1, h.2.1⟩
  all_goals
    rw [UInt8.toNat_ofNat']
    omega
theorem lnA_no {c : Int} {sep : UInt8} {s : ByteArray} (hc : codeOk c = true) (hs : lineOk s = true) (hsep : sep = 32 ∨ sep = 45) : ∀ b ∈ lnA c sep s.data.toList, b ≠ 10 := by
  obtain ⟨x, y, z, e, hx, hy, hz, h0, h1⟩ := dig3_nat hc
  unfold lineOk textOk at hs
  rw [Bool.and_eq_true] at hs
  intro b hb
  unfold lnA at hb
  rw [e] at hb
  simp only [List.cons_append, List.nil_append, List.mem_cons, List.mem_append, List.not_mem_nil, or_false] at hb
  rintro rfl
  have h10 : ((10 : UInt8).toNat : Int) = 10 := rfl
  rcases hb with hb | hb | hb | hb | hb | hb
  · rw [← hb] at hx; omega
  · rw [← hb] at hy; omega
  · rw [← hb] at hz; omega
  · rcases hsep with h | h <;> rw [h] at hb <;> cases hb
  · have := (List.all_eq_true.1 hs.1) _ hb
    exact absurd this (by decide)
  · cases hb
theorem line_back {c : Int} {sep : UInt8} {s : ByteArray} (hc : codeOk c = true) (hs : lineOk s = true) (hsep : sep = 32 ∨ sep = 45) :
    lOk (lnA c sep s.data.toList ++ [10]) = true ∧ lN (lnA c sep s.data.toList ++ [10]) = c ∧ lT (lnA c sep s.data.toList ++ [10]) = s.data.toList ∧ lM (lnA c sep s.data.toList ++ [10]) = (sep == 45) := by
  obtain ⟨x, y, z, e, hx, hy, hz, h0, h1⟩ := dig3_nat hc
  have hcut : lnA c sep s.data.toList ++ [10] = (x :: y :: z :: sep :: s.data.toList) ++ [13, 10] := by unfold lnA; rw [e]; simp
  have hb : bodyL (lnA c sep s.data.toList ++ [10]) = x :: y :: z :: sep :: s.data.toList := by
    unfold bodyL
    rw [hcut, List.take_append_of_le_length (by simp), List.take_of_length_le (by simp)]
  have hcr : crlf (lnA c sep s.data.toList ++ [10]) = true := by
    unfold crlf Lib.hasSuffix
    rw [hcut, List.isSuffixOf_iff_suffix]
    exact ⟨_, rfl⟩
  have b0 : bt (x :: y :: z :: sep :: s.data.toList) 0 = (x.toNat : Int) := rfl
  have b1 : bt (x :: y :: z :: sep :: s.data.toList) 1 = (y.toNat : Int) := rfl
  have b2 : bt (x :: y :: z :: sep :: s.data.toList) 2 = (z.toNat : Int) := rfl
  have b3 : bt (x :: y :: z :: sep :: s.data.toList) 3 = (sep.toNat : Int) := rfl
  have hn : code3 (x :: y :: z :: sep :: s.data.toList) = c := by
    unfold code3; rw [b0, b1, b2, hx, hy, hz]; omega
  have hd : digs3 (x :: y :: z :: sep :: s.data.toList) = true := by
    unfold digs3 isDig
    rw [b0, b1, b2, hx, hy, hz, decide_eq_true (by omega), decide_eq_true (by omega), decide_eq_true (by omega)]; rfl
  have hsp : (sep.toNat : Int) = 45 ∨ (sep.toNat : Int) = 32 := by
    rcases hsep with h | h <;> subst h
    · exact .inr rfl
    · exact .inl rfl
  refine ⟨?_, ?_, ?_, ?_⟩
  · unfold lOk bodyOk
    rw [hcr, hb, hd, hn, hc, b3, decide_eq_true hsp, decide_eq_true (by simp), show (x :: y :: z :: sep :: s.data.toList).drop 4 = s.data.toList from rfl]
    unfold lineOk at hs
    rw [hs]
    simp
  · unfold lN; rw [hb]; exact hn
  · unfold lT; rw [hb]; rfl
  · unfold lM; rw [hb, b3]
    rcases hsep with h | h <;> subst h <;> rfl
theorem prt_cons (c : Int) (s : ByteArray) (r : List ByteArray) (more : List UInt8) :
    prt (dig3 c) (s :: r) ++ more = lnA c (if r.isEmpty then 32 else 45) s.data.toList ++ 10 :: (prt (dig3 c) r ++ more) := by
  unfold lnA; simp [prt]
theorem sep_or (r : List ByteArray) : (if r.isEmpty then (32 : UInt8) else 45) = 32 ∨ (if r.isEmpty then (32 : UInt8) else 45) = 45 := by
  cases r <;> simp
theorem line_len' {s : ByteArray} (h : lineOk s = true) : s.data.toList.length ≤ 506 := by
  unfold lineOk textOk at h
  rw [Bool.and_eq_true, decide_eq_true_eq] at h
  exact h.2
theorem rd_back {c : Int} (hc : codeOk c = true) (more : List UInt8) : ∀ (L : List ByteArray) (k : Nat) (a cc : Int) (M : List ByteArray), 1 ≤ L.length → L.all lineOk = true → M.length + L.length ≤ 50 → L.length ≤ k → 0 ≤ a → (0 < a → cc = c) →
    rd k (prt (dig3 c) L ++ more) a cc M = ⟨c, M ++ L, a + (prt (dig3 c) L).length, 0⟩
  | [], _, _, _, _, h, _, _, _, _, _ => by simp at h
  | s :: r, k, a, cc, M, _, hL, h50, hk, ha, hcc => by
    rw [List.all_cons, Bool.and_eq_true] at hL
    simp only [List.length_cons] at h50 hk
    obtain ⟨q1, q2, q3, q4⟩ := line_back hc hL.1 (sep_or r)
    have hno := lnA_no hc hL.1 (sep_or r)
    have hlen := lnA_len c (if r.isEmpty then 32 else 45) s.data.toList
    have hs5 := line_len' hL.1
    have hp := congrArg List.length (prt_cons c s r [])
    simp only [List.append_nil, List.length_append, List.length_cons] at hp
    rw [prt_cons]
    have hz := fun z => eol_line (z := z) hno (by omega)
    generalize hA : lnA c (if r.isEmpty then 32 else 45) s.data.toList = A at *
    have he := hz (prt (dig3 c) r ++ more)
    have hfst : fst (A ++ 10 :: (prt (dig3 c) r ++ more)) = A ++ [10] := by
      unfold fst
      rw [he, Int.toNat_natCast, show A ++ 10 :: (prt (dig3 c) r ++ more) = (A ++ [10]) ++ (prt (dig3 c) r ++ more) by simp, List.take_append_of_le_length (by simp), List.take_of_length_le (by simp)]
    have hdrop : (A ++ 10 :: (prt (dig3 c) r ++ more)).drop ((eol (A ++ 10 :: (prt (dig3 c) r ++ more))).toNat + 1) = prt (dig3 c) r ++ more := by
      rw [he, Int.toNat_natCast, show A ++ 10 :: (prt (dig3 c) r ++ more) = (A ++ [10]) ++ (prt (dig3 c) r ++ more) by simp]
      exact List.drop_left' (by simp)
    have hneg : ¬ eol (A ++ 10 :: (prt (dig3 c) r ++ more)) < 0 := by rw [he]; omega
    have hf : ¬ (lOk (fst (A ++ 10 :: (prt (dig3 c) r ++ more))) = false ∨ (0 < a ∧ lN (fst (A ++ 10 :: (prt (dig3 c) r ++ more))) ≠ cc)) := by
      rw [hfst, q1, q2]
      rintro (h | ⟨h1, h2⟩)
      · cases h
      · exact h2 (hcc h1).symm
    have hst : (⟨(lT (A ++ [10])).toArray⟩ : ByteArray) = s := by rw [q3]
    cases r with
    | nil =>
      rw [rd_last (by omega) hneg hf (by omega) (by rw [hfst, q4]; rfl), hfst, q2, hst, he, Int.toNat_natCast, hp]
      simp [prt]
    | cons u r =>
      rw [rd_more (by omega) hneg hf (by omega) (by rw [hfst, q4]; rfl), hfst, q2, hst, hdrop, he, Int.toNat_natCast,
        rd_back hc more (u :: r) (k - 1) _ _ _ (by simp) hL.2 (by simp at h50 ⊢; omega) (by simp at hk ⊢; omega) (by omega) (fun _ => rfl), hp]
      simp
      omega
theorem readP_back {c : Int} {L : List ByteArray} (h : rightOk c L = true) (more : List UInt8) : readP (prt (dig3 c) L ++ more) = ⟨c, L, (prt (dig3 c) L).length, 0⟩ := by
  obtain ⟨h1, h2, h3, h4⟩ := rightOk_parts h
  unfold readP
  have hk : L.length ≤ (prt (dig3 c) L ++ more).length + 1 := by
    have : ∀ M : List ByteArray, M.length ≤ (prt (dig3 c) M).length := by
      intro M
      induction M with
      | nil => simp
      | cons s r ih => simp only [prt, List.length_append, List.length_cons]; omega
    have := this L
    rw [List.length_append]; omega
  rw [rd_back h2 more L _ 0 0 [] h3 h1 (by simpa using h4) hk (by omega) (by omega)]
  simp
theorem rd_torn {c : Int} (hc : codeOk c = true) : ∀ (L : List ByteArray) (cut k : Nat) (a cc : Int) (M : List ByteArray), L.all lineOk = true → M.length + L.length ≤ 50 → cut < k → 0 ≤ a → (0 < a → cc = c) → cut < (prt (dig3 c) L).length →
    rd k ((prt (dig3 c) L).take cut) a cc M = bad 140
  | [], cut, _, _, _, _, _, _, _, _, _, h => by simp [prt] at h
  | s :: r, cut, k, a, cc, M, hL, h50, hk, ha, hcc, hcut => by
    rw [List.all_cons, Bool.and_eq_true] at hL
    simp only [List.length_cons] at h50
    obtain ⟨q1, q2, q3, q4⟩ := line_back hc hL.1 (sep_or r)
    have hno := lnA_no hc hL.1 (sep_or r)
    have hlen := lnA_len c (if r.isEmpty then 32 else 45) s.data.toList
    have hs5 := line_len' hL.1
    have hpc := prt_cons c s r []
    rw [List.append_nil, List.append_nil] at hpc
    rw [hpc] at hcut ⊢
    simp only [List.length_append, List.length_cons] at hcut
    have hz := fun z => eol_line (z := z) hno (by omega)
    generalize hA : lnA c (if r.isEmpty then 32 else 45) s.data.toList = A at *
    by_cases hlt : cut ≤ A.length
    · rw [List.take_append_of_le_length hlt]
      have he := eol_no (y := A.take cut) (fun b hb => hno b (List.mem_of_mem_take hb))
      rw [rd_short (by omega) he]
      unfold short
      rw [if_neg (by rw [List.length_take]; omega)]
    · have hsp : (A ++ 10 :: prt (dig3 c) r).take cut = A ++ 10 :: ((prt (dig3 c) r).take (cut - A.length - 1)) := by
        rw [List.take_append, List.take_of_length_le (by omega)]
        obtain ⟨j, hj⟩ : ∃ j, cut - A.length = j + 1 := ⟨cut - A.length - 1, by omega⟩
        rw [hj, List.take_succ_cons]
        rfl
      rw [hsp]
      have he := hz ((prt (dig3 c) r).take (cut - A.length - 1))
      generalize hz' : (prt (dig3 c) r).take (cut - A.length - 1) = Z at *
      have hfst : fst (A ++ 10 :: Z) = A ++ [10] := by
        unfold fst
        rw [he, Int.toNat_natCast, show A ++ 10 :: Z = (A ++ [10]) ++ Z by simp, List.take_append_of_le_length (by simp), List.take_of_length_le (by simp)]
      have hdrop : (A ++ 10 :: Z).drop ((eol (A ++ 10 :: Z)).toNat + 1) = Z := by
        rw [he, Int.toNat_natCast, show A ++ 10 :: Z = (A ++ [10]) ++ Z by simp]
        exact List.drop_left' (by simp)
      have hneg : ¬ eol (A ++ 10 :: Z) < 0 := by rw [he]; omega
      have hf : ¬ (lOk (fst (A ++ 10 :: Z)) = false ∨ (0 < a ∧ lN (fst (A ++ 10 :: Z)) ≠ cc)) := by
        rw [hfst, q1, q2]
        rintro (h | ⟨h1, h2⟩)
        · cases h
        · exact h2 (hcc h1).symm
      cases r with
      | nil => simp [prt] at hcut; omega
      | cons u r =>
        rw [rd_more (by omega) hneg hf (by omega) (by rw [hfst, q4]; rfl), hfst, q2, hdrop, ← hz']
        exact rd_torn hc (u :: r) _ (k - 1) _ _ _ hL.2 (by simp at h50 ⊢; omega) (by omega) (by omega) (fun _ => rfl) (by omega)
theorem readP_torn {c : Int} {L : List ByteArray} (h : rightOk c L = true) {cut : Nat} (hcut : cut < (prt (dig3 c) L).length) : (readP ((prt (dig3 c) L).take cut)).e = 140 := by
  obtain ⟨h1, h2, h3, h4⟩ := rightOk_parts h
  unfold readP
  rw [rd_torn h2 L cut _ 0 0 [] h1 (by simpa using h4) (by rw [List.length_take]; omega) (by omega) (by omega) hcut]
  rfl
theorem readP_right {l : List UInt8} (h : (readP l).e = 0) : rightOk (readP l).c (readP l).L = true ∧ 1 ≤ (readP l).n ∧ (readP l).n ≤ l.length := by
  have := rd_right (l.length + 1) l 0 0 [] (by omega) (by omega) rfl (by simp) h
  unfold readP
  refine ⟨this.1, by omega, by omega⟩
end Go.Proofs.YteicojighhhgjaaDoor
