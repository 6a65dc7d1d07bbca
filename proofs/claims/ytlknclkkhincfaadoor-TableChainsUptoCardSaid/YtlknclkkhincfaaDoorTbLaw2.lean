/-
  The order of entries, comments, empty lines, and blanks more, turn nothing. No program in sight. No condition.
-/
import Derived.Test.YtlknclkkhincfaaDoorTbLaw
namespace Go.Proofs.YtlknclkkhincfaaDoor
set_option linter.unusedVariables false
def nE (e : En) : En := ⟨e.k.map lowC, trimB e.v⟩
/-- entries that may be written, each key once -/
structure Own (L : List En) : Prop where
  pl : ∀ e ∈ L, plainB e.k e.v = true
  pw : L.Pairwise fun a b => a.k.map lowC ≠ b.k.map lowC
  le : L.length ≤ 60
def oneT (L : List En) : List UInt8 := (L.map fun e => e.k ++ [32] ++ e.v ++ [10]).flatten
def pre2 : List UInt8 := [35, 32, 99, 111, 109, 109, 101, 110, 116, 10, 32, 9, 10]
def suf2 : List UInt8 := [10, 32, 32, 35, 32, 120, 10, 10]
def twoT (more : List UInt8) (L : List En) : List UInt8 := (L.map fun e => e.k ++ more ++ e.v ++ more ++ suf2).flatten
def Fits (X : List PL) (L : List En) : Prop := X.map (fun x => (x.key, x.ps)) = L.map fun e => (e.k.map lowC, [trimB e.v])
theorem line_no10 {k v m t : List UInt8} (hp : plainB k v = true) (hm : m.all isBl = true) (ht : t.all isBl = true) : ∀ b ∈ k ++ m ++ v ++ t, b ≠ 10 := by
  obtain ⟨h1, h2, -⟩ := plainB_facts hp
  intro b hb
  simp only [List.mem_append] at hb
  rcases hb with ((hb | hb) | hb) | hb
  · exact (keyC_facts (List.all_eq_true.1 h1 b hb)).2.1
  · exact (isBl_facts (List.all_eq_true.1 hm b hb)).1
  · exact (valC_facts (List.all_eq_true.1 h2 b hb)).1
  · exact (isBl_facts (List.all_eq_true.1 ht b hb)).1
theorem line_ok {k v m t : List UInt8} (hp : plainB k v = true) (hm : m.all isBl = true) (ht : t.all isBl = true) : (k ++ m ++ v ++ t).all okC = true := by
  obtain ⟨h1, h2, -⟩ := plainB_facts hp
  rw [List.all_eq_true]
  intro b hb
  simp only [List.mem_append] at hb
  rcases hb with ((hb | hb) | hb) | hb
  · exact (keyC_facts (List.all_eq_true.1 h1 b hb)).2.2.2
  · exact (isBl_facts (List.all_eq_true.1 hm b hb)).2
  · exact (valC_facts (List.all_eq_true.1 h2 b hb)).2
  · exact (isBl_facts (List.all_eq_true.1 ht b hb)).2
theorem one_cut : ∀ (L : List En) (at_ : Nat) (out : List PL) (b : Int), (∀ e ∈ L, plainB e.k e.v = true) → ∃ X, cutT (oneT L) at_ (out, b) = (out ++ X, b) ∧ Fits X L
  | [], at_, out, b, _ => ⟨[], by rw [List.append_nil]; exact cutT_nil _ _, rfl⟩
  | e :: L, at_, out, b, h => by
    have hp := h e (by simp)
    have e1 : oneT (e :: L) = (e.k ++ [32] ++ e.v ++ []) ++ 10 :: oneT L := by unfold oneT; simp
    have hs := cutStep_entry (m := [32]) (t := []) hp rfl (by simp) rfl at_ (out, b)
    obtain ⟨X, h1, h2⟩ := one_cut L (at_ + (e.k ++ [32] ++ e.v ++ []).length + 1) (out ++ [⟨at_, e.k.map lowC, [trimB e.v]⟩]) b (fun x hx => h x (by simp [hx]))
    refine ⟨⟨at_, e.k.map lowC, [trimB e.v]⟩ :: X, ?_, ?_⟩
    · rw [e1, cutT_line (line_no10 hp rfl rfl), hs, h1]
      simp
    · unfold Fits at h2 ⊢
      rw [List.map_cons, List.map_cons, h2]
theorem cutStep_skip {h : List UInt8} (hs : skipB h = true) (at_ : Nat) (o : List PL × Int) : cutStep at_ h o = o := by unfold cutStep; rw [hs]; rfl
theorem two_cut (more : List UInt8) (hm : more.all isBl = true) (hm0 : more ≠ []) : ∀ (L : List En) (at_ : Nat) (out : List PL) (b : Int), (∀ e ∈ L, plainB e.k e.v = true) → ∃ X, cutT (twoT more L) at_ (out, b) = (out ++ X, b) ∧ Fits X L
  | [], at_, out, b, _ => ⟨[], by rw [List.append_nil]; exact cutT_nil _ _, rfl⟩
  | e :: L, at_, out, b, h => by
    have hp := h e (by simp)
    have e1 : twoT more (e :: L) = (e.k ++ more ++ e.v ++ more) ++ 10 :: ([32, 32, 35, 32, 120] ++ 10 :: ([] ++ 10 :: twoT more L)) := by unfold twoT suf2; simp
    have hs := cutStep_entry (m := more) (t := more) hp hm hm0 hm at_ (out, b)
    obtain ⟨X, h1, h2⟩ := two_cut more hm hm0 L (at_ + (e.k ++ more ++ e.v ++ more).length + 1 + ([32, 32, 35, 32, 120] : List UInt8).length + 1 + ([] : List UInt8).length + 1) (out ++ [⟨at_, e.k.map lowC, [trimB e.v]⟩]) b (fun x hx => h x (by simp [hx]))
    refine ⟨⟨at_, e.k.map lowC, [trimB e.v]⟩ :: X, ?_, ?_⟩
    · rw [e1, cutT_line (line_no10 hp hm hm), hs, cutT_line (by decide), cutStep_skip (by decide), cutT_line (by simp), cutStep_skip (by decide), h1]
      simp
    · unfold Fits at h2 ⊢
      rw [List.map_cons, List.map_cons, h2]
theorem pre_cut (r : List UInt8) : cutT (pre2 ++ r) 0 ([], -1) = cutT r 13 ([], -1) := by
  have e : pre2 ++ r = [35, 32, 99, 111, 109, 109, 101, 110, 116] ++ 10 :: ([32, 9] ++ 10 :: r) := by unfold pre2; simp
  rw [e, cutT_line (by decide), cutStep_skip (by decide), cutT_line (by decide), cutStep_skip (by decide)]
  rfl
theorem one_ok : ∀ L : List En, (∀ e ∈ L, plainB e.k e.v = true) → (oneT L).all okC = true
  | [], _ => rfl
  | e :: L, h => by
    have e1 : oneT (e :: L) = (e.k ++ [32] ++ e.v ++ []) ++ ([10] ++ oneT L) := by unfold oneT; simp
    rw [e1, List.all_append, line_ok (h e (by simp)) rfl rfl, List.all_append, one_ok L (fun x hx => h x (by simp [hx]))]
    rfl
theorem two_ok (more : List UInt8) (hm : more.all isBl = true) : ∀ L : List En, (∀ e ∈ L, plainB e.k e.v = true) → (twoT more L).all okC = true
  | [], _ => rfl
  | e :: L, h => by
    have e1 : twoT more (e :: L) = (e.k ++ more ++ e.v ++ more) ++ (suf2 ++ twoT more L) := by unfold twoT; simp
    rw [e1, List.all_append, line_ok (h e (by simp)) hm hm, List.all_append, two_ok more hm L (fun x hx => h x (by simp [hx]))]
    rfl
theorem one_len : ∀ L : List En, (∀ e ∈ L, plainB e.k e.v = true) → (oneT L).length ≤ L.length * 1322
  | [], _ => by simp [oneT]
  | e :: L, h => by
    have ih := one_len L (fun x hx => h x (by simp [hx]))
    obtain ⟨-, -, -, h4, -, -, h7⟩ := plainB_facts (h e (by simp))
    have e1 : oneT (e :: L) = (e.k ++ [32] ++ e.v ++ [10]) ++ oneT L := by unfold oneT; simp
    rw [e1, List.length_append, List.length_cons, Nat.succ_mul]
    simp only [List.length_append, List.length_cons, List.length_nil]
    omega
theorem two_len (more : List UInt8) (hm : more.length ≤ 21) : ∀ L : List En, (∀ e ∈ L, plainB e.k e.v = true) → (twoT more L).length ≤ L.length * 1370
  | [], _ => by simp [twoT]
  | e :: L, h => by
    have ih := two_len more hm L (fun x hx => h x (by simp [hx]))
    obtain ⟨-, -, -, h4, -, -, h7⟩ := plainB_facts (h e (by simp))
    have e1 : twoT more (e :: L) = (e.k ++ more ++ e.v ++ more ++ suf2) ++ twoT more L := by unfold twoT; simp
    rw [e1, List.length_append, List.length_cons, Nat.succ_mul]
    simp only [List.length_append]
    have : suf2.length = 8 := rfl
    omega
theorem put_good : ∀ (X : List PL) (L T : List En) (a : Int), Fits X L → (∀ e ∈ L, plainB e.k e.v = true) → L.Pairwise (fun a b => a.k.map lowC ≠ b.k.map lowC) → sortE T → (∀ e ∈ L, ∀ x ∈ T, x.k ≠ e.k.map lowC) → T.length + L.length ≤ 2000 →
    ∃ U, parseGo X T 0 a = (U, 0, a) ∧ sortE U ∧ U.length = T.length + L.length ∧ ∀ x, x ∈ U ↔ x ∈ T ∨ x ∈ L.map nE
  | [], L, T, a, hF, hp, hw, hs, hn, hl => by
    have : L = [] := by
      cases L with
      | nil => rfl
      | cons e r => cases hF
    subst this
    exact ⟨T, rfl, hs, by simp, by simp⟩
  | x :: X, L, T, a, hF, hp, hw, hs, hn, hl => by
    obtain ⟨e, L, rfl⟩ : ∃ e r, L = e :: r := by
      cases L with
      | nil => cases hF
      | cons e r => exact ⟨e, r, rfl⟩
    obtain ⟨hx, hF2⟩ : (x.key, x.ps) = (e.k.map lowC, [trimB e.v]) ∧ Fits X L := by
      unfold Fits at hF ⊢
      rw [List.map_cons, List.map_cons] at hF
      exact List.cons.inj hF
    injection hx with hk hps
    obtain ⟨-, -, h3, h4, -, h6, h7⟩ := plainB_facts (hp e (by simp))
    have hj : joinB x.ps = trimB e.v := by unfold joinB; rw [hps, Lib.join_one]
    have hvl := trimB_len e.v
    obtain ⟨w1, w2⟩ := List.pairwise_cons.1 hw
    have hhas : hasE T x.key = false := by
      cases hh : hasE T x.key
      · rfl
      · obtain ⟨y, hy, hyk⟩ := (hasE_mem hs x.key).1 hh
        exact absurd (hyk.trans hk) (hn e (by simp) y hy)
    have hhas2 : hasE T (nE e).k = false := by rw [hk] at hhas; exact hhas
    obtain ⟨U, hU, hU2, hU3, hU4⟩ := put_good X L (putE T (nE e)) a hF2 (fun y hy => hp y (by simp [hy])) w2 (putE_sort hs hhas2) (fun y hy z hz => by
      rcases putE_mem.1 hz with rfl | hz
      · exact w1 y hy
      · exact hn y (by simp [hy]) z hz) (by rw [putE_len]; simp at hl; omega)
    refine ⟨U, ?_, hU2, by rw [hU3, putE_len]; simp; omega, fun y => ?_⟩
    · have hno : ¬ (320 < x.key.length ∨ trimB e.v = [] ∨ 1000 < (trimB e.v).length) := by
        rw [hk, List.length_map]
        rintro (h | h | h)
        · omega
        · exact h6 h
        · omega
      rw [parseGo, if_neg (by simp), hj, if_neg hno, hhas]
      simp only [Bool.false_eq_true, if_false]
      rw [if_neg (by simp at hl; omega), ← hU, hk]
      rfl
    · rw [hU4, putE_mem, List.map_cons, List.mem_cons]
      constructor
      · rintro ((h | h) | h)
        · exact .inr (.inl h)
        · exact .inl h
        · exact .inr (.inr h)
      · rintro (h | h | h)
        · exact .inl (.inr h)
        · exact .inl (.inl h)
        · exact .inr h
theorem one_parse {L : List En} (h : Own L) : ∃ U, parseP (oneT L) = (U, 0, -1) ∧ sortE U ∧ U.length = L.length ∧ ∀ x, x ∈ U ↔ x ∈ L.map nE := by
  obtain ⟨X, h1, h2⟩ := one_cut L 0 [] (-1) h.pl
  have hle := h.le
  have hlen := one_len L h.pl
  have hc : cutP (oneT L) = (X, -1) := by
    unfold cutP
    rw [idx_neg (one_ok L h.pl)]
    simpa [cutT] using h1
  obtain ⟨U, hU, hU2, hU3, hU4⟩ := put_good X L [] (-1) h2 h.pl h.pw List.Pairwise.nil (fun _ _ _ hx => by cases hx) (by simp; omega)
  refine ⟨U, ?_, hU2, by simpa using hU3, fun x => by rw [hU4]; simp⟩
  unfold parseP
  rw [if_neg (by omega), hc]
  exact hU
theorem two_parse {L : List En} (h : Own L) {more : List UInt8} (hm : more.all isBl = true) (hm0 : more ≠ []) (hml : more.length ≤ 21) : ∃ U, parseP (pre2 ++ twoT more L) = (U, 0, -1) ∧ sortE U ∧ U.length = L.length ∧ ∀ x, x ∈ U ↔ x ∈ L.map nE := by
  obtain ⟨X, h1, h2⟩ := two_cut more hm hm0 L 13 [] (-1) h.pl
  have hle := h.le
  have hlen := two_len more hml L h.pl
  have hp13 : pre2.length = 13 := rfl
  have hc : cutP (pre2 ++ twoT more L) = (X, -1) := by
    unfold cutP
    rw [idx_neg (by rw [List.all_append, two_ok more hm L h.pl]; rfl)]
    have := pre_cut (twoT more L)
    unfold cutT at this h1
    rw [this, h1]
    simp
  obtain ⟨U, hU, hU2, hU3, hU4⟩ := put_good X L [] (-1) h2 h.pl h.pw List.Pairwise.nil (fun _ _ _ hx => by cases hx) (by simp; omega)
  refine ⟨U, ?_, hU2, by simpa using hU3, fun x => by rw [hU4]; simp⟩
  unfold parseP
  rw [if_neg (by rw [List.length_append]; omega), hc]
  exact hU
theorem Own.perm {L M : List En} (h : Own L) (hp : M.Perm L) : Own M :=
  ⟨fun e he => h.pl e (hp.mem_iff.1 he), hp.symm.pairwise h.pw (fun h => Ne.symm h), by rw [hp.length_eq]; exact h.le⟩
/-- both texts are the same table -/
theorem same_tables {L M : List En} (h : Own L) (hp : M.Perm L) {more : List UInt8} (hm : more.all isBl = true) (hm0 : more ≠ []) (hml : more.length ≤ 21) :
    ∃ U, parseP (oneT L) = (U, 0, -1) ∧ parseP (pre2 ++ twoT more M) = (U, 0, -1) ∧ U.length = L.length := by
  obtain ⟨U, h1, h2, h3, h4⟩ := one_parse h
  obtain ⟨V, k1, k2, k3, k4⟩ := two_parse (h.perm hp) hm hm0 hml
  have : U = V := sortE_same h2 k2 fun x => by
    rw [h4, k4]
    exact ((hp.map nE).mem_iff).symm
  subst this
  exact ⟨U, h1, k1, h3⟩
end Go.Proofs.YtlknclkkhincfaaDoor
