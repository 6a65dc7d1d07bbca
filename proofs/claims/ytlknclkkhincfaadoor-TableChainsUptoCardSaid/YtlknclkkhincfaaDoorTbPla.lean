/-
  The walks of the comparison, of slices.BinarySearchFunc at entries, of place. Conditions: the size.
-/
import Derived.Test.YtlknclkkhincfaaDoorTbSe
import Derived.Test.YtlknclkkhincfaaDoorTbCs
namespace Go.Proofs.YtlknclkkhincfaaDoor
open Go.RowKit Go.Shelf
set_option linter.unusedVariables false
/-! ### entries in memory -/
def enC (e : En) : List Value := [.string (bs e.k), .string (bs e.v)]
theorem enC_len (T : List En) : ∀ r ∈ T.map enC, r.length = 2 := fun r hr => by
  obtain ⟨e, _, rfl⟩ := List.mem_map.1 hr
  rfl
/-- a table, behind the pointer to block tb -/
def TabSt (w : World) (tb : Nat) (T : List En) : Prop :=
  ∃ v g, Blk w tb 70 #[v] ∧ OwnX 2 w g v (T.map enC).flatten ∧ g ≠ some tb
/-- entries that can be read -/
def RE (w : World) (A : Option Addr) (T : List En) : Prop :=
  T = [] ∨ ∃ b off, A = some ⟨b, off, none⟩ ∧ b < w.heap.size ∧ ∀ i e, T[i]? = some e → w.cell? ⟨b, off + i * 2, none⟩ = some (.string (bs e.k)) ∧ w.cell? ⟨b, off + i * 2 + 1, none⟩ = some (.string (bs e.v))
theorem RE.below {w w' : World} {A : Option Addr} {T : List En} (h : RE w A T) (hb : Below w.heap.size w w') : RE w' A T := by
  rcases h with h | ⟨b, off, rfl, hlt, hc⟩
  · exact .inl h
  · refine .inr ⟨b, off, rfl, Nat.lt_of_lt_of_le hlt hb.size, fun i e he => ?_⟩
    obtain ⟨h1, h2⟩ := hc i e he
    exact ⟨(hb.cell (p := ⟨b, off + i * 2, none⟩) hlt).trans h1, (hb.cell (p := ⟨b, off + i * 2 + 1, none⟩) hlt).trans h2⟩
theorem OwnX.re {w : World} {g : Option Nat} {A : Option Addr} {n c : Nat} {T : List En} (h : OwnX 2 w g (.slice A n c) (T.map enC).flatten) : n = T.length ∧ n ≤ c ∧ c ≤ maxLen ∧ RE w A T := by
  obtain ⟨h1, h2, h3⟩ := h.count (by omega) (enC_len T)
  rw [List.length_map] at h1
  refine ⟨h1, h2, h3, ?_⟩
  rcases Nat.eq_zero_or_pos T.length with h0 | h0
  · exact .inl (List.eq_nil_of_length_eq_zero h0)
  · have hx : (T.map enC)[0]? = some (enC T[0]) := by rw [List.getElem?_map, List.getElem?_eq_getElem h0]; rfl
    obtain ⟨_, _, _, _, b, off, -, rfl, hlt, -⟩ := h.elem (by omega) (enC_len T) hx
    refine .inr ⟨b, off, rfl, hlt, fun i e he => ?_⟩
    have hx : (T.map enC)[i]? = some (enC e) := by rw [List.getElem?_map, he]; rfl
    obtain ⟨_, _, _, _, b', off', -, e2, -, hcf⟩ := h.elem (by omega) (enC_len T) hx
    injection e2 with e2
    injection e2 with e3 e4
    subst e3 e4
    exact ⟨(hcf 0 (by omega)).1, (hcf 1 (by omega)).1⟩
theorem TabSt.cells {w : World} {tb : Nat} {T : List En} (h : TabSt w tb T) : tb < w.heap.size ∧ ∃ A c, w.cell? ⟨tb, 0, none⟩ = some (.slice A T.length c) ∧ T.length ≤ c ∧ c ≤ maxLen ∧ RE w A T := by
  obtain ⟨v, g, h1, h2, h3⟩ := h
  obtain ⟨A, n, c, rfl, -⟩ := h2.sl
  obtain ⟨rfl, h5, h6, h7⟩ := h2.re
  exact ⟨h1.lt, A, c, h1.cell 0, h5, h6, h7⟩
theorem TabSt.below {w w' : World} {tb : Nat} {T : List En} (h : TabSt w tb T) (hb : Below w.heap.size w w') : TabSt w' tb T := by
  obtain ⟨v, g, h1, h2, h3⟩ := h
  exact ⟨v, g, h1.keep hb, h2.below hb fun k hk => h2.lt hk, h3⟩
/-! ### the walks -/
set_option maxRecDepth 100000 in
theorem cmpe_walk (a b k : ByteArray) (w : World) : Calls Tryd.prog 54 #[.agg #[.string a, .string b], .string k] w fun e w' => Below w.heap.size w w' ∧ e = .returned (.int .i64 (Lib.compareBytes a.data.toList k.data.toList)) := by
  have HC := Lib.hid (fun w => Tryd.strings_Compare a k w)
  have HB := Lib.hid ((Below.refl w.heap.size w).alloc (Nat.le_refl _) (.cells #[.string a, .string b] 78))
  generalize Lib.compareBytes a.data.toList k.data.toList = r at *
  go_enter Tryd.func54, Tryd.ntmps54
  go_wp2_with fail
  refine (HC.out _).mono ?_
  rintro e w' ⟨rfl, rfl⟩
  go_wp2_with fail
  go_ret
  exact ⟨HB.out, rfl⟩
set_option maxRecDepth 100000 in
set_option maxHeartbeats 1000000 in
theorem bsearch_walk (w : World) (A : Option Addr) (n c : Nat) (T : List En) (key : List UInt8) (hn : n = T.length) (hr : RE w A T) (hs : sortE T) (hl : n ≤ 1000000) :
    Calls Tryd.prog 53 #[.slice A n c, .string (bs key), .func (.func 54) #[] #[]] w fun e w' => Below w.heap.size w w' ∧ e = .returned (.tuple #[.int .i64 (posE T key : Nat), .bool (hasE T key)]) := by
  have HR := Lib.hid hr
  have HS := Lib.hid hs
  have HN := Lib.hid hn
  clear hr hs hn
  go_enter Tryd.func53, Tryd.ntmps53
  go_wp2
  go_loopg [9, 10] n (fun kx s9 s10 wr => ∃ lo hi : Nat, s9 = .int .i64 lo ∧ s10 = .int .i64 hi ∧ lo ≤ hi ∧ hi ≤ n ∧ hi - lo ≤ kx ∧ Hid (Below w.heap.size w wr) ∧
    Hid ((∀ t x, t < lo → T[t]? = some x → x.k < key) ∧ (∀ t x, hi ≤ t → T[t]? = some x → ¬ x.k < key)))
  case atStart => exact ⟨0, n, rfl, rfl, Nat.zero_le _, Nat.le_refl _, by omega, Lib.hid (Below.refl _ _), Lib.hid ⟨fun t x ht => absurd ht (Nat.not_lt_zero _), fun t x h1 h2 => by have := (List.getElem?_eq_some_iff.1 h2).1; rw [← HN.out] at this; omega⟩⟩
  case round =>
    obtain ⟨lo, hi, rfl, rfl, hlh, hin, hg, HB, HI⟩ := hrel
    by_cases hlt : lo < hi
    · have hm : (lo + hi) / 2 < n := by omega
      obtain ⟨x, hx⟩ : ∃ x, T[(lo + hi) / 2]? = some x := ⟨_, List.getElem?_eq_getElem (by rw [← HN.out]; exact hm)⟩
      have hrr := HR.out.below HB.out
      rcases hrr with hrr | ⟨b, off, rfl, hbl, hcl⟩
      · rw [hrr] at hx; simp at hx
      obtain ⟨c0, c1⟩ := hcl _ x hx
      have HC := Lib.hid (cmpe_walk (bs x.k) (bs x.v) (bs key) wr)
      rw [bs_list, bs_list] at HC
      have HX := Lib.hid hx
      have hcl2 := cmpB_lt x.k key
      obtain ⟨z, hz⟩ : ∃ z, Lib.compareBytes x.k key = z := ⟨_, rfl⟩
      rw [hz] at HC hcl2
      clear hz hcl hx
      by_cases hy : z < 0
      · have HI2 : Hid ((∀ t y, t < (lo + hi) / 2 + 1 → T[t]? = some y → y.k < key) ∧ (∀ t y, hi ≤ t → T[t]? = some y → ¬ y.k < key)) := Lib.hid ⟨fun t y ht hy2 => sortE_mono HS.out (by omega) hy2 HX.out (hcl2.1 hy), HI.out.2⟩
        clear hcl2
        go_wp2_with fail
        refine HC.out.mono ?_
        rintro e w2 ⟨hb2, rfl⟩
        have HB2 := Lib.hid (HB.out.trans (hb2.mono HB.out.size))
        clear hb2
        go_wp2_with fail
        go_roundg (hi - ((lo + hi) / 2 + 1))
        case rel => exact ⟨(lo + hi) / 2 + 1, hi, by go_num, rfl, by omega, hin, Nat.le_refl _, HB2, HI2⟩
        case measure => omega
      · have HI2 : Hid ((∀ t y, t < lo → T[t]? = some y → y.k < key) ∧ (∀ t y, (lo + hi) / 2 ≤ t → T[t]? = some y → ¬ y.k < key)) := Lib.hid ⟨HI.out.1, fun t y ht hy2 hlt2 => hy (hcl2.2 (sortE_mono HS.out ht HX.out hy2 hlt2))⟩
        clear hcl2
        go_wp2_with fail
        refine HC.out.mono ?_
        rintro e w2 ⟨hb2, rfl⟩
        have HB2 := Lib.hid (HB.out.trans (hb2.mono HB.out.size))
        clear hb2
        go_wp2_with fail
        go_roundg ((lo + hi) / 2 - lo)
        case rel => exact ⟨lo, (lo + hi) / 2, rfl, by go_num, by omega, by omega, Nat.le_refl _, HB2, HI2⟩
        case measure => omega
    · obtain rfl : hi = lo := by omega
      have hp : posE T key = hi := posE_of (by rw [← HN.out]; exact hin) HI.out.1 HI.out.2
      have HP := Lib.hid hp
      clear hp
      by_cases hn : hi < n
      · obtain ⟨x, hx⟩ : ∃ x, T[hi]? = some x := ⟨_, List.getElem?_eq_getElem (by rw [← HN.out]; exact hn)⟩
        have hrr := HR.out.below HB.out
        rcases hrr with hrr | ⟨b, off, rfl, hbl, hcl⟩
        · rw [hrr] at hx; simp at hx
        obtain ⟨c0, c1⟩ := hcl _ x hx
        have HC := Lib.hid (cmpe_walk (bs x.k) (bs x.v) (bs key) wr)
        rw [bs_list, bs_list] at HC
        have hce := cmpB_eq x.k key
        have HH : Hid (hasE T key = (x.k == key)) := Lib.hid (by unfold hasE; rw [HP.out, hx])
        obtain ⟨z, hz⟩ : ∃ z, Lib.compareBytes x.k key = z := ⟨_, rfl⟩
        rw [hz] at HC hce
        clear hz hcl hx
        by_cases hy : z = 0
        · have HH2 : Hid (hasE T key = true) := Lib.hid (by rw [HH.out]; exact beq_iff_eq.2 (hce.1 hy))
          have hyb : (z == 0) = true := beq_iff_eq.2 hy
          clear hy hce HH
          go_wp2_with fail
          refine HC.out.mono ?_
          rintro e w2 ⟨hb2, rfl⟩
          have HB2 := Lib.hid (HB.out.trans (hb2.mono HB.out.size))
          clear hb2
          go_wp2_with fail
          go_ret2
          exact ⟨HB2.out, by rw [HP.out, HH2.out]; rfl⟩
        · have HH2 : Hid (hasE T key = false) := Lib.hid (by rw [HH.out]; exact beq_eq_false_iff_ne.2 (fun e => hy (hce.2 e)))
          have hyb : (z == 0) = false := beq_eq_false_iff_ne.2 hy
          clear hy hce HH
          go_wp2_with fail
          refine HC.out.mono ?_
          rintro e w2 ⟨hb2, rfl⟩
          have HB2 := Lib.hid (HB.out.trans (hb2.mono HB.out.size))
          clear hb2
          go_wp2_with fail
          go_ret2
          exact ⟨HB2.out, by rw [HP.out, HH2.out]; rfl⟩
      · have HH2 : Hid (hasE T key = false) := Lib.hid (by unfold hasE; rw [HP.out, List.getElem?_eq_none (by rw [← HN.out]; omega)])
        go_wp2_with fail
        go_ret2
        exact ⟨HB.out, by rw [HP.out, HH2.out]; rfl⟩
set_option maxRecDepth 100000 in
theorem place_walk (w : World) (tb : Nat) (T : List En) (key : List UInt8) (h : TabSt w tb T) (hs : sortE T) (hl : T.length ≤ 1000000) :
    Calls Tryd.prog 27 #[.pointer (some ⟨tb, 0, none⟩), .string (bs key)] w fun e w' => Below w.heap.size w w' ∧ e = .returned (.tuple #[.int .i64 (posE T key : Nat), .bool (hasE T key)]) := by
  obtain ⟨htb, A, c, c0, h1, h2, h3⟩ := h.cells
  have HK := Lib.hid (bsearch_walk w A T.length c T key rfl h3 hs hl)
  clear h h3 hs hl
  generalize T.length = n at *
  generalize posE T key = p at *
  generalize hasE T key = q at *
  go_enter Tryd.func27, Tryd.ntmps27
  go_wp2_with fail
  refine HK.out.mono ?_
  rintro e w2 ⟨hb2, rfl⟩
  go_wp2_with fail
  go_ret2
  exact ⟨hb2, rfl⟩
end Go.Proofs.YtlknclkkhincfaaDoor
