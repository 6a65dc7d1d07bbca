/-
  The walks of the document's Value, place. Conditions: the sizes.
-/
import Derived.Test.YtlknclkkhincfaaDoorTbRl
import Derived.Test.YtlknclkkhincfaaDoorTbPla
import Derived.Sort.Walk0
namespace Go.Proofs.YtlknclkkhincfaaDoor
open Go.RowKit Go.Shelf
set_option linter.unusedVariables false
def valGo : List UInt8 → List (List UInt8) → List UInt8
  | s, [] => s
  | s, p :: r => valGo ((if s = [] then s else s ++ [32]) ++ p) r
theorem str_cell {w : World} {gi : Option Nat} {A : Option Addr} {n c : Nat} {ps : List (List UInt8)} (h : OwnX 1 w gi (.slice A n c) (strsV ps)) : n = ps.length ∧ n ≤ c ∧ c ≤ maxLen ∧ ∀ j p, ps[j]? = some p → ∃ b off, A = some ⟨b, off, none⟩ ∧ b < w.heap.size ∧ w.cell? ⟨b, off + j, none⟩ = some (.string (bs p)) := by
  obtain ⟨h1, h2, h3⟩ := h.form
  unfold strsV at h1
  rw [List.length_map, Nat.mul_one] at h1
  refine ⟨h1.symm, h2, h3, fun j p hp => ?_⟩
  have hj := (List.getElem?_eq_some_iff.1 hp).1
  obtain ⟨g, off, -, rfl, hlt, hc, -⟩ := h.at_ (by omega)
  refine ⟨g, off, rfl, hlt, ?_⟩
  rw [hc j (by unfold strsV; rw [List.length_map]; exact hj)]
  unfold strsV
  rw [List.getElem?_map, hp]
  rfl
set_option maxRecDepth 100000 in
theorem value_walk (l : List UInt8) (ps : List (List UInt8)) (w : World) (A : Option Addr) (n c : Nat) (gi : Option Nat) (h : OwnX 1 w gi (.slice A n c) (strsV ps)) (hl : l.length ≤ 262144) (hp : ∀ p ∈ ps, p.length ≤ 262144) (hn : ps.length ≤ 262145) :
    Calls Tryd.prog 32 #[.string (bs l), .slice A n c] w fun e w' => w = w' ∧ e = .returned (.string (bs (valGo (trimB l) ps))) := by
  obtain ⟨e1, e2, e3, hc⟩ := str_cell h
  have HT := Lib.hid (rtrim_walk l w (by omega))
  have htl := trimB_len l
  obtain ⟨R, hR⟩ : ∃ R, valGo (trimB l) ps = R := ⟨_, rfl⟩
  rw [hR]
  have HR : Hid (valGo (trimB l) (ps.drop 0) = R) := Lib.hid (by rw [List.drop_zero]; exact hR)
  generalize trimB l = t at *
  have HC := Lib.hid hc
  have HP := Lib.hid hp
  unfold maxLen at e3
  clear h hc hp hR
  go_enter Tryd.func32, Tryd.ntmps32
  go_wp2_with fail
  refine HT.out.mono ?_
  rintro e w1 ⟨rfl, rfl⟩
  clear HT
  go_wp2_with fail
  go_loopg [5, 6] n (fun k s5 s6 wr => ∃ (j : Nat) (s : List UInt8), s5 = .string (bs s) ∧ s6 = .int .i64 (j : Int) ∧ j + k = n ∧ w = wr ∧ s.length ≤ 262144 + j * 262145 ∧ Hid (valGo s (ps.drop j) = R))
  case atStart => exact ⟨0, t, rfl, rfl, by omega, rfl, by omega, HR⟩
  case round =>
    clear HR
    obtain ⟨j, s, rfl, rfl, hk, rfl, hsl, HR⟩ := hrel
    by_cases hlt : j < n
    · have hlt1 : (j : Int) < (n : Int) := by omega
      obtain ⟨p, hpj⟩ : ∃ p, ps[j]? = some p := ⟨_, List.getElem?_eq_getElem (by omega)⟩
      obtain ⟨b, off, rfl, hb, kc⟩ := HC.out j p hpj
      have hpl := HP.out p (List.mem_of_getElem? hpj)
      have hps := bs_size p
      have hss := bs_size s
      have hdr : ps.drop j = p :: ps.drop (j + 1) := by
        obtain ⟨h1, h2⟩ := List.getElem?_eq_some_iff.1 hpj
        rw [List.drop_eq_getElem_cons h1, h2]
      have HR2 : Hid (valGo ((if s = [] then s else s ++ [32]) ++ p) (ps.drop (j + 1)) = R) := Lib.hid (by have := HR.out; rw [hdr] at this; exact this)
      clear HR hdr hpj
      by_cases hs0 : s = []
      · subst hs0
        have hn0 : (bs []).toList = [] := bs_nil []
        have e4 : bs [] ++ bs p = bs p := by rw [bs_app]; rfl
        have HE4 := Lib.hid e4
        clear e4
        go_wp2_with fail
        go_roundg (gk - 1)
        case rel => exact ⟨j + 1, p, by rw [HE4.out], by go_num, by omega, rfl, by omega, HR2⟩
        case measure => omega
      · have hbe : ((bs s).toList == []) = false := by rw [bs_nil]; exact beq_eq_false_iff_ne.2 hs0
        have hbe2 : (bs s).toList.isEmpty = false := by rw [bs_nil]; cases s with | nil => exact absurd rfl hs0 | cons _ _ => rfl
        have hbn : ¬ (bs s).toList = [] := by rw [bs_nil]; exact hs0
        have HE4 : Hid (bs s ++ ⟨#[32]⟩ ++ bs p = bs (s ++ [32] ++ p)) := Lib.hid (by
          have : (⟨#[32]⟩ : ByteArray) = bs [32] := rfl
          rw [this, bs_app, bs_app])
        rw [if_neg hs0] at HR2
        clear hs0
        go_wp2_with fail
        go_roundg (gk - 1)
        case rel => exact ⟨j + 1, s ++ [32] ++ p, by rw [HE4.out], by go_num, by omega, rfl, by simp; omega, HR2⟩
        case measure => omega
    · have hlt1 : ¬ (j : Int) < (n : Int) := by omega
      have HE : Hid (s = R) := Lib.hid (by have := HR.out; rw [List.drop_of_length_le (by omega)] at this; exact this)
      clear HR
      go_wp2_with fail
      go_ret
      exact ⟨rfl, by rw [HE.out]; rfl⟩
/-! ### the document's table -/
def RTab (w : World) (tb : Nat) (T : List En) : Prop :=
  ∃ v g, Blk w tb 36 #[v] ∧ OwnX 2 w g v (T.map enC).flatten ∧ g ≠ some tb
theorem RTab.cells {w : World} {tb : Nat} {T : List En} (h : RTab w tb T) : tb < w.heap.size ∧ ∃ A c, w.cell? ⟨tb, 0, none⟩ = some (.slice A T.length c) ∧ T.length ≤ c ∧ c ≤ maxLen ∧ RE w A T := by
  obtain ⟨v, g, h1, h2, h3⟩ := h
  obtain ⟨A, n, c, rfl, -⟩ := h2.sl
  obtain ⟨rfl, h5, h6, h7⟩ := h2.re
  exact ⟨h1.lt, A, c, h1.cell 0, h5, h6, h7⟩
theorem RTab.below {w w' : World} {tb : Nat} {T : List En} (h : RTab w tb T) (hb : Below w.heap.size w w') : RTab w' tb T := by
  obtain ⟨v, g, h1, h2, h3⟩ := h
  exact ⟨v, g, h1.keep hb, h2.below hb fun k hk => h2.lt hk, h3⟩
theorem bs_lt (a b : List UInt8) : Op.bytesLess (bs a).toList (bs b).toList = decide (a < b) := by rw [bytesLess_eq, bs_nil, bs_nil]
set_option maxRecDepth 100000 in
theorem rplace_walk (w : World) (tb : Nat) (T : List En) (key : List UInt8) (h : RTab w tb T) (hs : sortE T) (hl : T.length ≤ 1000000) :
    Calls Tryd.prog 24 #[.pointer (some ⟨tb, 0, none⟩), .string (bs key)] w fun e w' => (∃ n, w' = w.drewN n) ∧ e = .returned (.tuple #[.int .i64 (posE T key : Nat), .bool (hasE T key)]) := by
  obtain ⟨htb, A, c, c0, h1, h2, h3⟩ := h.cells
  have HR := Lib.hid h3
  have HS := Lib.hid hs
  obtain ⟨n, hn⟩ : ∃ n, T.length = n := ⟨_, rfl⟩
  rw [hn] at c0 h1 hl
  have HN := Lib.hid hn
  unfold maxLen at h2
  clear h h3 hs hn
  go_enter Tryd.func24, Tryd.ntmps24
  go_wp2_with fail
  go_loopg [6, 7] n (fun kx s6 s7 wr => ∃ lo hi : Nat, w = wr ∧ s6 = .int .i64 lo ∧ s7 = .int .i64 hi ∧ lo ≤ hi ∧ hi ≤ n ∧ hi - lo ≤ kx ∧
    Hid ((∀ t x, t < lo → T[t]? = some x → x.k < key) ∧ (∀ t x, hi ≤ t → T[t]? = some x → ¬ x.k < key)))
  case atStart => exact ⟨0, n, rfl, rfl, rfl, Nat.zero_le _, Nat.le_refl _, by omega, Lib.hid ⟨fun t x ht => absurd ht (Nat.not_lt_zero _), fun t x h1 h2 => by have := (List.getElem?_eq_some_iff.1 h2).1; rw [HN.out] at this; omega⟩⟩
  case round =>
    obtain ⟨lo, hi, rfl, rfl, rfl, hlh, hin, hg, HI⟩ := hrel
    by_cases hlt : lo < hi
    · have hlt1 : (lo : Int) < (hi : Int) := by omega
      have hm : (lo + hi) / 2 < n := by omega
      obtain ⟨x, hx⟩ : ∃ x, T[(lo + hi) / 2]? = some x := ⟨_, List.getElem?_eq_getElem (by rw [HN.out]; exact hm)⟩
      rcases HR.out with hrr | ⟨b, off, rfl, hbl, hcl⟩
      · rw [hrr] at hx; simp at hx
      obtain ⟨k0, k1⟩ := hcl _ x hx
      have HX := Lib.hid hx
      have hbs := bs_lt x.k key
      clear hcl hx
      by_cases hy : x.k < key
      · have HI2 : Hid ((∀ t y, t < (lo + hi) / 2 + 1 → T[t]? = some y → y.k < key) ∧ (∀ t y, hi ≤ t → T[t]? = some y → ¬ y.k < key)) := Lib.hid ⟨fun t y ht hy2 => sortE_mono HS.out (by omega) hy2 HX.out hy, HI.out.2⟩
        rw [decide_eq_true hy] at hbs
        clear hy
        go_wp2_with fail
        go_roundg (hi - ((lo + hi) / 2 + 1))
        case rel => exact ⟨(lo + hi) / 2 + 1, hi, rfl, by go_num, rfl, by omega, hin, Nat.le_refl _, HI2⟩
        case measure => omega
      · have HI2 : Hid ((∀ t y, t < lo → T[t]? = some y → y.k < key) ∧ (∀ t y, (lo + hi) / 2 ≤ t → T[t]? = some y → ¬ y.k < key)) := Lib.hid ⟨HI.out.1, fun t y ht hy2 hlt2 => hy (sortE_mono HS.out ht HX.out hy2 hlt2)⟩
        rw [decide_eq_false hy] at hbs
        clear hy
        go_wp2_with fail
        go_roundg ((lo + hi) / 2 - lo)
        case rel => exact ⟨lo, (lo + hi) / 2, rfl, rfl, by go_num, by omega, by omega, Nat.le_refl _, HI2⟩
        case measure => omega
    · obtain rfl : hi = lo := by omega
      have hlt1 : ¬ (hi : Int) < (hi : Int) := by omega
      have hp : posE T key = hi := posE_of (by rw [HN.out]; exact hin) HI.out.1 HI.out.2
      have HP := Lib.hid hp
      clear hp
      by_cases hn : hi < n
      · have hn1 : decide ((hi : Int) < (n : Int)) = true := decide_eq_true (by omega)
        obtain ⟨x, hx⟩ : ∃ x, T[hi]? = some x := ⟨_, List.getElem?_eq_getElem (by rw [HN.out]; exact hn)⟩
        rcases HR.out with hrr | ⟨b, off, rfl, hbl, hcl⟩
        · rw [hrr] at hx; simp at hx
        obtain ⟨k0, k1⟩ := hcl _ x hx
        have HH : Hid (hasE T key = (x.k == key)) := Lib.hid (by unfold hasE; rw [HP.out, hx])
        have HQ : Hid (((bs x.k).toList == (bs key).toList) = (x.k == key)) := Lib.hid (by rw [bs_nil, bs_nil])
        clear hcl hx
        go_wp2_with fail
        go_quiet (fail)
        go_wp2_with fail
        go_ret2
        exact ⟨⟨_, rfl⟩, by rw [HP.out, HH.out, ← HQ.out]; rfl⟩
      · have hn1 : decide ((hi : Int) < (n : Int)) = false := decide_eq_false (by omega)
        have HH2 : Hid (hasE T key = false) := Lib.hid (by unfold hasE; rw [HP.out, List.getElem?_eq_none (by rw [HN.out]; omega)])
        go_wp2_with fail
        go_quiet (fail)
        go_wp2_with fail
        go_ret2
        exact ⟨⟨_, rfl⟩, by rw [HP.out, HH2.out]; rfl⟩
end Go.Proofs.YtlknclkkhincfaaDoor
