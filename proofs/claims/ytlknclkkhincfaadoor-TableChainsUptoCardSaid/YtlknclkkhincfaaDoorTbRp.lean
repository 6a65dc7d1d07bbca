/-
  The walk of the document's Parse. Conditions: the size.
-/
import Derived.Test.YtlknclkkhincfaaDoorTbRn
import Derived.Test.YtlknclkkhincfaaDoorTbPar
namespace Go.Proofs.YtlknclkkhincfaaDoor
open Go.RowKit Go.Shelf
set_option linter.unusedVariables false
def refGo : List PL → List En → Option (List En)
  | [], T => some T
  | x :: r, T => if 320 < (entD x).k.length ∨ (entD x).v = [] ∨ 1000 < (entD x).v.length then none else if hasE T (entD x).k = true then none else if 2000 ≤ T.length then none else refGo r (putE T (entD x))
/-- the document's table of a text, if there is one -/
def refP (text : List UInt8) : Option (List En) :=
  if 262144 < text.length then none else if text.all okC = true then (if (dGo text.length text 0 ([], [])).2 = [] then refGo (dGo text.length text 0 ([], [])).1 [] else none) else none
theorem dStep_bads {at_ : Nat} {s : List UInt8} {o : List PL × List Nat} (h : (dStep at_ s o).2 = []) : o.2 = [] := by
  unfold dStep at h
  split at h
  · exact h
  · split at h
    · split at h
      · simp at h
      · exact h
    · exact h
theorem dGo_bads : ∀ (f : Nat) (rest : List UInt8) (at_ : Nat) (o : List PL × List Nat), (dGo f rest at_ o).2 = [] → o.2 = []
  | 0, _, _, _, h => h
  | f + 1, rest, at_, o, h => by
    rw [dGo] at h
    split at h
    · exact h
    · exact dStep_bads (dGo_bads f _ _ _ h)
theorem refP_of {text : List UInt8} {b0 bads : List Nat} {out : List PL} (hs : text.length ≤ 262144) (h0 : b0 = [] ↔ text.all okC = true) (h : dGo text.length text 0 ([], b0) = (out, bads)) : refP text = if bads = [] then refGo out [] else none := by
  unfold refP
  rw [if_neg (by omega)]
  by_cases hb : b0 = []
  · rw [if_pos (h0.1 hb)]
    subst hb
    rw [h]
  · rw [if_neg (fun q => hb (h0.2 q)), if_neg]
    intro q
    exact hb (dGo_bads text.length text 0 ([], b0) (by rw [h]; exact q))
theorem nat_cell {w : World} {gi : Option Nat} {A : Option Addr} {n c : Nat} {l : List Nat} (h : OwnX 1 w gi (.slice A n c) (natsV l)) : n = l.length ∧ n ≤ c ∧ c ≤ maxLen ∧ ∀ (j p : Nat), l[j]? = some p → ∃ b off, A = some ⟨b, off, none⟩ ∧ b < w.heap.size ∧ w.cell? ⟨b, off + j, none⟩ = some (.int .i64 (p : Int)) := by
  obtain ⟨h1, h2, h3⟩ := h.form
  rw [natsV_len, Nat.mul_one] at h1
  refine ⟨h1.symm, h2, h3, fun j p hp => ?_⟩
  have hj := (List.getElem?_eq_some_iff.1 hp).1
  obtain ⟨g, off, -, rfl, hlt, hc, -⟩ := h.at_ (by omega)
  refine ⟨g, off, rfl, hlt, ?_⟩
  rw [hc j (by rw [natsV_len]; exact hj)]
  unfold natsV
  rw [List.getElem?_map, hp]
  rfl
theorem OwnX.news {sz : Nat} {w : World} {g : Option Nat} {A : Option Addr} {n c : Nat} {xs : List Value} (h : OwnX sz w g (.slice A n c) xs) : (A = none → n = 0) ∧ ∀ ad, A = some ad → ∀ j u, xs[j]? = some u → w.cell? (ad.add j) = some u := by
  obtain ⟨h1, h2, h3⟩ := h.form
  rcases Nat.eq_zero_or_pos c with h0 | h0
  · have hn : n = 0 := by omega
    rw [hn, Nat.zero_mul] at h1
    have hx := List.eq_nil_of_length_eq_zero h1
    subst hx
    exact ⟨fun _ => hn, fun ad _ j u hu => by simp at hu⟩
  · obtain ⟨b, off, -, rfl, hlt, hc, -⟩ := h.at_ h0
    refine ⟨(fun e => by cases e), fun ad e j u hu => ?_⟩
    obtain rfl := Option.some.inj e
    rw [Addr.add_lit, hc j (List.getElem?_eq_some_iff.1 hu).1, hu]
theorem OwnX.newsTake {sz : Nat} {w : World} {g : Option Nat} {A : Option Addr} {n c : Nat} {xs : List Value} (h : OwnX sz w g (.slice A n c) xs) (k : Nat) : ∀ ad, A = some ad → ∀ j u, (xs.take k)[j]? = some u → w.cell? (ad.add j) = some u := fun ad e j u hu => by
  refine h.news.2 ad e j u ?_
  by_cases hj : j < k
  · rw [List.getElem?_take_of_lt hj] at hu; exact hu
  · rw [List.getElem?_eq_none (by rw [List.length_take]; omega)] at hu; cases hu
theorem enF_one (T : List En) : ∀ u ∈ (T.map enC).flatten, u.oneCell' = true := fun u hu => by
  obtain ⟨r, hr, hu⟩ := List.mem_flatten.1 hu
  obtain ⟨e, -, rfl⟩ := List.mem_map.1 hr
  unfold enC at hu
  simp at hu
  rcases hu with rfl | rfl <;> rfl
theorem enF_len (T : List En) : (T.map enC).flatten.length = T.length * 2 := by rw [flat_len (enC_len T), List.length_map]
theorem enF_take (T : List En) (p : Nat) : (T.map enC).flatten.take (p * 2) = ((T.take p).map enC).flatten := by rw [flat_take p (enC_len T), List.map_take]
theorem enF_drop (T : List En) (p : Nat) : (T.map enC).flatten.drop (p * 2) = ((T.drop p).map enC).flatten := by rw [flat_drop p (enC_len T), List.map_drop]
theorem enF_put (T : List En) (x : En) : ((T.take (posE T x.k)).map enC).flatten ++ [.string (bs x.k), .string (bs x.v)] ++ ((T.drop (posE T x.k)).map enC).flatten = ((putE T x).map enC).flatten := by
  unfold putE
  simp [enC]
theorem below_grown {B : Nat} {w w' : World} {g : Option Nat} (hg : w.grownBy w' g) (ho : ∀ k, g = some k → B ≤ k) (hB : B ≤ w.heap.size) : Below B w w' := belowX (Below.refl B w) hg ho hB
/-- a table whose entries lie behind it -/
def RTabI (w : World) (tb : Nat) (T : List En) : Prop :=
  ∃ v g, Blk w tb 36 #[v] ∧ OwnX 2 w g v (T.map enC).flatten ∧ ∀ k, g = some k → tb < k
theorem RTabI.tab {w : World} {tb : Nat} {T : List En} (h : RTabI w tb T) : RTab w tb T := by
  obtain ⟨v, g, h1, h2, h3⟩ := h
  exact ⟨v, g, h1, h2, fun e => by have := h3 tb e; omega⟩
theorem RTabI.below {w w' : World} {tb : Nat} {T : List En} (h : RTabI w tb T) (hb : Below w.heap.size w w') : RTabI w' tb T := by
  obtain ⟨v, g, h1, h2, h3⟩ := h
  exact ⟨v, g, h1.keep hb, h2.below hb fun k hk => h2.lt hk, h3⟩
theorem RTabI.far {w : World} {tb : Nat} {T : List En} (h : RTabI w tb T) {p : Addr} (hp : p.block < tb) (u : Value) : RTabI (w.setCell p u) tb T := by
  obtain ⟨v, g, h1, h2, h3⟩ := h
  exact ⟨v, g, h1.far (fun e => by omega) u, h2.same (by simp) fun k hk => Below.heap_setCell w p u k (fun e => by have := h3 k hk; omega), h3⟩
def RPPost (w : World) (R : Option (List En)) (e : Ending) (w' : World) : Prop :=
  Below w.heap.size w w' ∧ ((∃ T tb, R = some T ∧ e = .returned (.tuple #[.pointer (some ⟨tb, 0, none⟩), .agg #[.int .i64 0, .int .i64 0]]) ∧ RTabI w' tb T ∧ sortE T ∧ T.length ≤ 2000 ∧ w.heap.size ≤ tb) ∨ (∃ c a : Int, R = none ∧ e = .returned (.tuple #[.pointer none, .agg #[.int .i64 c, .int .i64 a]])))
def NoG (B : Nat) (g : Option Nat) : Prop := ∀ k, g = some k → B ≤ k
set_option maxRecDepth 100000 in
set_option maxHeartbeats 4000000 in
theorem rparse_walk (text : List UInt8) (w : World) (hs : text.length ≤ 9223372036854775807) : Calls Tryd.prog 7 #[.string (bs text)] w (RPPost w (refP text)) := by
  have hsz := bs_size text
  have F0 := Blk.new w 27 #[.int .i64 0, .int .i64 0]
  have HB0 := Lib.hid ((Below.refl w.heap.size w).alloc (Nat.le_refl _) (.cells #[.int .i64 0, .int .i64 0] 27))
  have c0 := F0.cell 0
  have c1 := F0.cell 1
  have f0 := F0.frozen 0
  have f1 := F0.frozen 1
  by_cases hbig : 262144 < text.length
  · have hb1 : (262144 : Int) < (text.length : Int) := by omega
    have HE : Hid (refP text = none) := Lib.hid (by unfold refP; rw [if_pos hbig])
    have HF := Lib.hid F0
    clear hbig
    go_enter Tryd.func7, Tryd.ntmps7
    go_wp2_with fail
    have HWf := Lib.hid (Blk.new w 27 #[.int .i64 60, .int .i64 262144])
    have z0 := HWf.out.cell 0
    have z1 := HWf.out.cell 1
    refine bodyPost_ret (v := .tuple #[.pointer none, .agg #[.int .i64 60, .int .i64 262144]]) ?_ rfl ?_
    · rw [results_tmp_cell rfl]; go_simp
    · exact ⟨(Below.refl w.heap.size w).alloc (Nat.le_refl _) _, .inr ⟨_, _, HE.out, rfl⟩⟩
  · have hb1 : ¬ (262144 : Int) < (text.length : Int) := by omega
    have hs2 : text.length ≤ 262144 := by omega
    have KL := Lib.hid (lines_walk text (w.alloc (.cells #[.int .i64 0, .int .i64 0] 27)) hs2)
    have HF := Lib.hid F0
    obtain ⟨R, hR⟩ : ∃ R, refP text = R := ⟨_, rfl⟩
    have HRP := Lib.hid hR
    rw [hR]
    clear hR hbig F0
    go_enter Tryd.func7, Tryd.ntmps7
    go_wp2_with fail
    refine KL.out.mono ?_
    rintro e w1 ⟨own, vo, vb, b0, out, bads, h1, h2, h3, h4, rfl, h5, h6, h7, h8, h9⟩
    have hbb := h5.size
    obtain ⟨Ao, co, rfl, hco, hcm⟩ := h3.1.len
    obtain ⟨gb, hXb, hmb⟩ := h3.2
    obtain ⟨Ab, nb, cb, rfl, -⟩ := hXb.sl
    obtain ⟨eb, hcb, hcbm, hbc⟩ := nat_cell hXb
    unfold maxLen at hcm hcbm
    have HBC := Lib.hid hbc
    have HRR : Hid ((if bads = [] then refGo out [] else none) = R) := Lib.hid ((refP_of hs2 h1 h2).symm.trans HRP.out)
    have HL := Lib.hid (LnSt.of h3.1 h4)
    have HB1 := Lib.hid (HB0.out.trans (h5.mono HB0.out.size))
    have HF1 := Lib.hid (HF.out.keep h5)
    have H6 := Lib.hid h6
    have H9 := Lib.hid h9
    have hw1 := Lib.hid (show w.heap.size < w1.heap.size by have := h5.size; simp at this; omega)
    clear h1 h2 h3 h4 h5 h6 h9 hXb hmb hbc HRP HF HB0 c0 c1 f0 f1 KL b0 hbb
    go_wp2_with fail
    go_loopg [6, 7, 8] nb (fun k s6 s7 s8 wr => ∃ (j a : Nat) (c : Int), s6 = .int .i64 (a : Int) ∧ s7 = .int .i64 c ∧ s8 = .int .i64 (j : Int) ∧ j + k = nb ∧ w1 = wr ∧ Hid ((j = 0 ∧ a = text.length + 1 ∧ c = 0) ∨ (0 < j ∧ a ≤ text.length ∧ c = 61)))
    case atStart => exact ⟨0, text.length + 1, 0, by go_num, rfl, rfl, by omega, rfl, Lib.hid (.inl ⟨rfl, rfl, rfl⟩)⟩
    case round =>
      obtain ⟨j, a, c, rfl, rfl, rfl, hjk, rfl, HJ⟩ := hrel
      by_cases hlt : j < nb
      · have hlt1 : (j : Int) < (nb : Int) := by omega
        obtain ⟨b, hb⟩ : ∃ b, bads[j]? = some b := ⟨_, List.getElem?_eq_getElem (by omega)⟩
        obtain ⟨bb, off, rfl, hbl, kc⟩ := HBC.out j b hb
        have hbt := H6.out b (List.mem_of_getElem? hb)
        clear hb
        by_cases hba : b < a
        · have hba1 : (b : Int) < (a : Int) := by omega
          go_wp2_with fail
          go_roundg (gk - 1)
          case rel => exact ⟨j + 1, b, 61, rfl, rfl, by go_num, by omega, rfl, Lib.hid (.inr ⟨by omega, by omega, rfl⟩)⟩
          case measure => omega
        · have hba1 : ¬ (b : Int) < (a : Int) := by omega
          have HJ2 : Hid ((j + 1 = 0 ∧ a = text.length + 1 ∧ c = 0) ∨ (0 < j + 1 ∧ a ≤ text.length ∧ c = 61)) := Lib.hid (by
            rcases HJ.out with ⟨h1, h2, h3⟩ | ⟨h1, h2, h3⟩
            · omega
            · exact .inr ⟨by omega, h2, h3⟩)
          go_wp2_with fail
          go_roundg (gk - 1)
          case rel => exact ⟨j + 1, a, c, rfl, rfl, by go_num, by omega, rfl, HJ2⟩
          case measure => omega
      · have hlt1 : ¬ (j : Int) < (nb : Int) := by omega
        have HG0 : Hid ((c = 0 ∧ a = text.length + 1 ∧ refGo (out.drop 0) [] = R) ∨ (c ≠ 0 ∧ R = none)) := Lib.hid (by
          have hR := HRR.out
          rcases HJ.out with ⟨h1, h2, h3⟩ | ⟨h1, h2, h3⟩
          · have hz : bads = [] := List.eq_nil_of_length_eq_zero (by omega)
            rw [if_pos hz] at hR
            exact .inl ⟨h3, h2, hR⟩
          · have hz : bads ≠ [] := fun q => by rw [q] at eb; simp at eb; omega
            rw [if_neg hz] at hR
            exact .inr ⟨by rw [h3]; decide, hR.symm⟩)
        have ha : a ≤ text.length + 1 := by rcases HJ.out with ⟨h1, h2, h3⟩ | ⟨h1, h2, h3⟩ <;> omega
        clear HJ HRR HBC H6
        have HT0 := Lib.hid (show RTabI (w1.alloc (.cells #[.slice none 0 0] 36)) w1.heap.size [] from ⟨_, none, Blk.new w1 36 #[.slice none 0 0], OwnX.nil _ none, fun k h => by cases h⟩)
        have HS0 := Lib.hid (Safe.of_below (S := fun k => k < w1.heap.size) ((Below.refl w1.heap.size w1).alloc (Nat.le_refl _) (.cells #[.slice none 0 0] 36)) (fun k hk => hk))
        have HSO0 : Hid (sortE [] ∧ ([] : List En).length ≤ 2000) := Lib.hid ⟨List.Pairwise.nil, by simp⟩
        go_wp2_with fail
        clear hlt1 hjk hlt
        go_loopg [6, 7, 10] out.length (fun k s6 s7 s10 wr => ∃ (i a : Nat) (c : Int) (T : List En), s6 = .int .i64 (a : Int) ∧ s7 = .int .i64 c ∧ s10 = .int .i64 (i : Int) ∧ i + k = out.length ∧ a ≤ text.length + 1 ∧ Hid (Safe (fun k => k < w1.heap.size) w1 wr) ∧ Hid (RTabI wr w1.heap.size T) ∧ Hid (sortE T ∧ T.length ≤ 2000) ∧ Hid ((c = 0 ∧ a = text.length + 1 ∧ refGo (out.drop i) T = R) ∨ (c ≠ 0 ∧ R = none)))
        case atStart => exact ⟨0, a, c, [], rfl, rfl, rfl, by omega, ha, HS0, HT0, HSO0, HG0⟩
        case round =>
          clear HG0 HT0 HS0 HSO0 ha
          obtain ⟨i, a, c, T, rfl, rfl, rfl, hik, ha, HS, HT, HSO, HG⟩ := hrel
          by_cases hlt : i < out.length
          · have hlt1 : (i : Int) < (out.length : Int) := by omega
            obtain ⟨x, hx⟩ : ∃ x, out[i]? = some x := ⟨_, List.getElem?_eq_getElem hlt⟩
            have hdr : out.drop i = x :: out.drop (i + 1) := by
              obtain ⟨q1, q2⟩ := List.getElem?_eq_some_iff.1 hx
              rw [List.drop_eq_getElem_cons q1, q2]
            obtain ⟨xb1, xb2, xb3, xb4⟩ := H9.out x (List.mem_of_getElem? hx)
            have hLr := HL.out.safe HS.out (fun k _ hk => hk)
            obtain ⟨gb, off, Ap, np, cp, gi, rfl, k0, k1, k2, hxo⟩ := hLr.at_ hx
            by_cases hat : x.at_ < a
            · have hat1 : (x.at_ : Int) < (a : Int) := by omega
              have K16 := Lib.hid (rentry_walk x wr Ap np cp gi hxo (by omega) (fun p hp => by have := xb4 p hp; omega) xb2)
              have HG2 : Hid ((c = 0 ∧ a = text.length + 1 ∧ refGo (x :: out.drop (i + 1)) T = R) ∨ (c ≠ 0 ∧ R = none)) := Lib.hid (by rw [← hdr]; exact HG.out)
              have HLR := Lib.hid hLr
              have hgb := World.block_lt_of_cell? _ _ k0
              obtain ⟨y, hy⟩ : ∃ y, entD x = y := ⟨_, rfl⟩
              have HGO : Hid (∀ r U, refGo (x :: r) U = if 320 < y.k.length ∨ y.v = [] ∨ 1000 < y.v.length then none else if hasE U y.k = true then none else if 2000 ≤ U.length then none else refGo r (putE U y)) := Lib.hid (fun r U => by rw [← hy]; rfl)
              rw [hy] at K16
              obtain ⟨ky, vy⟩ := y
              simp only [] at K16 HGO
              clear hx hdr hLr hxo HG xb2 xb3 xb4 hy
              go_wp2_with fail
              refine K16.out.mono ?_
              rintro e w5 ⟨hb5, rfl⟩
              have HS5 := Lib.hid (HS.out.below hb5 (fun k hk => by have := HS.out.size; omega))
              have HT5 := Lib.hid (HT.out.below hb5)
              have k0' := (hb5.cell (p := ⟨gb, off + i * 3, none⟩) hgb).trans k0
              clear K16 hb5 k0 k1 k2 HS HT
              go_upto_region 17 with fail
              have HS8 := Lib.hid (HS5.out.below ((Below.refl w5.heap.size w5).alloc (Nat.le_refl _) (.cells #[.string (bs ky), .string (bs vy)] 40)) (fun k hk => by have := HS5.out.size; omega))
              have HT8 := Lib.hid (HT5.out.below ((Below.refl w5.heap.size w5).alloc (Nat.le_refl _) (.cells #[.string (bs ky), .string (bs vy)] 40)))
              have HX8 := Lib.hid (Blk.new w5 40 #[.string (bs ky), .string (bs vy)])
              have k8 := (((Below.refl w5.heap.size w5).alloc (Nat.le_refl _) (.cells #[.string (bs ky), .string (bs vy)] 40)).cell (p := ⟨gb, off + i * 3, none⟩) (World.block_lt_of_cell? _ _ k0')).trans k0'
              have hs5 := HS5.out.size
              have hxb : w1.heap.size ≤ w5.heap.size := hs5
              generalize w5.alloc (.cells #[.string (bs ky), .string (bs vy)] 40) = w8 at *
              have x0 := HX8.out.cell 0
              have x1 := HX8.out.cell 1
              have K17 := Lib.hid (rplace_walk w8 w1.heap.size T ky HT8.out.tab HSO.out.1 (by have := HSO.out.2; omega))
              clear k0' HS5 HT5
              go_wp2_with fail
              refine K17.out.mono ?_
              rintro e w9 ⟨⟨nq, rfl⟩, rfl⟩
              have HS9 := Lib.hid (HS8.out.drewN nq)
              have HT9 := Lib.hid (HT8.out.below (bdrewN (Below.refl _ w8) nq))
              have HX9 : Hid (Blk (w8.drewN nq) w5.heap.size 40 #[.string (bs ky), .string (bs vy)]) := Lib.hid HX8.out
              have k9 : (w8.drewN nq).cell? ⟨gb, off + i * 3, none⟩ = some (.int .i64 (x.at_ : Int)) := k8
              clear K17 HS8 HT8 HX8 k8 x0 x1
              generalize w8.drewN nq = w9 at *
              have x0 := HX9.out.cell 0
              have x1 := HX9.out.cell 1
              have hks := bs_size ky
              have hvs := bs_size vy
              by_cases c1 : 320 < ky.length
              · have d1 : (320 : Int) < (ky.length : Int) := by omega
                have HN : Hid (R = none) := Lib.hid (by
                  rcases HG2.out with ⟨_, _, h⟩ | ⟨_, h⟩
                  · rw [HGO.out] at h; rw [if_pos (.inl c1)] at h; exact h.symm
                  · exact h)
                clear HG2 HGO
                go_wp2_with fail
                go_roundg (gk - 1)
                case rel => exact ⟨i + 1, x.at_, 61, T, rfl, rfl, by go_num, by omega, by omega, HS9, HT9, HSO, Lib.hid (.inr ⟨by decide, HN.out⟩)⟩
                case measure => omega

              · have d1 : ¬ (320 : Int) < (ky.length : Int) := by omega
                by_cases c2 : vy = []
                · subst c2
                  have b1 : ((bs []).toList == []) = true := by rw [bs_nil]; rfl
                  have b2 : (bs []).toList = [] := bs_nil []
                  have HN : Hid (R = none) := Lib.hid (by
                    rcases HG2.out with ⟨_, _, h⟩ | ⟨_, h⟩
                    · rw [HGO.out] at h; rw [if_pos (.inr (.inl rfl))] at h; exact h.symm
                    · exact h)
                  clear HG2 HGO
                  go_wp2_with fail
                  go_roundg (gk - 1)
                  case rel => exact ⟨i + 1, x.at_, 61, T, rfl, rfl, by go_num, by omega, by omega, HS9, HT9, HSO, Lib.hid (.inr ⟨by decide, HN.out⟩)⟩
                  case measure => omega

                · have b1 : ((bs vy).toList == []) = false := by rw [bs_nil]; exact beq_eq_false_iff_ne.2 c2
                  have b2 : ¬ (bs vy).toList = [] := by rw [bs_nil]; exact c2
                  have b3 : (bs vy).toList.isEmpty = false := by rw [bs_nil]; cases vy with | nil => exact absurd rfl c2 | cons _ _ => rfl
                  by_cases c3 : 1000 < vy.length
                  · have d3 : (1000 : Int) < (vy.length : Int) := by omega
                    have HN : Hid (R = none) := Lib.hid (by
                      rcases HG2.out with ⟨_, _, h⟩ | ⟨_, h⟩
                      · rw [HGO.out] at h; rw [if_pos (.inr (.inr c3))] at h; exact h.symm
                      · exact h)
                    clear HG2 HGO
                    go_wp2_with fail
                    go_roundg (gk - 1)
                    case rel => exact ⟨i + 1, x.at_, 61, T, rfl, rfl, by go_num, by omega, by omega, HS9, HT9, HSO, Lib.hid (.inr ⟨by decide, HN.out⟩)⟩
                    case measure => omega

                  · have d3 : ¬ (1000 : Int) < (vy.length : Int) := by omega
                    have HGP : Hid (∀ r U, refGo (x :: r) U = if hasE U ky = true then none else if 2000 ≤ U.length then none else refGo r (putE U ⟨ky, vy⟩)) := Lib.hid (fun r U => by rw [HGO.out, if_neg (by rintro (q | q | q); exact c1 q; exact c2 q; exact c3 q)])
                    clear HGO
                    have HGO := HGP
                    clear HGP c1 c2 c3
                    by_cases hh : hasE T ky = true
                    · have HH := Lib.hid hh
                      rw [hh]
                      clear hh
                      have HN : Hid (R = none) := Lib.hid (by
                        rcases HG2.out with ⟨_, _, h⟩ | ⟨_, h⟩
                        · rw [HGO.out] at h; rw [if_pos HH.out] at h; exact h.symm
                        · exact h)
                      clear HG2 HGO
                      go_wp2_with fail
                      go_roundg (gk - 1)
                      case rel => exact ⟨i + 1, x.at_, 63, T, rfl, rfl, by go_num, by omega, by omega, HS9, HT9, HSO, Lib.hid (.inr ⟨by decide, HN.out⟩)⟩
                      case measure => omega

                    · have hh' : hasE T ky = false := by simpa using hh
                      have HGP : Hid (∀ r, refGo (x :: r) T = if 2000 ≤ T.length then none else refGo r (putE T ⟨ky, vy⟩)) := Lib.hid (fun r => by rw [HGO.out, if_neg hh])
                      have HH := Lib.hid hh'
                      rw [hh']
                      clear HGO hh hh'
                      have HGO := HGP
                      clear HGP
                      obtain ⟨htb, At, ct, t0, ht1, ht2, -⟩ := HT9.out.tab.cells
                      unfold maxLen at ht2
                      by_cases hm : 2000 ≤ T.length
                      · have hmb : (2000 : Int) ≤ (T.length : Int) := by omega
                        have HN : Hid (R = none) := Lib.hid (by
                          rcases HG2.out with ⟨_, _, h⟩ | ⟨_, h⟩
                          · rw [HGO.out] at h; rw [if_pos hm] at h; exact h.symm
                          · exact h)
                        clear HG2 HGO
                        go_wp2_with fail
                        go_roundg (gk - 1)
                        case rel => exact ⟨i + 1, x.at_, 62, T, rfl, rfl, by go_num, by omega, by omega, HS9, HT9, HSO, Lib.hid (.inr ⟨by decide, HN.out⟩)⟩
                        case measure => omega

                      · have hmb : ¬ (2000 : Int) ≤ (T.length : Int) := by omega
                        have HN2 : Hid ((c = 0 ∧ a = text.length + 1 ∧ refGo (out.drop (i + 1)) (putE T ⟨ky, vy⟩) = R) ∨ (c ≠ 0 ∧ R = none)) := Lib.hid (by
                          rcases HG2.out with ⟨q1, q2, h⟩ | h
                          · rw [HGO.out, if_neg hm] at h; exact .inl ⟨q1, q2, h⟩
                          · exact .inr h)
                        have HPS := Lib.hid (putE_sort (x := ⟨ky, vy⟩) HSO.out.1 HH.out)
                        have HPL := Lib.hid (putE_len T ⟨ky, vy⟩)
                        have HPF := Lib.hid (enF_put T ⟨ky, vy⟩)
                        obtain ⟨v0, gT, hB9, hX9, hg9⟩ := HT9.out
                        have hv0 : v0 = .slice At T.length ct := by have := (hB9.cell 0).symm.trans t0; simpa using this
                        subst hv0
                        have hpl := posE_le T ky
                        obtain ⟨p, hp⟩ : ∃ p, posE T ky = p := ⟨_, rfl⟩
                        have hp2 : posE T (En.k ⟨ky, vy⟩) = p := hp
                        rw [hp2] at HPF
                        rw [hp] at hpl
                        rw [hp]
                        have HX9a := Lib.hid hX9
                        have HB9 := Lib.hid hB9
                        have HGT := Lib.hid hg9
                        have hw9 := HS9.out.size
                        have HTK := Lib.hid (enF_take T p)
                        have HDR := Lib.hid (enF_drop T p)
                        have hfl := enF_len T
                        have htl : ((T.take p).map enC).flatten.length = p * 2 := by rw [enF_len, List.length_take]; congr 1; omega
                        have HNT := Lib.hid (hX9.newsTake (p * 2))
                        have HAN := Lib.hid hX9.news.1
                        rw [HTK.out] at HNT
                        clear hB9 hX9 hg9 hp hp2 HG2 HGO HH hm HT9
                        go_wp2_with (first
                          | (at_builtin; refine wpList_appX _ uxR (.tmp 72) (.tmp 78) rfl rfl rfl (OwnX.nil w9 none) At p ct rfl ((T.take p).map enC).flatten htl (fun h => by have := HAN.out h; omega) HNT.out (enF_one _) (by simp; omega) ?_; intro v10 g10 w10 hX10 hG10 ho10; obtain ⟨A10, n10, c10, rfl, -⟩ := hX10.sl; have h10 := below_grown hG10 (fun k h => by cases h) (Nat.le_refl w9.heap.size); have HNG10 : Hid (NoG w9.heap.size g10) := Lib.hid (fun k hk => by rcases ho10 with h | h; exact absurd (h.symm.trans hk) (by simp); have := h.symm.trans hk; injection this with this; omega); have x0' := (h10.cell (p := ⟨w5.heap.size, 0, none⟩) HX9.out.lt).trans x0; have x1' := (h10.cell (p := ⟨w5.heap.size, 1, none⟩) HX9.out.lt).trans x1; have HX10 := Lib.hid (hX10.below ((Below.refl w10.heap.size w10).alloc (Nat.le_refl _) (.cells #[.string (bs ky), .string (bs vy)] 40)) fun k hk => hX10.lt hk); have HB10 := Lib.hid (h10.alloc h10.size (.cells #[.string (bs ky), .string (bs vy)] 40)); clear hX10 hG10 ho10 h10 x0 x1)
                          | (at_builtin; refine wpList_appX _ uxR (.tmp 80) (.tmp 82) rfl rfl rfl HX10.out (some ⟨w10.heap.size, 0, none⟩) 1 1 rfl [.string (bs ky), .string (bs vy)] rfl (fun h => by cases h) (news2 w10 40 _ _) (by intro u hu; simp at hu; rcases hu with rfl | rfl <;> rfl) (by rw [List.nil_append, htl]; omega) ?_; intro v11 g11 w11 hX11 hG11 ho11; obtain ⟨A11, n11, c11, rfl, -⟩ := hX11.sl; have h11 := belowX HB10.out hG11 HNG10.out HB10.out.size; have HNG11 : Hid (NoG w9.heap.size g11) := Lib.hid (fun k hk => by rcases ho11 with h | h; exact HNG10.out k (h.symm.trans hk); have := h.symm.trans hk; injection this with this; have := HB10.out.size; omega); have t0' := (h11.cell (p := ⟨w1.heap.size, 0, none⟩) htb).trans t0; have HX11 := Lib.hid hX11; have HB11 := Lib.hid h11; obtain ⟨gq, hgq, hXt⟩ := (HX9a.out.below h11 fun k hk => HX9a.out.lt hk).tail p hpl; have HNq := Lib.hid hXt.news; rw [HDR.out] at HNq; clear hX11 hG11 ho11 h11 hgq hXt)
                          | (at_builtin; refine wpList_appX _ uxR (.tmp 85) (.tmp 91) rfl rfl rfl HX11.out (if ct = p then At else At.map fun a => a.add (p * 2)) (T.length - p) (ct - p) rfl ((T.drop p).map enC).flatten (by rw [enF_len, List.length_drop]) HNq.out.1 HNq.out.2 (enF_one _) (by rw [List.length_append, List.nil_append, htl]; have : ([Value.string (bs ky), Value.string (bs vy)] : List Value).length = 2 := rfl; omega) ?_; intro v12 g12 w12 hX12 hG12 ho12; obtain ⟨A12, n12, c12, rfl, -⟩ := hX12.sl; have h12 := belowX HB11.out hG12 HNG11.out HB11.out.size; have HNG12 : Hid (NoG w9.heap.size g12) := Lib.hid (fun k hk => by rcases ho12 with h | h; exact HNG11.out k (h.symm.trans hk); have := h.symm.trans hk; injection this with this; have := HB11.out.size; omega); have HB12 := Lib.hid (HB9.out.keep h12); have t1 := HB12.out.cell 0; have tf1 := HB12.out.frozen 0; have HX12 := Lib.hid hX12; have HBl12 := Lib.hid h12; clear hX12 hG12 ho12 h12))
                        all_goals (
                          go_roundg (gk - 1)
                          case rel =>
                            refine ⟨i + 1, a, c, putE T ⟨ky, vy⟩, rfl, rfl, by go_num, by omega, ha, Lib.hid ((HS9.out.below (HBl12.out.mono (Nat.le_refl _)) (fun k hk => by omega)).set_ (by simp) _), Lib.hid ⟨_, g12, by simpa using HB12.out.set_ 0 _, ?_, fun k hk => by have := HNG12.out k hk; omega⟩, Lib.hid ⟨HPS.out, by rw [HPL.out]; omega⟩, HN2⟩
                            rw [← HPF.out]
                            refine OwnX.same (w := w12) ?_ (by simp) fun k hk => Below.heap_setCell w12 _ _ k (fun e => by have := HNG12.out k hk; simp at e; omega)
                            simpa using HX12.out
                          case measure => omega
                        )
            · have hat1 : ¬ (x.at_ : Int) < (a : Int) := by omega
              have HZ : Hid (R = none) := Lib.hid (by
                rcases HG.out with ⟨q1, q2, h⟩ | ⟨_, h⟩
                · omega
                · exact h)
              have hc0 : (c != 0) = true := by
                rcases HG.out with ⟨q1, q2, h⟩ | ⟨h, _⟩
                · omega
                · simpa using h
              have hfw := Lib.hid (HF1.out.safe HS.out hw1.out)
              have f0 := hfw.out.cell 0
              have f1 := hfw.out.cell 1
              have g0 := hfw.out.frozen 0
              have g1 := hfw.out.frozen 1
              clear hx hdr hLr hxo HG xb2 xb3 xb4 k1 k2
              go_wp2_with fail
              have HWf := Lib.hid ((hfw.out.set_ 0 (.int .i64 c)).set_ 1 (.int .i64 (a : Int)))
              have z0 := HWf.out.cell 0
              have z1 := HWf.out.cell 1
              refine bodyPost_ret (v := .tuple #[.pointer none, .agg #[.int .i64 c, .int .i64 (a : Int)]]) ?_ rfl ?_
              · rw [results_tmp_cell rfl]; go_simp
              · exact ⟨((HB1.out.trans (HS.out.to_below (B := w.heap.size) (fun k hk => by have := hw1.out; omega))).setCell (Nat.le_refl _) _).setCell (Nat.le_refl _) _, .inr ⟨_, _, HZ.out, rfl⟩⟩
          · have hlt1 : ¬ (i : Int) < (out.length : Int) := by omega
            have hfw := Lib.hid (HF1.out.safe HS.out hw1.out)
            have f0 := hfw.out.cell 0
            have f1 := hfw.out.cell 1
            have g0 := hfw.out.frozen 0
            have g1 := hfw.out.frozen 1
            have HBw := Lib.hid (HB1.out.trans (HS.out.to_below (B := w.heap.size) (fun k hk => by have := hw1.out; omega)))
            by_cases hc : c = 0
            · subst hc
              have HZ : Hid (R = some T) := Lib.hid (by
                rcases HG.out with ⟨q1, q2, h⟩ | ⟨h, _⟩
                · rw [List.drop_of_length_le (by omega)] at h; exact h.symm
                · exact absurd rfl h)
              clear HG
              go_wp2_with fail
              have HWf := Lib.hid ((hfw.out.set_ 0 (.int .i64 0)).set_ 1 (.int .i64 0))
              have z0 := HWf.out.cell 0
              have z1 := HWf.out.cell 1
              refine bodyPost_ret (v := .tuple #[.pointer (some ⟨w1.heap.size, 0, none⟩), .agg #[.int .i64 0, .int .i64 0]]) ?_ rfl ?_
              · rw [results_tmp_cell rfl]; go_simp
              · exact ⟨(HBw.out.setCell (Nat.le_refl _) _).setCell (Nat.le_refl _) _, .inl ⟨T, _, HZ.out, rfl, (HT.out.far hw1.out _).far hw1.out _, HSO.out.1, HSO.out.2, Nat.le_of_lt hw1.out⟩⟩
            · have HZ : Hid (R = none) := Lib.hid (by
                rcases HG.out with ⟨q1, q2, h⟩ | ⟨_, h⟩
                · exact absurd q1 hc
                · exact h)
              have hc0 : (c != 0) = true := by simpa using hc
              clear HG hc
              go_wp2_with fail
              have HWf := Lib.hid ((hfw.out.set_ 0 (.int .i64 c)).set_ 1 (.int .i64 (a : Int)))
              have z0 := HWf.out.cell 0
              have z1 := HWf.out.cell 1
              refine bodyPost_ret (v := .tuple #[.pointer none, .agg #[.int .i64 c, .int .i64 (a : Int)]]) ?_ rfl ?_
              · rw [results_tmp_cell rfl]; go_simp
              · exact ⟨(HBw.out.setCell (Nat.le_refl _) _).setCell (Nat.le_refl _) _, .inr ⟨_, _, HZ.out, rfl⟩⟩
end Go.Proofs.YtlknclkkhincfaaDoor
