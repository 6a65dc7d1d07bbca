/-
  The walks of slices.DeleteFunc at tables, of Join. Conditions: the sizes.
-/
import Derived.Test.YtlknclkkhincfaaDoorTbJo
namespace Go.Proofs.YtlknclkkhincfaaDoor
open Go.RowKit Go.Shelf
set_option linter.unusedVariables false
/-- a slice's address reads as a row of tables -/
def PRow (w : World) (A : Option Addr) (K : List Nat) : Prop := K = [] ∨ ∃ b off, A = some ⟨b, off, none⟩ ∧ b < w.heap.size ∧ ∀ j x, K[j]? = some x → w.cell? ⟨b, off + j, none⟩ = some (.pointer (some ⟨x, 0, none⟩))
theorem PRow.below {w w' : World} {A : Option Addr} {K : List Nat} (h : PRow w A K) (hb : Below w.heap.size w w') : PRow w' A K := by
  rcases h with h | ⟨b, off, rfl, hlt, hc⟩
  · exact .inl h
  · exact .inr ⟨b, off, rfl, Nat.lt_of_lt_of_le hlt hb.size, fun j x hx => (hb.cell (p := ⟨b, off + j, none⟩) hlt).trans (hc j x hx)⟩
/-- the same, in a block from B on -/
def PRowB (B : Nat) (w : World) (A : Option Addr) (K : List Nat) : Prop := K = [] ∨ ∃ b off, A = some ⟨b, off, none⟩ ∧ B ≤ b ∧ b < w.heap.size ∧ ∀ j x, K[j]? = some x → w.cell? ⟨b, off + j, none⟩ = some (.pointer (some ⟨x, 0, none⟩))
theorem PRowB.row {B : Nat} {w : World} {A : Option Addr} {K : List Nat} (h : PRowB B w A K) : PRow w A K := by
  rcases h with h | ⟨b, off, h1, h2, h3, h4⟩
  · exact .inl h
  · exact .inr ⟨b, off, h1, h3, h4⟩
theorem PRowB.below {B : Nat} {w w' : World} {A : Option Addr} {K : List Nat} (h : PRowB B w A K) (hb : Below w.heap.size w w') : PRowB B w' A K := by
  rcases h with h | ⟨b, off, rfl, h2, hlt, hc⟩
  · exact .inl h
  · exact .inr ⟨b, off, rfl, h2, Nat.lt_of_lt_of_le hlt hb.size, fun j x hx => (hb.cell (p := ⟨b, off + j, none⟩) hlt).trans (hc j x hx)⟩
theorem PRowB.far {B : Nat} {w : World} {A : Option Addr} {K : List Nat} (h : PRowB B w A K) {p : Addr} (hp : p.block < B) (u : Value) : PRowB B (w.setCell p u) A K := by
  rcases h with h | ⟨b, off, rfl, h2, hlt, hc⟩
  · exact .inl h
  · refine .inr ⟨b, off, rfl, h2, by simpa using hlt, fun j x hx => ?_⟩
    rw [← hc j x hx]
    exact World.cell?_of_block (w := w) (Below.heap_setCell w p u b (fun e => by omega))
theorem OwnX.prow {B : Nat} {w : World} {g : Option Nat} {A : Option Addr} {n c : Nat} {xs : List Value} {K : List Nat} (h : OwnX 1 w g (.slice A n c) xs) (hx : xs.take K.length = psV K) (hg : FromB B g) : PRowB B w A K := by
  rcases Nat.eq_zero_or_pos K.length with h0 | h0
  · exact .inl (List.eq_nil_of_length_eq_zero h0)
  · obtain ⟨e1, e2, e3⟩ := h.form
    have hl : K.length ≤ xs.length := by
      have := congrArg List.length hx
      rw [psV_len, List.length_take] at this
      omega
    obtain ⟨b, off, hgb, rfl, hlt, hc, -⟩ := h.at_ (by omega)
    refine .inr ⟨b, off, rfl, hg b hgb, hlt, fun j x hjx => ?_⟩
    have hj := (List.getElem?_eq_some_iff.1 hjx).1
    rw [hc j (by omega)]
    have : (xs.take K.length)[j]? = xs[j]? := List.getElem?_take_of_lt hj
    rw [← this, hx]
    unfold psV
    rw [List.getElem?_map, hjx]
    rfl
structure DlI (L : List (Option Nat)) (xs : List Value) (i j : Nat) : Prop where
  len : xs.length = L.length
  tk : xs.take i = psV ((L.take j).filterMap id)
  le : ((L.take j).filterMap id).length = i
  dr : xs.drop j = (L.drop j).map ptV
  lt : i < j
theorem DlI.skip {L : List (Option Nat)} {xs : List Value} {i j : Nat} (h : DlI L xs i j) (ho : L[j]? = some none) : DlI L xs i (j + 1) :=
  ⟨h.len, by rw [keep_none ho]; exact h.tk, by rw [keep_none ho]; exact h.le, by
    have := congrArg (List.drop 1) h.dr
    rw [List.drop_drop, ← List.map_drop, List.drop_drop] at this
    exact this, by have := h.lt; omega⟩
theorem DlI.keep {L : List (Option Nat)} {xs : List Value} {i j b : Nat} (h : DlI L xs i j) (ho : L[j]? = some (some b)) : DlI L (xs.set i (ptV (some b))) (i + 1) (j + 1) := by
  have hj := (List.getElem?_eq_some_iff.1 ho).1
  have h1 := h.lt
  have h2 := h.len
  refine ⟨by rw [List.length_set]; exact h2, ?_, by rw [keep_some ho, List.length_append, h.le]; rfl, ?_, by omega⟩
  · rw [keep_some ho, List.take_succ_eq_append_getElem (by rw [List.length_set]; omega), List.take_set_of_le (Nat.le_refl _), h.tk]
    rw [List.getElem_set_self]
    unfold psV
    rw [List.map_append]
    rfl
  · rw [List.drop_set_of_lt (by omega)]
    have := congrArg (List.drop 1) h.dr
    rw [List.drop_drop, ← List.map_drop, List.drop_drop] at this
    exact this
theorem DlI.start {L : List (Option Nat)} {i : Nat} (h : L[i]? = some none) (ha : ∀ o ∈ L.take i, o ≠ none) : DlI L (L.map ptV) i (i + 1) := by
  have hi := (List.getElem?_eq_some_iff.1 h).1
  have e := psV_all (L.take i) ha
  have hl : ((L.take i).filterMap id).length = i := by
    have := congrArg List.length e
    rw [psV_len, List.length_map, List.length_take] at this
    omega
  exact ⟨List.length_map _, by rw [keep_none h, ← e, List.map_take], by rw [keep_none h]; exact hl, by rw [List.map_drop], by omega⟩
def DlPost (B : Nat) (w : World) (L : List (Option Nat)) (e : Ending) (w' : World) : Prop :=
  ∃ A c, e = .returned (.slice A (L.filterMap id).length c) ∧ (L.filterMap id).length ≤ c ∧ c ≤ maxLen ∧ PRowB B w' A (L.filterMap id) ∧ Below B w w'
set_option maxRecDepth 100000 in
set_option maxHeartbeats 1000000 in
theorem delfunc_walk (w : World) (B : Nat) (A : Option Addr) (n c : Nat) (g : Option Nat) (L : List (Option Nat)) (h : OwnX 1 w g (.slice A n c) (L.map ptV)) (hg : FromB B g) (hB : B ≤ w.heap.size) (hl : L.length ≤ 1000000) :
    Calls Tryd.prog 33 #[.slice A n c, .func (.func 35) #[] #[]] w (DlPost B w L) := by
  obtain ⟨e1, e2, e3⟩ := h.form
  rw [List.length_map, Nat.mul_one] at e1
  have hx := ixfunc_walk w A n c g L h hl
  have HIX := Lib.hid hx
  clear hx
  have HX := Lib.hid h
  have HG := Lib.hid hg
  unfold maxLen at e3
  clear h hg
  go_enter Tryd.func33, Tryd.ntmps33
  go_wp2_with fail
  refine HIX.out.mono ?_
  rintro e w2 ⟨rfl, r, rfl, hr⟩
  clear HIX
  rcases hr with ⟨rfl, hall⟩ | ⟨i0, rfl, hn0, hall⟩
  · have HE := Lib.hid (psV_all L hall)
    clear hall
    go_wp2_with fail
    go_ret
    have hlen : (L.filterMap id).length = n := by
      have := congrArg List.length HE.out
      rw [psV_len, List.length_map] at this
      omega
    refine ⟨A, c, by rw [hlen]; rfl, by omega, by unfold maxLen; omega, OwnX.prow HX.out ?_ HG.out, Below.refl _ _⟩
    rw [HE.out, ← psV_len, List.take_length]
  · have hi0 := (List.getElem?_eq_some_iff.1 hn0).1
    obtain ⟨gb, off, hgo, rfl, hlt, -⟩ := HX.out.at_ (by omega)
    subst hgo
    have hgB : B ≤ gb := HG.out gb rfl
    have HD := Lib.hid (DlI.start hn0 hall)
    have b1 : ((i0 : Int) == -1) = false := beq_eq_false_iff_ne.2 (by omega)
    have hc0 : 0 < c := by omega
    clear hn0 hall HG
    go_wp2_with fail
    clear b1
    go_loopg [5, 6] n (fun k s5 s6 wr => ∃ (i j : Nat) (xs : List Value), s5 = .int .i64 (i : Int) ∧ s6 = .int .i64 (j : Int) ∧ j + k = n + i0 + 1 ∧ i < j ∧ j ≤ n ∧ Hid (OwnX 1 wr (some gb) (.slice (some ⟨gb, off, none⟩) n c) xs) ∧ Hid (DlI L xs i j) ∧ Hid (Below B w wr))
    case atStart => exact ⟨i0, i0 + 1, _, rfl, by go_num, by omega, by omega, by omega, HX, HD, Lib.hid (Below.refl _ _)⟩
    case round =>
      clear HD HX
      obtain ⟨i, j, xs, rfl, rfl, hjk, hij, hjn, HX, HD, HB⟩ := hrel
      by_cases hlt2 : j < n
      · have hlt1 : (j : Int) < (n : Int) := by omega
        obtain ⟨o, ho⟩ : ∃ o, L[j]? = some o := ⟨_, List.getElem?_eq_getElem (by omega)⟩
        have hxl : xs.length = n := by have := HD.out.len; omega
        obtain ⟨gb', off', q1, q2, -, hcell, hroom⟩ := HX.out.at_ hc0
        obtain rfl := Option.some.inj q1
        injection q2 with q2
        injection q2 with q2 q3
        subst q3
        have kc := hcell j (by omega)
        have hxj : xs[j]? = some (ptV o) := by
          have := congrArg (fun l => l[0]?) HD.out.dr
          simp only [List.getElem?_drop, List.getElem?_map, Nat.add_zero, ho] at this
          exact this
        rw [hxj] at kc
        obtain ⟨r1, r2⟩ := hroom i (by omega)
        have HK := Lib.hid (isnil_walk o wr)
        clear hcell hroom hxj q2
        cases o with
        | none =>
          have HD2 := Lib.hid (HD.out.skip ho)
          clear HD ho r1 r2
          go_wp2_with fail
          refine HK.out.mono ?_
          rintro e w2 ⟨rfl, rfl⟩
          go_wp2_with fail
          go_roundg (gk - 1)
          case rel => exact ⟨i, j + 1, xs, rfl, by go_num, by omega, by omega, by omega, HX, HD2, HB⟩
          case measure => omega
        | some b =>
          have HD2 := Lib.hid (HD.out.keep ho)
          have kc2 : wr.cell? ⟨gb, off + j, none⟩ = some (.pointer (some ⟨b, 0, none⟩)) := kc
          clear kc
          have HX2 := Lib.hid (HX.out.set_ hc0 i (by omega) (ptV (some b)))
          have HB2 := Lib.hid (HB.out.setCell (p := ⟨gb, off + i, none⟩) hgB (ptV (some b)))
          obtain ⟨u, hu⟩ := Option.isSome_iff_exists.1 r1
          have hin : i < n := by omega
          clear HD ho r1 HX
          go_wp2_with fail
          refine HK.out.mono ?_
          rintro e w2 ⟨rfl, rfl⟩
          go_wp2_with fail
          go_roundg (gk - 1)
          case rel => exact ⟨i + 1, j + 1, _, by go_num, by go_num, by omega, by omega, by omega, HX2, HD2, HB2⟩
          case measure => omega
      · have hlt1 : ¬ (j : Int) < (n : Int) := by omega
        have hjn2 : j = n := by omega
        have hin : i < n := by omega
        have hxl : xs.length = n := by have := HD.out.len; omega
        obtain ⟨gb', off', q1, q2, hlt3, hcell, hroom⟩ := HX.out.at_ hc0
        obtain rfl := Option.some.inj q1
        injection q2 with q2
        injection q2 with q2 q3
        subst q3
        have hcl : ∀ ty, (Builtin.clear_ #[49] ty #[.slice (some ⟨gb, off + i, none⟩) (n - i) (c - i)]).run Tryd.prog wr = .ok (.tuple #[]) (wr.setCells gb (off + i) (List.replicate (n - i) (.pointer none))) :=
          fun ty => Lib.run_clear_slice wr _ _ ty (.pointer none) Tryd.underlying49 (fun w => by kernel_rfl) rfl rfl gb (off + i) _ _ (by omega) (fun t ht => by rw [show off + i + t = off + (i + t) by omega]; exact (hroom (i + t) (by omega)).1) (fun t ht => by rw [show off + i + t = off + (i + t) by omega]; exact (hroom (i + t) (by omega)).2)
        have hK : (L.filterMap id).length = i := by have := HD.out.le; rw [List.take_of_length_le (by omega)] at this; exact this
        have HPR : Hid (PRowB B wr (some ⟨gb, off, none⟩) (L.filterMap id)) := Lib.hid (OwnX.prow HX.out (by
          have := HD.out.tk
          rw [List.take_of_length_le (l := L) (by omega)] at this
          rw [hK]; exact this) (fun k hk => by obtain rfl := Option.some.inj hk; exact hgB))
        have HK := Lib.hid hK
        have HB2 := Lib.hid (below_setCells hgB (List.replicate (n - i) (.pointer none)) (off + i) wr HB.out)
        clear hcell hroom q2 hK HX
        go_wp2_with fail
        go_ret
        refine ⟨_, c, by rw [HK.out]; rfl, by rw [HK.out]; omega, by unfold maxLen; omega, ?_, HB2.out⟩
        rcases HPR.out with hp | ⟨b, o, e, hbB, hb, hc⟩
        · exact .inl hp
        · injection e with e
          injection e with e e'
          subst e e'
          refine .inr ⟨gb, off, rfl, hbB, Nat.lt_of_lt_of_le hb (keptBlk_setCells gb _ _ wr).size, fun t x hx => ?_⟩
          have ht := (List.getElem?_eq_some_iff.1 hx).1
          rw [World.cell?_setCells_out gb _ _ _ _ (fun _ _ => .inl (by show off + t < off + i; rw [HK.out] at ht; omega))]
          exact hc t x hx
/-- a chain, behind the pointer to block ch -/
def ChSt (w : World) (ch : Nat) (K : List Nat) : Prop := ∃ A c, Blk w ch 85 #[.slice A K.length c] ∧ K.length ≤ c ∧ c ≤ maxLen ∧ PRow w A K
theorem ChSt.below {w w' : World} {ch : Nat} {K : List Nat} (h : ChSt w ch K) (hb : Below w.heap.size w w') : ChSt w' ch K := by
  obtain ⟨A, c, h1, h2, h3, h4⟩ := h
  exact ⟨A, c, h1.keep hb, h2, h3, h4.below hb⟩
/-- the same, in blocks from B on -/
def ChStB (B : Nat) (w : World) (ch : Nat) (K : List Nat) : Prop := B ≤ ch ∧ ∃ A c, Blk w ch 85 #[.slice A K.length c] ∧ K.length ≤ c ∧ c ≤ maxLen ∧ PRowB B w A K
theorem ChStB.st {B : Nat} {w : World} {ch : Nat} {K : List Nat} (h : ChStB B w ch K) : ChSt w ch K := by
  obtain ⟨_, A, c, h1, h2, h3, h4⟩ := h
  exact ⟨A, c, h1, h2, h3, h4.row⟩
theorem ChStB.far {B : Nat} {w : World} {ch : Nat} {K : List Nat} (h : ChStB B w ch K) {p : Addr} (hp : p.block < B) (u : Value) : ChStB B (w.setCell p u) ch K := by
  obtain ⟨h0, A, c, h1, h2, h3, h4⟩ := h
  exact ⟨h0, A, c, h1.far (fun e => by omega) u, h2, h3, h4.far hp u⟩
set_option maxRecDepth 100000 in
theorem join_walk (w : World) (A : Option Addr) (n c : Nat) (g : Option Nat) (L : List (Option Nat)) (h : OwnX 1 w g (.slice A n c) (L.map ptV)) (hl : L.length ≤ 1000000) :
    Calls Tryd.prog 14 #[.slice A n c] w fun e w' => ∃ ch, e = .returned (.pointer (some ⟨ch, 0, none⟩)) ∧ ChStB w.heap.size w' ch (L.filterMap id) ∧ Below w.heap.size w w' := by
  have HC := Lib.hid (clone_walk w A n c g L h hl)
  have HD := Lib.hid (fun (w2 : World) (A : Option Addr) (n c : Nat) (g : Option Nat) (h : OwnX 1 w2 g (.slice A n c) (L.map ptV)) (hg : FromB w.heap.size g) (hB : w.heap.size ≤ w2.heap.size) => delfunc_walk w2 w.heap.size A n c g L h hg hB hl)
  clear h
  go_enter Tryd.func14, Tryd.ntmps14
  go_wp2_with fail
  refine HC.out.mono ?_
  rintro e w2 ⟨v, g2, rfl, hX, hF, hb2⟩
  obtain ⟨A2, n2, c2, rfl, -⟩ := hX.sl
  have HD2 := Lib.hid (HD.out w2 A2 n2 c2 g2 hX hF hb2.size)
  have HB2 := Lib.hid hb2
  clear hX hF hb2 HC HD
  go_wp2_with fail
  refine HD2.out.mono ?_
  rintro e w3 ⟨A3, c3, rfl, h1, h2, h3, hb3⟩
  have HB3 := Lib.hid (HB2.out.trans hb3)
  have HP := Lib.hid h3
  have H1 := Lib.hid h1
  have H2 := Lib.hid h2
  clear hb3 h3 HB2 HD2 h1 h2
  go_wp2_with fail
  go_ret
  exact ⟨_, rfl, ⟨HB3.out.size, A3, c3, Blk.new w3 85 #[.slice A3 (L.filterMap id).length c3], H1.out, H2.out, HP.out.below ((Below.refl w3.heap.size w3).alloc (Nat.le_refl _) _)⟩, HB3.out.alloc HB3.out.size _⟩
end Go.Proofs.YtlknclkkhincfaaDoor
