/-
  The walks of a chain's closures, of ask at each, of Exact, Address, Domain (printed by gen_ch.py). Conditions: the sizes; the tables.
-/
import Derived.Test.YtlknclkkhincfaaDoorTbJn
namespace Go.Proofs.YtlknclkkhincfaaDoor
open Go.RowKit Go.Shelf
set_option linter.unusedVariables false
def askP (q : List En → List UInt8 × Bool) : List (List En) → List UInt8 × Bool
  | [] => ([], false)
  | T :: r => if (q T).2 = true then q T else askP q r
def StrB (w : World) (b : Nat) (l : List UInt8) : Prop := Blk w b 9 #[.string (bs l)]
theorem StrB.below {w w' : World} {b : Nat} {l : List UInt8} (h : StrB w b l) (hb : Below w.heap.size w w') : StrB w' b l := Blk.keep h hb
structure Tabs2 (w : World) (ch : Nat) (KT : List (Nat × List En)) : Prop where
  ch : ChSt w ch (KT.map (·.1))
  ok : ∀ p ∈ KT, TabOk w p.1 p.2
theorem Tabs2.below {w w' : World} {ch : Nat} {KT : List (Nat × List En)} (h : Tabs2 w ch KT) (hb : Below w.heap.size w w') : Tabs2 w' ch KT := ⟨h.ch.below hb, fun p hp => (h.ok p hp).below hb⟩
theorem clo_ex (w : World) (tb : Nat) (T : List En) (h : TabOk w tb T) (k0 : Nat) (key : List UInt8) (hk0 : StrB w k0 key) (hl0 : key.length ≤ 2000000) (hT : TabsT w.heap.size w) :
    Calls Tryd.prog 37 #[.pointer (some ⟨tb, 0, none⟩), .pointer (some ⟨k0, 0, none⟩)] w fun e w' => Below w.heap.size w w' ∧ e = .returned (.tuple #[.string (bs (exP T key).1), .bool (exP T key).2]) := by
  have HK := Lib.hid (exact_walk w tb T h (bs key) key rfl (by omega) hT)
  have c0 : w.cell? ⟨k0, 0, none⟩ = some (.string (bs key)) := Blk.cell hk0 0
  clear h hT hk0
  generalize exP T key = r at *
  go_enter Tryd.func37, Tryd.ntmps37
  go_wp2_with fail
  refine HK.out.mono ?_
  rintro e w2 ⟨hb2, rfl⟩
  have HB2 := Lib.hid hb2
  clear hb2
  go_wp2_with fail
  go_ret2
  exact ⟨HB2.out, rfl⟩
set_option maxRecDepth 100000 in
theorem ask_ex (w : World) (ch : Nat) (KT : List (Nat × List En)) (h : Tabs2 w ch KT) (hn : KT.length ≤ 1000) (k0 : Nat) (key : List UInt8) (hk0 : StrB w k0 key) (hl0 : key.length ≤ 2000000) (hT : TabsT w.heap.size w) :
    Calls Tryd.prog 36 #[.pointer (some ⟨ch, 0, none⟩), .func (.func 37) #[] #[.pointer (some ⟨k0, 0, none⟩)]] w fun e w' => Below w.heap.size w w' ∧ e = .returned (.tuple #[.string (bs (askP (fun T => exP T key) (KT.map (·.2))).1), .bool (askP (fun T => exP T key) (KT.map (·.2))).2]) := by
  obtain ⟨A, c, hch, hc1, hc2, hp⟩ := h.ch
  rw [List.length_map] at hch hc1
  have HO := Lib.hid (fun (w2 : World) (hb : Below w.heap.size w w2) (tb : Nat) (T : List En) (hm : (tb, T) ∈ KT) => clo_ex w2 tb T ((h.ok _ hm).below hb) k0 key (hk0.below hb) hl0 (tabsT_below hT hb))
  have HP := Lib.hid (fun (w2 : World) (hb : Below w.heap.size w w2) => hp.below hb)
  have c0 := hch.cell 0
  obtain ⟨R, hR⟩ : ∃ R, askP (fun T => exP T key) (KT.map (·.2)) = R := ⟨_, rfl⟩
  have HR : Hid (askP (fun T => exP T key) ((KT.drop 0).map (·.2)) = R) := Lib.hid hR
  rw [hR]
  unfold maxLen at hc2
  clear h hch hp hT hk0 hR
  go_enter Tryd.func36, Tryd.ntmps36
  go_wp2_with fail
  go_loopg [15] KT.length (fun k s15 wr => ∃ j : Nat, s15 = .int .i64 (j : Int) ∧ j + k = KT.length ∧ Hid (Below w.heap.size w wr) ∧ Hid (askP (fun T => exP T key) ((KT.drop j).map (·.2)) = R))
  case atStart => exact ⟨0, rfl, by omega, Lib.hid (Below.refl _ _), HR⟩
  case round =>
    clear HR
    obtain ⟨j, rfl, hj, HB, HR⟩ := hrel
    by_cases hlt : j < KT.length
    · have hlt1 : (j : Int) < (KT.length : Int) := by omega
      obtain ⟨⟨tb, T⟩, hx⟩ : ∃ p, KT[j]? = some p := ⟨_, List.getElem?_eq_getElem hlt⟩
      have hdr : KT.drop j = (tb, T) :: KT.drop (j + 1) := by
        obtain ⟨q1, q2⟩ := List.getElem?_eq_some_iff.1 hx
        rw [List.drop_eq_getElem_cons q1, q2]
      have HK := Lib.hid (HO.out wr HB.out tb T (List.mem_of_getElem? hx))
      rcases HP.out wr HB.out with hp | ⟨b, off, rfl, hbl, hcl⟩
      · have hz : KT = [] := by simpa using hp
        rw [hz] at hlt
        simp at hlt
      have kc := hcl j tb (by rw [List.getElem?_map, hx]; rfl)
      have HR2 : Hid ((if (exP T key).2 = true then exP T key else askP (fun T => exP T key) ((KT.drop (j + 1)).map (·.2))) = R) := Lib.hid (by have := HR.out; rw [hdr] at this; exact this)
      clear hcl hx hdr HR
      generalize exP T key = r at *
      obtain ⟨v, b⟩ := r
      simp only [] at HK HR2
      cases b with
      | true =>
        have HE : Hid (R = (v, true)) := Lib.hid (by have := HR2.out; rw [if_pos rfl] at this; exact this.symm)
        clear HR2
        go_wp2_with fail
        refine HK.out.mono ?_
        rintro e w2 ⟨hb2, rfl⟩
        have HB2 := Lib.hid (HB.out.trans (hb2.mono HB.out.size))
        clear hb2
        go_wp2_with fail
        go_ret2
        exact ⟨HB2.out, by rw [HE.out]; rfl⟩
      | false =>
        have HE : Hid (askP (fun T => exP T key) ((KT.drop (j + 1)).map (·.2)) = R) := Lib.hid (by have := HR2.out; rw [if_neg (by simp)] at this; exact this)
        clear HR2
        go_wp2_with fail
        refine HK.out.mono ?_
        rintro e w2 ⟨hb2, rfl⟩
        have HB2 := Lib.hid (HB.out.trans (hb2.mono HB.out.size))
        clear hb2
        go_wp2_with fail
        go_roundg (gk - 1)
        case rel => exact ⟨j + 1, by go_num, by omega, HB2, HE⟩
        case measure => omega
    · have hlt1 : ¬ (j : Int) < (KT.length : Int) := by omega
      have HE : Hid (R = ([], false)) := Lib.hid (by have := HR.out; rw [List.drop_of_length_le (by omega)] at this; exact this.symm)
      clear HR
      go_wp2_with fail
      go_ret2
      exact ⟨HB.out, by rw [HE.out]; rfl⟩
theorem chain_ex (w : World) (ch : Nat) (KT : List (Nat × List En)) (h : Tabs2 w ch KT) (hn : KT.length ≤ 1000) (key : List UInt8) (hl0 : key.length ≤ 2000000) (hT : TabsT w.heap.size w) :
    Calls Tryd.prog 15 #[.pointer (some ⟨ch, 0, none⟩), .string (bs key)] w fun e w' => Below w.heap.size w w' ∧ e = .returned (.tuple #[.string (bs (askP (fun T => exP T key) (KT.map (·.2))).1), .bool (askP (fun T => exP T key) (KT.map (·.2))).2]) := by
  have hb := ((Below.refl w.heap.size w).alloc (Nat.le_refl _) (.cells #[.string (bs key)] 9))
  have HK := Lib.hid (ask_ex (w.alloc (.cells #[.string (bs key)] 9)) ch KT (h.below hb) hn w.heap.size key (by have h := (Blk.new w 9 #[.string (bs key)]); simpa [StrB] using h) hl0 (tabsT_below hT hb))
  have HB := Lib.hid hb
  generalize askP (fun T => exP T key) (KT.map (·.2)) = r at *
  clear h hT hb
  go_enter Tryd.func15, Tryd.ntmps15
  go_wp2_with fail
  refine HK.out.mono ?_
  rintro e w2 ⟨hb2, rfl⟩
  have HB2 := Lib.hid (HB.out.trans (hb2.mono HB.out.size))
  clear hb2
  go_wp2_with fail
  go_ret2
  exact ⟨HB2.out, rfl⟩
theorem clo_ad (w : World) (tb : Nat) (T : List En) (h : TabOk w tb T) (k0 k1 : Nat) (lo dm : List UInt8) (hk0 : StrB w k0 lo) (hk1 : StrB w k1 dm) (hl0 : lo.length ≤ 2000000) (hl1 : dm.length ≤ 2000000) (hT : TabsT w.heap.size w) :
    Calls Tryd.prog 38 #[.pointer (some ⟨tb, 0, none⟩), .pointer (some ⟨k0, 0, none⟩), .pointer (some ⟨k1, 0, none⟩)] w fun e w' => Below w.heap.size w w' ∧ e = .returned (.tuple #[.string (bs (adX (exP T) lo dm).1), .bool (adX (exP T) lo dm).2]) := by
  have HK := Lib.hid (addr_walk w tb T h lo dm hl0 hl1 hT)
  have c0 : w.cell? ⟨k0, 0, none⟩ = some (.string (bs lo)) := Blk.cell hk0 0
  have c1 : w.cell? ⟨k1, 0, none⟩ = some (.string (bs dm)) := Blk.cell hk1 0
  clear h hT hk0 hk1
  generalize adX (exP T) lo dm = r at *
  go_enter Tryd.func38, Tryd.ntmps38
  go_wp2_with fail
  refine HK.out.mono ?_
  rintro e w2 ⟨hb2, rfl⟩
  have HB2 := Lib.hid hb2
  clear hb2
  go_wp2_with fail
  go_ret2
  exact ⟨HB2.out, rfl⟩
set_option maxRecDepth 100000 in
theorem ask_ad (w : World) (ch : Nat) (KT : List (Nat × List En)) (h : Tabs2 w ch KT) (hn : KT.length ≤ 1000) (k0 k1 : Nat) (lo dm : List UInt8) (hk0 : StrB w k0 lo) (hk1 : StrB w k1 dm) (hl0 : lo.length ≤ 2000000) (hl1 : dm.length ≤ 2000000) (hT : TabsT w.heap.size w) :
    Calls Tryd.prog 36 #[.pointer (some ⟨ch, 0, none⟩), .func (.func 38) #[] #[.pointer (some ⟨k0, 0, none⟩), .pointer (some ⟨k1, 0, none⟩)]] w fun e w' => Below w.heap.size w w' ∧ e = .returned (.tuple #[.string (bs (askP (fun T => adX (exP T) lo dm) (KT.map (·.2))).1), .bool (askP (fun T => adX (exP T) lo dm) (KT.map (·.2))).2]) := by
  obtain ⟨A, c, hch, hc1, hc2, hp⟩ := h.ch
  rw [List.length_map] at hch hc1
  have HO := Lib.hid (fun (w2 : World) (hb : Below w.heap.size w w2) (tb : Nat) (T : List En) (hm : (tb, T) ∈ KT) => clo_ad w2 tb T ((h.ok _ hm).below hb) k0 k1 lo dm (hk0.below hb) (hk1.below hb) hl0 hl1 (tabsT_below hT hb))
  have HP := Lib.hid (fun (w2 : World) (hb : Below w.heap.size w w2) => hp.below hb)
  have c0 := hch.cell 0
  obtain ⟨R, hR⟩ : ∃ R, askP (fun T => adX (exP T) lo dm) (KT.map (·.2)) = R := ⟨_, rfl⟩
  have HR : Hid (askP (fun T => adX (exP T) lo dm) ((KT.drop 0).map (·.2)) = R) := Lib.hid hR
  rw [hR]
  unfold maxLen at hc2
  clear h hch hp hT hk0 hk1 hR
  go_enter Tryd.func36, Tryd.ntmps36
  go_wp2_with fail
  go_loopg [15] KT.length (fun k s15 wr => ∃ j : Nat, s15 = .int .i64 (j : Int) ∧ j + k = KT.length ∧ Hid (Below w.heap.size w wr) ∧ Hid (askP (fun T => adX (exP T) lo dm) ((KT.drop j).map (·.2)) = R))
  case atStart => exact ⟨0, rfl, by omega, Lib.hid (Below.refl _ _), HR⟩
  case round =>
    clear HR
    obtain ⟨j, rfl, hj, HB, HR⟩ := hrel
    by_cases hlt : j < KT.length
    · have hlt1 : (j : Int) < (KT.length : Int) := by omega
      obtain ⟨⟨tb, T⟩, hx⟩ : ∃ p, KT[j]? = some p := ⟨_, List.getElem?_eq_getElem hlt⟩
      have hdr : KT.drop j = (tb, T) :: KT.drop (j + 1) := by
        obtain ⟨q1, q2⟩ := List.getElem?_eq_some_iff.1 hx
        rw [List.drop_eq_getElem_cons q1, q2]
      have HK := Lib.hid (HO.out wr HB.out tb T (List.mem_of_getElem? hx))
      rcases HP.out wr HB.out with hp | ⟨b, off, rfl, hbl, hcl⟩
      · have hz : KT = [] := by simpa using hp
        rw [hz] at hlt
        simp at hlt
      have kc := hcl j tb (by rw [List.getElem?_map, hx]; rfl)
      have HR2 : Hid ((if (adX (exP T) lo dm).2 = true then adX (exP T) lo dm else askP (fun T => adX (exP T) lo dm) ((KT.drop (j + 1)).map (·.2))) = R) := Lib.hid (by have := HR.out; rw [hdr] at this; exact this)
      clear hcl hx hdr HR
      generalize adX (exP T) lo dm = r at *
      obtain ⟨v, b⟩ := r
      simp only [] at HK HR2
      cases b with
      | true =>
        have HE : Hid (R = (v, true)) := Lib.hid (by have := HR2.out; rw [if_pos rfl] at this; exact this.symm)
        clear HR2
        go_wp2_with fail
        refine HK.out.mono ?_
        rintro e w2 ⟨hb2, rfl⟩
        have HB2 := Lib.hid (HB.out.trans (hb2.mono HB.out.size))
        clear hb2
        go_wp2_with fail
        go_ret2
        exact ⟨HB2.out, by rw [HE.out]; rfl⟩
      | false =>
        have HE : Hid (askP (fun T => adX (exP T) lo dm) ((KT.drop (j + 1)).map (·.2)) = R) := Lib.hid (by have := HR2.out; rw [if_neg (by simp)] at this; exact this)
        clear HR2
        go_wp2_with fail
        refine HK.out.mono ?_
        rintro e w2 ⟨hb2, rfl⟩
        have HB2 := Lib.hid (HB.out.trans (hb2.mono HB.out.size))
        clear hb2
        go_wp2_with fail
        go_roundg (gk - 1)
        case rel => exact ⟨j + 1, by go_num, by omega, HB2, HE⟩
        case measure => omega
    · have hlt1 : ¬ (j : Int) < (KT.length : Int) := by omega
      have HE : Hid (R = ([], false)) := Lib.hid (by have := HR.out; rw [List.drop_of_length_le (by omega)] at this; exact this.symm)
      clear HR
      go_wp2_with fail
      go_ret2
      exact ⟨HB.out, by rw [HE.out]; rfl⟩
theorem chain_ad (w : World) (ch : Nat) (KT : List (Nat × List En)) (h : Tabs2 w ch KT) (hn : KT.length ≤ 1000) (lo dm : List UInt8) (hl0 : lo.length ≤ 2000000) (hl1 : dm.length ≤ 2000000) (hT : TabsT w.heap.size w) :
    Calls Tryd.prog 17 #[.pointer (some ⟨ch, 0, none⟩), .string (bs lo), .string (bs dm)] w fun e w' => Below w.heap.size w w' ∧ e = .returned (.tuple #[.string (bs (askP (fun T => adX (exP T) lo dm) (KT.map (·.2))).1), .bool (askP (fun T => adX (exP T) lo dm) (KT.map (·.2))).2]) := by
  have hb := (((Below.refl w.heap.size w).alloc (Nat.le_refl _) (.cells #[.string (bs lo)] 9)).alloc (by simp) (.cells #[.string (bs dm)] 9))
  have HK := Lib.hid (ask_ad ((w.alloc (.cells #[.string (bs lo)] 9)).alloc (.cells #[.string (bs dm)] 9)) ch KT (h.below hb) hn w.heap.size (w.heap.size + 1) lo dm (by have h := (Blk.alloc (Blk.new w 9 #[.string (bs lo)]) (.cells #[.string (bs dm)] 9)); simpa [StrB] using h) (by have h := (Blk.new (w.alloc (.cells #[.string (bs lo)] 9)) 9 #[.string (bs dm)]); simpa [StrB] using h) hl0 hl1 (tabsT_below hT hb))
  have HB := Lib.hid hb
  generalize askP (fun T => adX (exP T) lo dm) (KT.map (·.2)) = r at *
  clear h hT hb
  go_enter Tryd.func17, Tryd.ntmps17
  go_wp2_with fail
  refine HK.out.mono ?_
  rintro e w2 ⟨hb2, rfl⟩
  have HB2 := Lib.hid (HB.out.trans (hb2.mono HB.out.size))
  clear hb2
  go_wp2_with fail
  go_ret2
  exact ⟨HB2.out, rfl⟩
theorem clo_dm (w : World) (tb : Nat) (T : List En) (h : TabOk w tb T) (k0 : Nat) (key : List UInt8) (hk0 : StrB w k0 key) (hl0 : key.length ≤ 2000000) (hT : TabsT w.heap.size w) :
    Calls Tryd.prog 39 #[.pointer (some ⟨tb, 0, none⟩), .pointer (some ⟨k0, 0, none⟩)] w fun e w' => Below w.heap.size w w' ∧ e = .returned (.tuple #[.string (bs (dmX (exP T) key).1), .bool (dmX (exP T) key).2]) := by
  have HK := Lib.hid (domain_walk w tb T h key hl0 hT)
  have c0 : w.cell? ⟨k0, 0, none⟩ = some (.string (bs key)) := Blk.cell hk0 0
  clear h hT hk0
  generalize dmX (exP T) key = r at *
  go_enter Tryd.func39, Tryd.ntmps39
  go_wp2_with fail
  refine HK.out.mono ?_
  rintro e w2 ⟨hb2, rfl⟩
  have HB2 := Lib.hid hb2
  clear hb2
  go_wp2_with fail
  go_ret2
  exact ⟨HB2.out, rfl⟩
set_option maxRecDepth 100000 in
theorem ask_dm (w : World) (ch : Nat) (KT : List (Nat × List En)) (h : Tabs2 w ch KT) (hn : KT.length ≤ 1000) (k0 : Nat) (key : List UInt8) (hk0 : StrB w k0 key) (hl0 : key.length ≤ 2000000) (hT : TabsT w.heap.size w) :
    Calls Tryd.prog 36 #[.pointer (some ⟨ch, 0, none⟩), .func (.func 39) #[] #[.pointer (some ⟨k0, 0, none⟩)]] w fun e w' => Below w.heap.size w w' ∧ e = .returned (.tuple #[.string (bs (askP (fun T => dmX (exP T) key) (KT.map (·.2))).1), .bool (askP (fun T => dmX (exP T) key) (KT.map (·.2))).2]) := by
  obtain ⟨A, c, hch, hc1, hc2, hp⟩ := h.ch
  rw [List.length_map] at hch hc1
  have HO := Lib.hid (fun (w2 : World) (hb : Below w.heap.size w w2) (tb : Nat) (T : List En) (hm : (tb, T) ∈ KT) => clo_dm w2 tb T ((h.ok _ hm).below hb) k0 key (hk0.below hb) hl0 (tabsT_below hT hb))
  have HP := Lib.hid (fun (w2 : World) (hb : Below w.heap.size w w2) => hp.below hb)
  have c0 := hch.cell 0
  obtain ⟨R, hR⟩ : ∃ R, askP (fun T => dmX (exP T) key) (KT.map (·.2)) = R := ⟨_, rfl⟩
  have HR : Hid (askP (fun T => dmX (exP T) key) ((KT.drop 0).map (·.2)) = R) := Lib.hid hR
  rw [hR]
  unfold maxLen at hc2
  clear h hch hp hT hk0 hR
  go_enter Tryd.func36, Tryd.ntmps36
  go_wp2_with fail
  go_loopg [15] KT.length (fun k s15 wr => ∃ j : Nat, s15 = .int .i64 (j : Int) ∧ j + k = KT.length ∧ Hid (Below w.heap.size w wr) ∧ Hid (askP (fun T => dmX (exP T) key) ((KT.drop j).map (·.2)) = R))
  case atStart => exact ⟨0, rfl, by omega, Lib.hid (Below.refl _ _), HR⟩
  case round =>
    clear HR
    obtain ⟨j, rfl, hj, HB, HR⟩ := hrel
    by_cases hlt : j < KT.length
    · have hlt1 : (j : Int) < (KT.length : Int) := by omega
      obtain ⟨⟨tb, T⟩, hx⟩ : ∃ p, KT[j]? = some p := ⟨_, List.getElem?_eq_getElem hlt⟩
      have hdr : KT.drop j = (tb, T) :: KT.drop (j + 1) := by
        obtain ⟨q1, q2⟩ := List.getElem?_eq_some_iff.1 hx
        rw [List.drop_eq_getElem_cons q1, q2]
      have HK := Lib.hid (HO.out wr HB.out tb T (List.mem_of_getElem? hx))
      rcases HP.out wr HB.out with hp | ⟨b, off, rfl, hbl, hcl⟩
      · have hz : KT = [] := by simpa using hp
        rw [hz] at hlt
        simp at hlt
      have kc := hcl j tb (by rw [List.getElem?_map, hx]; rfl)
      have HR2 : Hid ((if (dmX (exP T) key).2 = true then dmX (exP T) key else askP (fun T => dmX (exP T) key) ((KT.drop (j + 1)).map (·.2))) = R) := Lib.hid (by have := HR.out; rw [hdr] at this; exact this)
      clear hcl hx hdr HR
      generalize dmX (exP T) key = r at *
      obtain ⟨v, b⟩ := r
      simp only [] at HK HR2
      cases b with
      | true =>
        have HE : Hid (R = (v, true)) := Lib.hid (by have := HR2.out; rw [if_pos rfl] at this; exact this.symm)
        clear HR2
        go_wp2_with fail
        refine HK.out.mono ?_
        rintro e w2 ⟨hb2, rfl⟩
        have HB2 := Lib.hid (HB.out.trans (hb2.mono HB.out.size))
        clear hb2
        go_wp2_with fail
        go_ret2
        exact ⟨HB2.out, by rw [HE.out]; rfl⟩
      | false =>
        have HE : Hid (askP (fun T => dmX (exP T) key) ((KT.drop (j + 1)).map (·.2)) = R) := Lib.hid (by have := HR2.out; rw [if_neg (by simp)] at this; exact this)
        clear HR2
        go_wp2_with fail
        refine HK.out.mono ?_
        rintro e w2 ⟨hb2, rfl⟩
        have HB2 := Lib.hid (HB.out.trans (hb2.mono HB.out.size))
        clear hb2
        go_wp2_with fail
        go_roundg (gk - 1)
        case rel => exact ⟨j + 1, by go_num, by omega, HB2, HE⟩
        case measure => omega
    · have hlt1 : ¬ (j : Int) < (KT.length : Int) := by omega
      have HE : Hid (R = ([], false)) := Lib.hid (by have := HR.out; rw [List.drop_of_length_le (by omega)] at this; exact this.symm)
      clear HR
      go_wp2_with fail
      go_ret2
      exact ⟨HB.out, by rw [HE.out]; rfl⟩
theorem chain_dm (w : World) (ch : Nat) (KT : List (Nat × List En)) (h : Tabs2 w ch KT) (hn : KT.length ≤ 1000) (key : List UInt8) (hl0 : key.length ≤ 2000000) (hT : TabsT w.heap.size w) :
    Calls Tryd.prog 18 #[.pointer (some ⟨ch, 0, none⟩), .string (bs key)] w fun e w' => Below w.heap.size w w' ∧ e = .returned (.tuple #[.string (bs (askP (fun T => dmX (exP T) key) (KT.map (·.2))).1), .bool (askP (fun T => dmX (exP T) key) (KT.map (·.2))).2]) := by
  have hb := ((Below.refl w.heap.size w).alloc (Nat.le_refl _) (.cells #[.string (bs key)] 9))
  have HK := Lib.hid (ask_dm (w.alloc (.cells #[.string (bs key)] 9)) ch KT (h.below hb) hn w.heap.size key (by have h := (Blk.new w 9 #[.string (bs key)]); simpa [StrB] using h) hl0 (tabsT_below hT hb))
  have HB := Lib.hid hb
  generalize askP (fun T => dmX (exP T) key) (KT.map (·.2)) = r at *
  clear h hT hb
  go_enter Tryd.func18, Tryd.ntmps18
  go_wp2_with fail
  refine HK.out.mono ?_
  rintro e w2 ⟨hb2, rfl⟩
  have HB2 := Lib.hid (HB.out.trans (hb2.mono HB.out.size))
  clear hb2
  go_wp2_with fail
  go_ret2
  exact ⟨HB2.out, rfl⟩
end Go.Proofs.YtlknclkkhincfaaDoor
