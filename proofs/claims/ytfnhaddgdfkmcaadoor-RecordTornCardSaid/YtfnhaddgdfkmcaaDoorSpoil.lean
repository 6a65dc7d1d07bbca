/-
  The walk of waybilllaw03's spoil: it writes into the message's own rows. No condition but whose the rows are.
-/
import Derived.Test.YtfnhaddgdfkmcaaDoorSz
namespace Go.Proofs.YtfnhaddgdfkmcaaDoor
open Go.RowKit Go.Sort
set_option linter.unusedVariables false

theorem OwnB.cellM {w : World} {base E g n c : Nat} {l : List UInt8} (h : OwnB w base E (.slice (some ⟨g, 0, none⟩) n c) l) {k : Nat} (hk : k < n) : w.cell? ⟨g, k, none⟩ = some (.int .u8 (bt l k)) ∧ w.frozen? ⟨g, k, none⟩ = false := by
  obtain ⟨rfl, _⟩ := h.len
  exact ⟨h.cell hk, h.free k⟩
/-- n cells of a block from base on that may be written -/
def Wrt (w : World) (base : Nat) (A : Option Addr) (n : Nat) : Prop :=
  n = 0 ∨ ∃ g, A = some ⟨g, 0, none⟩ ∧ base ≤ g ∧ g < w.heap.size ∧ ∀ i, i < n → (∃ v, w.cell? ⟨g, i, none⟩ = some v) ∧ w.frozen? ⟨g, i, none⟩ = false
theorem Wrt.set_ {w : World} {base : Nat} {A : Option Addr} {n : Nat} (h : Wrt w base A n) (p : Addr) (v : Value) : Wrt (w.setCell p v) base A n := by
  rcases h with h | ⟨g, rfl, h1, h2, h3⟩
  · exact .inl h
  · refine .inr ⟨g, rfl, h1, by simpa using h2, fun i hi => ?_⟩
    obtain ⟨⟨u, hu⟩, hf⟩ := h3 i hi
    refine ⟨?_, by rw [World.frozen?_setCell]; exact hf⟩
    by_cases hp : p = ⟨g, i, none⟩
    · subst hp; exact ⟨v, World.cell?_setCell_same w _ v hu⟩
    · exact ⟨u, (World.cell?_setCell_other w p _ v hp).trans hu⟩
theorem Wrt.keep {w w' : World} {base : Nat} {A : Option Addr} {n : Nat} (h : Wrt w base A n) (hb : Below w.heap.size w w') : Wrt w' base A n := by
  rcases h with h | ⟨g, rfl, h1, h2, h3⟩
  · exact .inl h
  · refine .inr ⟨g, rfl, h1, Nat.lt_of_lt_of_le h2 hb.size, fun i hi => ?_⟩
    have := h3 i hi
    simp only [World.cell?, World.frozen?] at this ⊢
    rw [hb.block g h2]
    exact this
theorem OwnR.wrt {w : World} {base E n c : Nat} {A : Option Addr} {L : List Rc} (h : OwnR w base E (.slice A n c) L) : Wrt w base A (L.length * 2) := by
  rcases Nat.eq_zero_or_pos L.length with h0 | h0
  · exact .inl (by omega)
  · obtain ⟨g, c', hv, h1, h2⟩ := World.ownsRow.form h h0
    injection hv with hv hn _
    subst hv
    subst hn
    refine .inr ⟨g, rfl, h1, h2, fun i hi => ?_⟩
    have hl : i < (rcCells L).length := by rw [rcCells_len]; exact hi
    have := World.ownsRow.cells h (g := g) rfl i _ (List.getElem?_eq_getElem hl)
    rw [Addr.add_lit, Nat.zero_add] at this
    exact ⟨⟨_, this⟩, World.ownsRow.frozenAt h i⟩
theorem OwnW.wrt {w : World} {base n c : Nat} {A : Option Addr} {l : List UInt8} (h : OwnW w base (.slice A n c) l) : Wrt w base A l.length := by
  obtain ⟨A', c', e, h1, h2, h3⟩ := h
  injection e with e _ _
  subst e
  rcases h3 with h3 | ⟨g, rfl, hb, hg, hc⟩
  · subst h3; exact .inl rfl
  · exact .inr ⟨g, rfl, hb, hg, fun i hi => ⟨⟨_, (hc i hi).1⟩, (hc i hi).2⟩⟩
theorem Wrt.at_ {w : World} {base : Nat} {A : Option Addr} {n i : Nat} (h : Wrt w base A n) (hi : i < n) : ∃ g, A = some ⟨g, 0, none⟩ ∧ base ≤ g ∧ g < w.heap.size ∧ ∀ i, i < n → (∃ v, w.cell? ⟨g, i, none⟩ = some v) ∧ w.frozen? ⟨g, i, none⟩ = false := by
  rcases h with h | h
  · omega
  · exact h
theorem Blk.farS {w : World} {g : Nat} {t : TypeId} {cs : Array Value} (h : Blk w g t cs) {p : Addr} (hp : p.block < g) (v : Value) : Blk (w.setCell p v) g t cs := h.far (by omega) v
set_option maxHeartbeats 2000000 in
theorem spoil_walk (m : Msg) (A1 : Option Addr) (c1 : Nat) (A2 : Option Addr) (c2 base : Nat) (w : World) (h : MsgOwn w base m (.slice A1 m.rcpts.length c1) (.slice A2 m.data.length c2)) (hz : MsgSz m) (hb : base ≤ w.heap.size) :
    Calls Tryd.prog 18 #[.agg (mCells m A1 c1 A2 c2)] w fun e w' => Below base w w' ∧ e = .returned (.tuple #[]) := by
  have bk := Blk.new w 25 (mCells m A1 c1 A2 c2)
  have hbw : Below w.heap.size w (w.alloc (.cells (mCells m A1 c1 A2 c2) 25)) := (Below.refl _ _).alloc (Nat.le_refl _) _
  have hs0 : (w.alloc (.cells (mCells m A1 c1 A2 c2) 25)).heap.size = w.heap.size + 1 := by simp
  have W1 := (OwnR.wrt h.1).keep hbw
  have W2 := (OwnW.wrt h.2).keep hbw
  have G1 : Hid (∀ g, A1 = some ⟨g, 0, none⟩ → 0 < m.rcpts.length → g < w.heap.size) := Lib.hid fun g hg h0 => by
    obtain ⟨g', e, _, h2, _⟩ := (OwnR.wrt h.1).at_ (i := 0) (by omega)
    rw [hg] at e
    injection e with e
    injection e with e
    omega
  have G2 : Hid (∀ g, A2 = some ⟨g, 0, none⟩ → 0 < m.data.length → g < w.heap.size) := Lib.hid fun g hg h0 => by
    obtain ⟨g', e, _, h2, _⟩ := (OwnW.wrt h.2).at_ (i := 0) h0
    rw [hg] at e
    injection e with e
    injection e with e
    omega
  have hm1 := hz.m1
  have hm2 := hz.m2
  have B0 := hbw.mono hb
  obtain ⟨t, fr, L, d⟩ := m
  unfold mCells at *
  dsimp only at *
  generalize hw0 : w.alloc (.cells #[.int .i64 t, .string fr, .slice A1 L.length c1, .slice A2 d.length c2] 25) = w0 at *
  clear h hz hbw
  go_enter Tryd.func18, Tryd.ntmps18
  go_upto_block 0 with fail
  go_cut [2] from 4 to 15 (fun _ wr => Hid (Below base w wr) ∧ Hid (Blk wr w.heap.size 25 #[.int .i64 t, .string fr, .slice A1 L.length c1, .slice A2 d.length c2]) ∧ Hid (Wrt wr base A2 d.length))
  case first =>
    go_wp2_with fail
    go_loopg [2] L.length (fun k i wr => ∃ (j : Nat), j + k = L.length ∧ i = .int .i64 j ∧ Hid (Below base w wr) ∧ Hid (Blk wr w.heap.size 25 #[.int .i64 t, .string fr, .slice A1 L.length c1, .slice A2 d.length c2]) ∧ Hid (Wrt wr base A2 d.length) ∧ Hid (Wrt wr base A1 (L.length * 2)))
    case atStart => exact ⟨0, by omega, rfl, Lib.hid B0, Lib.hid bk, Lib.hid W2, Lib.hid W1⟩
    case round =>
      obtain ⟨j, hj, rfl, HB, HK, HW2, HW1⟩ := hrel
      have k2 : wr.cell? ⟨w.heap.size, 2, none⟩ = some (.slice A1 L.length c1) := HK.out.cell 2
      clear bk W1 W2 B0
      by_cases hlt : j < L.length
      · have hj1 : (j : Int) < (L.length : Int) := by omega
        obtain ⟨g, rfl, hg1, -, hc⟩ := HW1.out.at_ (i := j * 2) (by omega)
        obtain ⟨⟨u0, e0⟩, x0⟩ := hc (j * 2) (by omega)
        obtain ⟨⟨u1, e1⟩, x1⟩ := hc (j * 2 + 1) (by omega)
        have hgw := G1.out g rfl (by omega)
        clear hc
        go_wp2
        go_roundg (gk - 1)
        case rel => exact ⟨j + 1, by omega, by go_num, Lib.hid ((HB.out.setCell hg1 _).setCell hg1 _), Lib.hid ((HK.out.farS hgw _).farS hgw _), Lib.hid ((HW2.out.set_ _ _).set_ _ _), Lib.hid ((HW1.out.set_ _ _).set_ _ _)⟩
        case measure => omega
      · have hj1 : (L.length : Int) ≤ (j : Int) := by omega
        go_wp2_with fail
        go_meet
        exact ⟨HB, HK, HW2⟩
  case rest =>
    obtain ⟨HB, HK, HW2⟩ := hcut
    clear bk W1 W2 B0
    go_wp2_with fail
    go_loopg [3] d.length (fun k i wr => ∃ (j : Nat), j + k = d.length ∧ i = .int .i64 j ∧ Hid (Below base w wr) ∧ Hid (Blk wr w.heap.size 25 #[.int .i64 t, .string fr, .slice A1 L.length c1, .slice A2 d.length c2]) ∧ Hid (Wrt wr base A2 d.length))
    case atStart => exact ⟨0, by omega, rfl, HB, HK, HW2⟩
    case round =>
      obtain ⟨j, hj, rfl, HB, HK, HW2⟩ := hrel
      have k3 : wr.cell? ⟨w.heap.size, 3, none⟩ = some (.slice A2 d.length c2) := HK.out.cell 3
      by_cases hlt : j < d.length
      · have hj1 : (j : Int) < (d.length : Int) := by omega
        obtain ⟨g, rfl, hg1, -, hc⟩ := HW2.out.at_ (i := j) hlt
        obtain ⟨⟨u0, e0⟩, x0⟩ := hc j hlt
        have hgw := G2.out g rfl (by omega)
        clear hc
        go_wp2
        go_roundg (gk - 1)
        case rel => exact ⟨j + 1, by omega, by go_num, Lib.hid (HB.out.setCell hg1 _), Lib.hid (HK.out.farS hgw _), Lib.hid (HW2.out.set_ _ _)⟩
        case measure => omega
      · have hj1 : (d.length : Int) ≤ (j : Int) := by omega
        go_wp2_with fail
        go_end0
        exact ⟨HB.out, rfl⟩
end Go.Proofs.YtfnhaddgdfkmcaaDoor
