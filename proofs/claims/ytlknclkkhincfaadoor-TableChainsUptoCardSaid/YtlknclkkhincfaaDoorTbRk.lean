/-
  The walk of the document's Ask at each way of asking (printed by gen_rk.py). Conditions: the sizes.
-/
import Derived.Test.YtlknclkkhincfaaDoorTbCh
import Derived.Test.YtlknclkkhincfaaDoorTbRa
namespace Go.Proofs.YtlknclkkhincfaaDoor
open Go.RowKit Go.Shelf
set_option linter.unusedVariables false
def askR (q : List En → List UInt8 × Bool) : List (Option (List En)) → List UInt8 × Bool
  | [] => ([], false)
  | none :: r => askR q r
  | some T :: r => if (q T).2 = true then q T else askR q r
def pOf (o : Option (Nat × List En)) : Option Nat := o.map (·.1)
def tOf (o : Option (Nat × List En)) : Option (List En) := o.map (·.2)
/-- a row of the document's tables -/
structure RTabs (w : World) (g : Option Nat) (v : Value) (L : List (Option (Nat × List En))) : Prop where
  row : OwnX 1 w g v ((L.map pOf).map ptV)
  ok : ∀ p, some p ∈ L → RTabOk w p.1 p.2
theorem RTabs.below {w w' : World} {g : Option Nat} {v : Value} {L : List (Option (Nat × List En))} (h : RTabs w g v L) (hb : Below w.heap.size w w') : RTabs w' g v L := ⟨h.row.below hb fun k hk => h.row.lt hk, fun p hp => (h.ok p hp).below hb⟩
theorem RTabs.cell {w : World} {g : Option Nat} {A : Option Addr} {n c : Nat} {L : List (Option (Nat × List En))} (h : RTabs w g (.slice A n c) L) {j : Nat} {o : Option (Nat × List En)} (ho : L[j]? = some o) : ∃ b off, A = some ⟨b, off, none⟩ ∧ b < w.heap.size ∧ w.cell? ⟨b, off + j, none⟩ = some (ptV (pOf o)) := by
  obtain ⟨e1, e2, e3⟩ := h.row.form
  rw [List.length_map, List.length_map, Nat.mul_one] at e1
  have hj := (List.getElem?_eq_some_iff.1 ho).1
  obtain ⟨b, off, -, rfl, hlt, hc, -⟩ := h.row.at_ (by omega)
  exact ⟨b, off, rfl, hlt, by rw [hc j (by rw [List.length_map, List.length_map]; exact hj), List.getElem?_map, List.getElem?_map, ho]; rfl⟩
set_option maxRecDepth 100000 in
theorem rask_ex (w : World) (g : Option Nat) (A : Option Addr) (n c : Nat) (L : List (Option (Nat × List En))) (h : RTabs w g (.slice A n c) L) (hn : L.length ≤ 1000) (a b : List UInt8) (hl0 : a.length ≤ 2000000) (hl1 : b.length ≤ 2000000) :
    Calls Tryd.prog 16 #[.slice A n c, .int .i64 0, .string (bs a), .string (bs b)] w fun e w' => Below w.heap.size w w' ∧ e = .returned (.tuple #[.string (bs (askR (fun T => exR T a) (L.map tOf)).1), .bool (askR (fun T => exR T a) (L.map tOf)).2]) := by
  obtain ⟨e1, e2, e3⟩ := h.row.form
  rw [List.length_map, List.length_map, Nat.mul_one] at e1
  have HO := Lib.hid (fun (w2 : World) (hb : Below w.heap.size w w2) (tb : Nat) (T : List En) (hm : some (tb, T) ∈ L) => (fun (h : RTabOk w2 tb T) => rexact_walk w2 tb T h (bs a) a rfl (by omega)) ((h.ok (tb, T) hm).below hb))
  have HP := Lib.hid (fun (w2 : World) (hb : Below w.heap.size w w2) => h.below hb)
  obtain ⟨R, hR⟩ : ∃ R, askR (fun T => exR T a) (L.map tOf) = R := ⟨_, rfl⟩
  have HR : Hid (askR (fun T => exR T a) ((L.drop 0).map tOf) = R) := Lib.hid hR
  rw [hR]
  clear h hR
  go_enter Tryd.func16, Tryd.ntmps16
  go_wp2_with fail
  go_loopg [10] n (fun k s10 wr => ∃ j : Nat, s10 = .int .i64 (j : Int) ∧ j + k = n ∧ Hid (Below w.heap.size w wr) ∧ Hid (askR (fun T => exR T a) ((L.drop j).map tOf) = R))
  case atStart => exact ⟨0, rfl, by omega, Lib.hid (Below.refl _ _), HR⟩
  case round =>
    clear HR
    obtain ⟨j, rfl, hj, HB, HR⟩ := hrel
    by_cases hlt : j < n
    · have hlt1 : (j : Int) < (n : Int) := by omega
      obtain ⟨p, hx⟩ : ∃ p, L[j]? = some p := ⟨_, List.getElem?_eq_getElem (by omega)⟩
      have hdr : L.drop j = p :: L.drop (j + 1) := by
        obtain ⟨q1, q2⟩ := List.getElem?_eq_some_iff.1 hx
        rw [List.drop_eq_getElem_cons q1, q2]
      obtain ⟨kb, off, rfl, hbl, kc⟩ := (HP.out wr HB.out).cell hx
      cases p with
      | none =>
        have kc2 : wr.cell? ⟨kb, off + j, none⟩ = some (.pointer none) := kc
        have HE : Hid (askR (fun T => exR T a) ((L.drop (j + 1)).map tOf) = R) := Lib.hid (by have := HR.out; rw [hdr] at this; exact this)
        clear HR hdr hx kc
        go_wp2_with fail
        go_roundg (gk - 1)
        case rel => exact ⟨j + 1, by go_num, by omega, HB, HE⟩
        case measure => omega
      | some p =>
        obtain ⟨tb, T⟩ := p
        have kc2 : wr.cell? ⟨kb, off + j, none⟩ = some (.pointer (some ⟨tb, 0, none⟩)) := kc
        have HK := Lib.hid (HO.out wr HB.out tb T (List.mem_of_getElem? hx))
        have HR2 : Hid ((if (exR T a).2 = true then exR T a else askR (fun T => exR T a) ((L.drop (j + 1)).map tOf)) = R) := Lib.hid (by have := HR.out; rw [hdr] at this; exact this)
        clear kc hx hdr HR
        generalize exR T a = r at *
        obtain ⟨v, bb⟩ := r
        simp only [] at HK HR2
        cases bb with
        | true =>
          have HE : Hid (R = (v, true)) := Lib.hid (by have := HR2.out; rw [if_pos rfl] at this; exact this.symm)
          clear HR2
          go_wp2_with fail
          refine HK.out.mono ?_
          rintro e w2 ⟨hb2, rfl⟩
          have HB2 := Lib.hid (HB.out.trans (hb2.mono HB.out.size))
          clear hb2
          go_wp2_with fail
          go_ret2
          exact ⟨HB2.out, by rw [HE.out]; rfl⟩
        | false =>
          have HE : Hid (askR (fun T => exR T a) ((L.drop (j + 1)).map tOf) = R) := Lib.hid (by have := HR2.out; rw [if_neg (by simp)] at this; exact this)
          clear HR2
          go_wp2_with fail
          refine HK.out.mono ?_
          rintro e w2 ⟨hb2, rfl⟩
          have HB2 := Lib.hid (HB.out.trans (hb2.mono HB.out.size))
          clear hb2
          go_wp2_with fail
          go_roundg (gk - 1)
          case rel => exact ⟨j + 1, by go_num, by omega, HB2, HE⟩
          case measure => omega
    · have hlt1 : ¬ (j : Int) < (n : Int) := by omega
      have HE : Hid (R = ([], false)) := Lib.hid (by have := HR.out; rw [List.drop_of_length_le (by omega)] at this; exact this.symm)
      clear HR
      go_wp2_with fail
      go_ret2
      exact ⟨HB.out, by rw [HE.out]; rfl⟩
set_option maxRecDepth 100000 in
theorem rask_ad (w : World) (g : Option Nat) (A : Option Addr) (n c : Nat) (L : List (Option (Nat × List En))) (h : RTabs w g (.slice A n c) L) (hn : L.length ≤ 1000) (a b : List UInt8) (hl0 : a.length ≤ 2000000) (hl1 : b.length ≤ 2000000) :
    Calls Tryd.prog 16 #[.slice A n c, .int .i64 1, .string (bs a), .string (bs b)] w fun e w' => Below w.heap.size w w' ∧ e = .returned (.tuple #[.string (bs (askR (fun T => adX (exR T) a b) (L.map tOf)).1), .bool (askR (fun T => adX (exR T) a b) (L.map tOf)).2]) := by
  obtain ⟨e1, e2, e3⟩ := h.row.form
  rw [List.length_map, List.length_map, Nat.mul_one] at e1
  have HO := Lib.hid (fun (w2 : World) (hb : Below w.heap.size w w2) (tb : Nat) (T : List En) (hm : some (tb, T) ∈ L) => (fun (h : RTabOk w2 tb T) => raddr_walk w2 tb T h a b hl0 hl1) ((h.ok (tb, T) hm).below hb))
  have HP := Lib.hid (fun (w2 : World) (hb : Below w.heap.size w w2) => h.below hb)
  obtain ⟨R, hR⟩ : ∃ R, askR (fun T => adX (exR T) a b) (L.map tOf) = R := ⟨_, rfl⟩
  have HR : Hid (askR (fun T => adX (exR T) a b) ((L.drop 0).map tOf) = R) := Lib.hid hR
  rw [hR]
  clear h hR
  go_enter Tryd.func16, Tryd.ntmps16
  go_wp2_with fail
  go_loopg [10] n (fun k s10 wr => ∃ j : Nat, s10 = .int .i64 (j : Int) ∧ j + k = n ∧ Hid (Below w.heap.size w wr) ∧ Hid (askR (fun T => adX (exR T) a b) ((L.drop j).map tOf) = R))
  case atStart => exact ⟨0, rfl, by omega, Lib.hid (Below.refl _ _), HR⟩
  case round =>
    clear HR
    obtain ⟨j, rfl, hj, HB, HR⟩ := hrel
    by_cases hlt : j < n
    · have hlt1 : (j : Int) < (n : Int) := by omega
      obtain ⟨p, hx⟩ : ∃ p, L[j]? = some p := ⟨_, List.getElem?_eq_getElem (by omega)⟩
      have hdr : L.drop j = p :: L.drop (j + 1) := by
        obtain ⟨q1, q2⟩ := List.getElem?_eq_some_iff.1 hx
        rw [List.drop_eq_getElem_cons q1, q2]
      obtain ⟨kb, off, rfl, hbl, kc⟩ := (HP.out wr HB.out).cell hx
      cases p with
      | none =>
        have kc2 : wr.cell? ⟨kb, off + j, none⟩ = some (.pointer none) := kc
        have HE : Hid (askR (fun T => adX (exR T) a b) ((L.drop (j + 1)).map tOf) = R) := Lib.hid (by have := HR.out; rw [hdr] at this; exact this)
        clear HR hdr hx kc
        go_wp2_with fail
        go_roundg (gk - 1)
        case rel => exact ⟨j + 1, by go_num, by omega, HB, HE⟩
        case measure => omega
      | some p =>
        obtain ⟨tb, T⟩ := p
        have kc2 : wr.cell? ⟨kb, off + j, none⟩ = some (.pointer (some ⟨tb, 0, none⟩)) := kc
        have HK := Lib.hid (HO.out wr HB.out tb T (List.mem_of_getElem? hx))
        have HR2 : Hid ((if (adX (exR T) a b).2 = true then adX (exR T) a b else askR (fun T => adX (exR T) a b) ((L.drop (j + 1)).map tOf)) = R) := Lib.hid (by have := HR.out; rw [hdr] at this; exact this)
        clear kc hx hdr HR
        generalize adX (exR T) a b = r at *
        obtain ⟨v, bb⟩ := r
        simp only [] at HK HR2
        cases bb with
        | true =>
          have HE : Hid (R = (v, true)) := Lib.hid (by have := HR2.out; rw [if_pos rfl] at this; exact this.symm)
          clear HR2
          go_wp2_with fail
          refine HK.out.mono ?_
          rintro e w2 ⟨hb2, rfl⟩
          have HB2 := Lib.hid (HB.out.trans (hb2.mono HB.out.size))
          clear hb2
          go_wp2_with fail
          go_ret2
          exact ⟨HB2.out, by rw [HE.out]; rfl⟩
        | false =>
          have HE : Hid (askR (fun T => adX (exR T) a b) ((L.drop (j + 1)).map tOf) = R) := Lib.hid (by have := HR2.out; rw [if_neg (by simp)] at this; exact this)
          clear HR2
          go_wp2_with fail
          refine HK.out.mono ?_
          rintro e w2 ⟨hb2, rfl⟩
          have HB2 := Lib.hid (HB.out.trans (hb2.mono HB.out.size))
          clear hb2
          go_wp2_with fail
          go_roundg (gk - 1)
          case rel => exact ⟨j + 1, by go_num, by omega, HB2, HE⟩
          case measure => omega
    · have hlt1 : ¬ (j : Int) < (n : Int) := by omega
      have HE : Hid (R = ([], false)) := Lib.hid (by have := HR.out; rw [List.drop_of_length_le (by omega)] at this; exact this.symm)
      clear HR
      go_wp2_with fail
      go_ret2
      exact ⟨HB.out, by rw [HE.out]; rfl⟩
set_option maxRecDepth 100000 in
theorem rask_dm (w : World) (g : Option Nat) (A : Option Addr) (n c : Nat) (L : List (Option (Nat × List En))) (h : RTabs w g (.slice A n c) L) (hn : L.length ≤ 1000) (a b : List UInt8) (hl0 : a.length ≤ 2000000) (hl1 : b.length ≤ 2000000) :
    Calls Tryd.prog 16 #[.slice A n c, .int .i64 2, .string (bs a), .string (bs b)] w fun e w' => Below w.heap.size w w' ∧ e = .returned (.tuple #[.string (bs (askR (fun T => dmX (exR T) a) (L.map tOf)).1), .bool (askR (fun T => dmX (exR T) a) (L.map tOf)).2]) := by
  obtain ⟨e1, e2, e3⟩ := h.row.form
  rw [List.length_map, List.length_map, Nat.mul_one] at e1
  have HO := Lib.hid (fun (w2 : World) (hb : Below w.heap.size w w2) (tb : Nat) (T : List En) (hm : some (tb, T) ∈ L) => (fun (h : RTabOk w2 tb T) => rdomain_walk w2 tb T h a hl0) ((h.ok (tb, T) hm).below hb))
  have HP := Lib.hid (fun (w2 : World) (hb : Below w.heap.size w w2) => h.below hb)
  obtain ⟨R, hR⟩ : ∃ R, askR (fun T => dmX (exR T) a) (L.map tOf) = R := ⟨_, rfl⟩
  have HR : Hid (askR (fun T => dmX (exR T) a) ((L.drop 0).map tOf) = R) := Lib.hid hR
  rw [hR]
  clear h hR
  go_enter Tryd.func16, Tryd.ntmps16
  go_wp2_with fail
  go_loopg [10] n (fun k s10 wr => ∃ j : Nat, s10 = .int .i64 (j : Int) ∧ j + k = n ∧ Hid (Below w.heap.size w wr) ∧ Hid (askR (fun T => dmX (exR T) a) ((L.drop j).map tOf) = R))
  case atStart => exact ⟨0, rfl, by omega, Lib.hid (Below.refl _ _), HR⟩
  case round =>
    clear HR
    obtain ⟨j, rfl, hj, HB, HR⟩ := hrel
    by_cases hlt : j < n
    · have hlt1 : (j : Int) < (n : Int) := by omega
      obtain ⟨p, hx⟩ : ∃ p, L[j]? = some p := ⟨_, List.getElem?_eq_getElem (by omega)⟩
      have hdr : L.drop j = p :: L.drop (j + 1) := by
        obtain ⟨q1, q2⟩ := List.getElem?_eq_some_iff.1 hx
        rw [List.drop_eq_getElem_cons q1, q2]
      obtain ⟨kb, off, rfl, hbl, kc⟩ := (HP.out wr HB.out).cell hx
      cases p with
      | none =>
        have kc2 : wr.cell? ⟨kb, off + j, none⟩ = some (.pointer none) := kc
        have HE : Hid (askR (fun T => dmX (exR T) a) ((L.drop (j + 1)).map tOf) = R) := Lib.hid (by have := HR.out; rw [hdr] at this; exact this)
        clear HR hdr hx kc
        go_wp2_with fail
        go_roundg (gk - 1)
        case rel => exact ⟨j + 1, by go_num, by omega, HB, HE⟩
        case measure => omega
      | some p =>
        obtain ⟨tb, T⟩ := p
        have kc2 : wr.cell? ⟨kb, off + j, none⟩ = some (.pointer (some ⟨tb, 0, none⟩)) := kc
        have HK := Lib.hid (HO.out wr HB.out tb T (List.mem_of_getElem? hx))
        have HR2 : Hid ((if (dmX (exR T) a).2 = true then dmX (exR T) a else askR (fun T => dmX (exR T) a) ((L.drop (j + 1)).map tOf)) = R) := Lib.hid (by have := HR.out; rw [hdr] at this; exact this)
        clear kc hx hdr HR
        generalize dmX (exR T) a = r at *
        obtain ⟨v, bb⟩ := r
        simp only [] at HK HR2
        cases bb with
        | true =>
          have HE : Hid (R = (v, true)) := Lib.hid (by have := HR2.out; rw [if_pos rfl] at this; exact this.symm)
          clear HR2
          go_wp2_with fail
          refine HK.out.mono ?_
          rintro e w2 ⟨hb2, rfl⟩
          have HB2 := Lib.hid (HB.out.trans (hb2.mono HB.out.size))
          clear hb2
          go_wp2_with fail
          go_ret2
          exact ⟨HB2.out, by rw [HE.out]; rfl⟩
        | false =>
          have HE : Hid (askR (fun T => dmX (exR T) a) ((L.drop (j + 1)).map tOf) = R) := Lib.hid (by have := HR2.out; rw [if_neg (by simp)] at this; exact this)
          clear HR2
          go_wp2_with fail
          refine HK.out.mono ?_
          rintro e w2 ⟨hb2, rfl⟩
          have HB2 := Lib.hid (HB.out.trans (hb2.mono HB.out.size))
          clear hb2
          go_wp2_with fail
          go_roundg (gk - 1)
          case rel => exact ⟨j + 1, by go_num, by omega, HB2, HE⟩
          case measure => omega
    · have hlt1 : ¬ (j : Int) < (n : Int) := by omega
      have HE : Hid (R = ([], false)) := Lib.hid (by have := HR.out; rw [List.drop_of_length_le (by omega)] at this; exact this.symm)
      clear HR
      go_wp2_with fail
      go_ret2
      exact ⟨HB.out, by rw [HE.out]; rfl⟩
end Go.Proofs.YtlknclkkhincfaaDoor
