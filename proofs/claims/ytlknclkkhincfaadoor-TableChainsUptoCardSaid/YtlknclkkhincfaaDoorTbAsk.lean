/-
  The walks of Address and Domain. Conditions: the sizes; the tables.
-/
import Derived.Test.YtlknclkkhincfaaDoorTbLk
namespace Go.Proofs.YtlknclkkhincfaaDoor
open Go.RowKit Go.Shelf
set_option linter.unusedVariables false
theorem bs_app (a b : List UInt8) : bs a ++ bs b = bs (a ++ b) := by
  apply ByteArray.ext
  apply Array.ext'
  simp [bs, ByteArray.data_append]
theorem bs_get (l : List UInt8) (i : Nat) (h : i < (bs l).size) (h2 : i < l.length) : (bs l)[i]'h = l[i] := rfl
theorem tabsT_below {w w' : World} (h : TabsT w.heap.size w) (hb : Below w.heap.size w w') : TabsT w'.heap.size w' := fun v hv => h v (hb.trans (hv.mono hb.size))
theorem addr_walk (w : World) (tb : Nat) (T : List En) (h : TabOk w tb T) (lo dm : List UInt8) (hl : lo.length ≤ 2000000) (hd : dm.length ≤ 2000000) (hT : TabsT w.heap.size w) :
    Calls Tryd.prog 20 #[.pointer (some ⟨tb, 0, none⟩), .string (bs lo), .string (bs dm)] w fun e w' => Below w.heap.size w w' ∧ e = .returned (.tuple #[.string (bs (adX (exP T) lo dm).1), .bool (adX (exP T) lo dm).2]) := by
  have e1 : (bs lo ++ ⟨#[64]⟩) ++ bs dm = bs (lo ++ [64] ++ dm) := by
    have : (⟨#[64]⟩ : ByteArray) = bs [64] := rfl
    rw [this, bs_app, bs_app]
  have e2 : (⟨#[64]⟩ : ByteArray) ++ bs dm = bs (64 :: dm) := by
    have : (⟨#[64]⟩ : ByteArray) = bs [64] := rfl
    rw [this, bs_app]; rfl
  have H1 := Lib.hid (exact_walk w tb T h _ _ e1 (by simp; omega) hT)
  have H2 := Lib.hid (fun (w2 : World) (hb : Below w.heap.size w w2) => exact_walk w2 tb T (h.below hb) _ _ e2 (by simp; omega) (tabsT_below hT hb))
  have s1 := bs_size lo
  have s2 := bs_size dm
  have hA : adX (exP T) lo dm = if (exP T (lo ++ [64] ++ dm)).2 = true then exP T (lo ++ [64] ++ dm) else exP T (64 :: dm) := rfl
  rw [hA]
  clear h hT e1 e2 hA
  generalize exP T (lo ++ [64] ++ dm) = r1 at *
  generalize exP T (64 :: dm) = r2 at *
  obtain ⟨v1, b1⟩ := r1
  obtain ⟨v2, b2⟩ := r2
  simp only [] at H1 H2 ⊢
  cases b1 with
  | true =>
    go_enter Tryd.func20, Tryd.ntmps20
    go_wp2_with fail
    refine H1.out.mono ?_
    rintro e w2 ⟨hb2, rfl⟩
    have HB2 := Lib.hid hb2
    clear hb2
    go_wp2_with fail
    go_ret2
    exact ⟨HB2.out, rfl⟩
  | false =>
    go_enter Tryd.func20, Tryd.ntmps20
    go_wp2_with fail
    refine H1.out.mono ?_
    rintro e w2 ⟨hb2, rfl⟩
    have HB2 := Lib.hid hb2
    clear hb2
    go_wp2_with fail
    refine (H2.out w2 HB2.out).mono ?_
    rintro e w3 ⟨hb3, rfl⟩
    have HB3 := Lib.hid (HB2.out.trans (hb3.mono HB2.out.size))
    clear hb3
    go_wp2_with fail
    go_ret2
    exact ⟨HB3.out, rfl⟩
set_option maxRecDepth 100000 in
theorem domain_walk (w : World) (tb : Nat) (T : List En) (h : TabOk w tb T) (dm : List UInt8) (hd : dm.length ≤ 2000000) (hT : TabsT w.heap.size w) :
    Calls Tryd.prog 19 #[.pointer (some ⟨tb, 0, none⟩), .string (bs dm)] w fun e w' => Below w.heap.size w w' ∧ e = .returned (.tuple #[.string (bs (dmX (exP T) dm).1), .bool (dmX (exP T) dm).2]) := by
  have HX := Lib.hid (fun (w2 : World) (hb : Below w.heap.size w w2) (s : ByteArray) (key : List UInt8) (hs : s = bs key) (hl : key.length ≤ 2000000) => exact_walk w2 tb T (h.below hb) s key hs (by omega) (tabsT_below hT hb))
  have H1 := Lib.hid (exact_walk w tb T h (bs dm) dm rfl (by omega) hT)
  have s1 := bs_size dm
  have HF := Lib.hid (from_bs dm)
  have HXN := Lib.hid (fun key (hh : (exP T key).2 = false) => exP_no hh)
  obtain ⟨ex, hex⟩ : ∃ ex, exP T = ex := ⟨_, rfl⟩
  rw [hex] at H1 HX HXN ⊢
  have hA : dmX ex dm = if (ex dm).2 = true then ex dm else dmGo ex (dm.drop 1) := rfl
  obtain ⟨R, hR⟩ : ∃ R, dmX ex dm = R := ⟨_, rfl⟩
  rw [hR]
  rw [hA] at hR
  clear h hT hA hex
  cases b1 : (ex dm).2 with
  | true =>
    rw [b1] at H1 hR
    have HR : Hid ((ex dm).1 = R.1 ∧ R.2 = true) := Lib.hid (by rw [← hR]; simp [b1])
    clear b1 hR
    generalize ex dm = r1 at *
    go_enter Tryd.func19, Tryd.ntmps19
    go_wp2_with fail
    refine H1.out.mono ?_
    rintro e w2 ⟨hb2, rfl⟩
    have HB2 := Lib.hid hb2
    clear hb2
    go_wp2_with fail
    go_ret2
    exact ⟨HB2.out, by rw [← HR.out.1, HR.out.2]; rfl⟩
  | false =>
    rw [b1] at H1 hR
    have HR : Hid (dmGo ex (dm.drop 1) = R) := Lib.hid (by rw [← hR]; simp)
    clear b1 hR
    generalize (ex dm).1 = r1 at *
    go_enter Tryd.func19, Tryd.ntmps19
    go_wp2_with fail
    refine H1.out.mono ?_
    rintro e w2 ⟨hb2, rfl⟩
    have HB2 := Lib.hid hb2
    clear hb2
    go_wp2_with fail
    go_loopg [8] dm.length (fun k s8 wr => ∃ i : Nat, s8 = .int .i64 (i : Int) ∧ 1 ≤ i ∧ i ≤ dm.length + 1 ∧ dm.length - i ≤ k ∧ Hid (Below w.heap.size w wr) ∧ Hid (dmGo ex (dm.drop i) = R))
    case atStart => exact ⟨1, rfl, by omega, by omega, by omega, HB2, HR⟩
    case round =>
      clear HR HB2
      obtain ⟨i, rfl, hi1, hi2, hk, HB, HR⟩ := hrel
      by_cases hlt : i < dm.length
      · have hlt1 : (i : Int) < (dm.length : Int) := by omega
        have hget : dm.drop i = dm[i] :: dm.drop (i + 1) := List.drop_eq_getElem_cons hlt
        have p0 : i < (bs dm).size := by rw [bs_size]; exact hlt
        have hgb : (bs dm)[i]'p0 = dm[i] := bs_get dm i p0 hlt
        have HR2 : Hid (R = if dm[i] = 46 then (if (ex (dm.drop i)).2 = true then ex (dm.drop i) else dmGo ex (dm.drop (i + 1))) else dmGo ex (dm.drop (i + 1))) := Lib.hid (by have h := HR.out; rw [hget, dmGo, ← hget] at h; exact h.symm)
        by_cases h46 : dm[i] = 46
        · have hn : ((((bs dm)[i]'p0).toNat : Int) != 46) = false := by rw [hgb, h46]; rfl
          have HX1 := Lib.hid (HX.out wr HB.out _ _ (HF.out i) (by rw [List.length_drop]; omega))
          cases b3 : (ex (dm.drop i)).2 with
          | true =>
            rw [b3] at HX1
            have HR3 : Hid (R = ex (dm.drop i) ∧ R.2 = true) := Lib.hid (by have := HR2.out; rw [if_pos h46, if_pos b3] at this; exact ⟨this, by rw [this]; exact b3⟩)
            clear hgb hget HR2 h46 b3 HR
            generalize ex (dm.drop i) = r3 at *
            go_wp2_with fail
            refine HX1.out.mono ?_
            rintro e w3 ⟨hb3, rfl⟩
            have HB3 := Lib.hid (HB.out.trans (hb3.mono HB.out.size))
            clear hb3
            go_wp2_with fail
            go_ret2
            exact ⟨HB3.out, by rw [HR3.out.2, HR3.out.1]; rfl⟩
          | false =>
            rw [b3] at HX1
            have HR3 : Hid (dmGo ex (dm.drop (i + 1)) = R) := Lib.hid (by have := HR2.out; rw [if_pos h46, if_neg (by rw [b3]; simp)] at this; exact this.symm)
            clear hgb hget HR2 h46 b3 HR
            go_wp2_with fail
            refine HX1.out.mono ?_
            rintro e w3 ⟨hb3, rfl⟩
            have HB3 := Lib.hid (HB.out.trans (hb3.mono HB.out.size))
            clear hb3
            go_wp2_with fail
            go_roundg (gk - 1)
            case rel => exact ⟨i + 1, by go_num, by omega, by omega, by omega, HB3, HR3⟩
            case measure => omega
        · have hn : ((((bs dm)[i]'p0).toNat : Int) != 46) = true := by
            rw [hgb, bne_iff_ne]; intro e; exact h46 (UInt8.toNat_inj.1 (by have : (46 : UInt8).toNat = 46 := rfl; omega))
          have HR3 : Hid (dmGo ex (dm.drop (i + 1)) = R) := Lib.hid (by have := HR2.out; rw [if_neg h46] at this; exact this.symm)
          clear hgb hget HR2 h46 HR
          go_wp2_with fail
          go_roundg (gk - 1)
          case rel => exact ⟨i + 1, by go_num, by omega, by omega, by omega, HB, HR3⟩
          case measure => omega
      · have hlt1 : ¬ (i : Int) < (dm.length : Int) := by omega
        have HR3 : Hid (R = ([], false)) := Lib.hid (by rw [← HR.out, List.drop_of_length_le (by omega)]; rfl)
        clear HR
        go_wp2_with fail
        go_ret2
        exact ⟨HB.out, by rw [HR3.out]; rfl⟩
end Go.Proofs.YtlknclkkhincfaaDoor
