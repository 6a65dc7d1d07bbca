/-
  The walks of Len, At, Exact, Address, Domain. Conditions: the sizes; the tables.
-/
import Derived.Test.YtlknclkkhincfaaDoorTbPla
import Derived.Test.YtlknclkkhincfaaDoorTbCut
namespace Go.Proofs.YtlknclkkhincfaaDoor
open Go.RowKit Go.Shelf
set_option linter.unusedVariables false
/-! ### what is answered -/
def lookE (T : List En) (key : List UInt8) : List UInt8 × Bool := match T[posE T key]? with
  | some e => if e.k = key then (e.v, true) else ([], false)
  | none => ([], false)
theorem lookE_has (T : List En) (key : List UInt8) : (lookE T key).2 = hasE T key := by
  unfold lookE hasE
  cases T[posE T key]? with
  | none => rfl
  | some e => by_cases h : e.k = key <;> simp [h]
theorem lookE_no {T : List En} {key : List UInt8} (h : hasE T key = false) : lookE T key = ([], false) := by
  unfold hasE at h
  unfold lookE
  cases e : T[posE T key]? with
  | none => rfl
  | some x =>
    rw [e] at h
    have : ¬ x.k = key := by simpa using h
    simp [this]
theorem lookE_yes {T : List En} {key : List UInt8} (h : hasE T key = true) : ∃ x, T[posE T key]? = some x ∧ lookE T key = (x.v, true) := by
  unfold hasE at h
  unfold lookE
  cases e : T[posE T key]? with
  | none => rw [e] at h; cases h
  | some x =>
    rw [e] at h
    have : x.k = key := by simpa using h
    exact ⟨x, rfl, by simp [this]⟩
def exP (T : List En) (key : List UInt8) : List UInt8 × Bool := lookE T (Lib.mapD lowU key)
def adX (ex : List UInt8 → List UInt8 × Bool) (lo dm : List UInt8) : List UInt8 × Bool := if (ex (lo ++ [64] ++ dm)).2 = true then ex (lo ++ [64] ++ dm) else ex (64 :: dm)
def dmGo (ex : List UInt8 → List UInt8 × Bool) : List UInt8 → List UInt8 × Bool
  | [] => ([], false)
  | c :: r => if c = 46 then (if (ex (c :: r)).2 = true then ex (c :: r) else dmGo ex r) else dmGo ex r
def dmX (ex : List UInt8 → List UInt8 × Bool) (dm : List UInt8) : List UInt8 × Bool := if (ex dm).2 = true then ex dm else dmGo ex (dm.drop 1)
theorem exP_no {T : List En} {key : List UInt8} (h : (exP T key).2 = false) : exP T key = ([], false) := by
  unfold exP at h ⊢
  rw [lookE_has] at h
  exact lookE_no h
/-- a table that can be asked -/
structure TabOk (w : World) (tb : Nat) (T : List En) : Prop where
  st : TabSt w tb T
  so : sortE T
  le : T.length ≤ 2000
theorem TabOk.below {w w' : World} {tb : Nat} {T : List En} (h : TabOk w tb T) (hb : Below w.heap.size w w') : TabOk w' tb T := ⟨h.st.below hb, h.so, h.le⟩
/-! ### the walks -/
theorem len_walk (w : World) (tb : Nat) (T : List En) (h : TabOk w tb T) : Calls Tryd.prog 9 #[.pointer (some ⟨tb, 0, none⟩)] w fun e w' => w = w' ∧ e = .returned (.int .i64 (T.length : Int)) := by
  obtain ⟨htb, A, c, c0, -⟩ := h.st.cells
  clear h
  go_enter Tryd.func9, Tryd.ntmps9
  go_wp2
  go_ret
  exact ⟨rfl, rfl⟩
def atE (T : List En) (k : Int) : List UInt8 × List UInt8 × Bool := match (if k < 0 then none else T[k.toNat]?) with
  | some e => (e.k, e.v, true)
  | none => ([], [], false)
set_option maxRecDepth 100000 in
theorem at_walk (w : World) (tb : Nat) (T : List En) (h : TabOk w tb T) (k : Int) : Calls Tryd.prog 10 #[.pointer (some ⟨tb, 0, none⟩), .int .i64 k] w fun e w' => Below w.heap.size w w' ∧ e = .returned (.tuple #[.string (bs (atE T k).1), .string (bs (atE T k).2.1), .bool (atE T k).2.2]) := by
  obtain ⟨htb, A, c, c0, h1, h2, h3⟩ := h.st.cells
  unfold maxLen at h2
  have HB := Lib.hid (Below.refl w.heap.size w)
  have HD := Lib.hid fun n => bdrewN (Below.refl w.heap.size w) n
  clear h
  by_cases hk : k < 0
  · have HE : Hid (atE T k = ([], [], false)) := Lib.hid (by unfold atE; rw [if_pos hk])
    go_enter Tryd.func10, Tryd.ntmps10
    go_wp2
    go_ret3
    exact ⟨HB.out, by rw [HE.out]; rfl⟩
  · by_cases hk2 : k < (T.length : Int)
    · obtain ⟨j, rfl⟩ : ∃ j : Nat, k = j := ⟨k.toNat, by omega⟩
      obtain ⟨x, hx⟩ : ∃ x, T[j]? = some x := ⟨_, List.getElem?_eq_getElem (by omega)⟩
      rcases h3 with h3 | ⟨b, off, rfl, hbl, hcl⟩
      · rw [h3] at hx; simp at hx
      obtain ⟨q0, q1⟩ := hcl j x hx
      have HE : Hid (atE T (j : Int) = (x.k, x.v, true)) := Lib.hid (by unfold atE; rw [if_neg hk, Int.toNat_natCast, hx])
      have hj2 : j < T.length := by omega
      clear hcl hx
      go_enter Tryd.func10, Tryd.ntmps10
      go_wp2
      go_quiet (fail)
      go_wp2
      go_ret3
      exact ⟨HD.out _, by rw [HE.out]; rfl⟩
    · have HE : Hid (atE T k = ([], [], false)) := Lib.hid (by unfold atE; rw [if_neg hk, List.getElem?_eq_none (by omega)])
      go_enter Tryd.func10, Tryd.ntmps10
      go_wp2
      go_ret3
      exact ⟨HB.out, by rw [HE.out]; rfl⟩
set_option maxRecDepth 100000 in
theorem exact_walk (w : World) (tb : Nat) (T : List En) (h : TabOk w tb T) (s : ByteArray) (key : List UInt8) (hs : s = bs key) (hl : key.length ≤ 10000000) (hT : TabsT w.heap.size w) :
    Calls Tryd.prog 21 #[.pointer (some ⟨tb, 0, none⟩), .string s] w fun e w' => Below w.heap.size w w' ∧ e = .returned (.tuple #[.string (bs (exP T key).1), .bool (exP T key).2]) := by
  have HLo := Lib.hid (lower_walk s w (by rw [hs, bs_size]; omega) hT)
  rw [hs, bs_list] at HLo
  have HP := Lib.hid (fun (w2 : World) (hb : Below w.heap.size w w2) => place_walk w2 tb T (Lib.mapD lowU key) (h.below hb).st h.so (by have := h.le; omega))
  have HC := Lib.hid (fun (w2 : World) (hb : Below w.heap.size w w2) => (h.below hb).st.cells)
  obtain ⟨ky, hky⟩ : ∃ ky, Lib.mapD lowU key = ky := ⟨_, rfl⟩
  have hex : exP T key = lookE T ky := by unfold exP; rw [hky]
  rw [hky] at HLo HP
  rw [hex]
  subst hs
  clear h hT hl hky hex
  cases hh : hasE T ky with
  | false =>
    have HE := Lib.hid (lookE_no hh)
    rw [hh] at HP
    clear hh
    go_enter Tryd.func21, Tryd.ntmps21
    go_wp2_with fail
    refine HLo.out.mono ?_
    rintro e w2 ⟨hb2, rfl⟩
    have HB2 := Lib.hid hb2
    clear hb2
    go_wp2_with fail
    refine (HP.out w2 HB2.out).mono ?_
    rintro e w3 ⟨hb3, rfl⟩
    have HB3 := Lib.hid (HB2.out.trans (hb3.mono HB2.out.size))
    clear hb3
    go_wp2_with fail
    go_ret2
    exact ⟨HB3.out, by rw [HE.out]; rfl⟩
  | true =>
    obtain ⟨x, hx, hlk⟩ := lookE_yes hh
    have HE := Lib.hid hlk
    have HX := Lib.hid hx
    rw [hh] at HP
    clear hh hlk hx
    go_enter Tryd.func21, Tryd.ntmps21
    go_wp2_with fail
    refine HLo.out.mono ?_
    rintro e w2 ⟨hb2, rfl⟩
    have HB2 := Lib.hid hb2
    clear hb2
    go_wp2_with fail
    refine (HP.out w2 HB2.out).mono ?_
    rintro e w3 ⟨hb3, rfl⟩
    have hb3' := HB2.out.trans (hb3.mono HB2.out.size)
    have HB3 := Lib.hid hb3'
    obtain ⟨htb, A, c, c0, h1, h2, h3⟩ := HC.out w3 hb3'
    unfold maxLen at h2
    rcases h3 with h3 | ⟨b, off, rfl, hbl, hcl⟩
    · have := HX.out; rw [h3] at this; simp at this
    obtain ⟨q0, q1⟩ := hcl _ x HX.out
    have hj2 : posE T ky < T.length := (List.getElem?_eq_some_iff.1 HX.out).1
    clear hb3 hb3' hcl
    go_wp2_with fail
    go_ret2
    exact ⟨HB3.out, by rw [HE.out]; rfl⟩
end Go.Proofs.YtlknclkkhincfaaDoor
