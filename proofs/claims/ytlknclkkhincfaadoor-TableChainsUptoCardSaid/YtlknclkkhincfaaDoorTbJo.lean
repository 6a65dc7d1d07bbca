/-
  The walks of slices.Clone, IndexFunc, DeleteFunc at tables, of Join. Conditions: the sizes.
-/
import Derived.Test.YtlknclkkhincfaaDoorTbRa
import Derived.Test.YtlknclkkhincfaaDoorTbAsk
import Derived.Lib.SliceRun
import Derived.Lib.LazyBuf
namespace Go.Proofs.YtlknclkkhincfaaDoor
open Go.RowKit Go.Shelf
set_option linter.unusedVariables false
def ptV (o : Option Nat) : Value := .pointer (o.map fun b => ⟨b, 0, none⟩)
theorem uxP : UX Tryd.prog 49 30 1 := by
  obtain ⟨i, h1, h2, h3, h4⟩ := info_parts (show (Tryd.prog.info? 30).map (fun i => (i.zero, i.size, i.bytes)) = some (some (.pointer none), 1, 8) by kernel_rfl)
  exact ⟨Tryd.underlying49, ⟨i, _, h1, h2, rfl, h3, by omega⟩, by omega⟩
theorem pt_one (L : List (Option Nat)) : ∀ u ∈ L.map ptV, u.oneCell' = true := fun u hu => by
  obtain ⟨o, -, rfl⟩ := List.mem_map.1 hu
  rfl
theorem OwnX.news1 {sz : Nat} {w : World} {g : Option Nat} {A : Option Addr} {n c : Nat} {xs : List Value} (h : OwnX sz w g (.slice A n c) xs) : (A = none → n = 0) ∧ ∀ ad, A = some ad → ∀ j u, xs[j]? = some u → w.cell? (ad.add j) = some u := by
  obtain ⟨h1, h2, h3⟩ := h.form
  rcases Nat.eq_zero_or_pos c with h0 | h0
  · have hn : n = 0 := by omega
    rw [hn, Nat.zero_mul] at h1
    have hx := List.eq_nil_of_length_eq_zero h1
    subst hx
    exact ⟨fun _ => hn, fun ad _ j u hu => by simp at hu⟩
  · obtain ⟨b, off, -, rfl, hlt, hc, -⟩ := h.at_ h0
    refine ⟨(fun e => by cases e), fun ad e j u hu => ?_⟩
    obtain rfl := Option.some.inj e
    rw [Addr.add_lit, hc j (List.getElem?_eq_some_iff.1 hu).1, hu]
/-- a row that nobody has yet -/
def FromB (B : Nat) (g : Option Nat) : Prop := ∀ k, g = some k → B ≤ k
set_option maxRecDepth 100000 in
theorem clone_walk (w : World) (A : Option Addr) (n c : Nat) (g : Option Nat) (L : List (Option Nat)) (h : OwnX 1 w g (.slice A n c) (L.map ptV)) (hl : L.length ≤ 1000000) :
    Calls Tryd.prog 34 #[.slice A n c] w fun e w' => ∃ v g', e = .returned v ∧ OwnX 1 w' g' v (L.map ptV) ∧ FromB w.heap.size g' ∧ Below w.heap.size w w' := by
  obtain ⟨e1, e2, e3⟩ := h.form
  rw [List.length_map, Nat.mul_one] at e1
  have q22 : ∀ (w : World) (a : Option Addr) (n c n' c' : Nat), (binOp .eql 49 (.slice a n c) (.slice none n' c')).run Tryd.prog w = .ok (.bool a.isNone) w := fun w a n c n' c' => Lib.run_eql_slice_nil w _ _ a n c n' c' Tryd.underlying49
  cases A with
  | none =>
    have hn := h.news1.1 rfl
    have hL : L = [] := List.eq_nil_of_length_eq_zero (by omega)
    subst hL
    clear h e1 hl
    go_enter Tryd.func34, Tryd.ntmps34
    go_wp2_with fail
    go_ret
    exact ⟨_, none, rfl, OwnX.nil _ none, (fun k h => by cases h), Below.refl _ _⟩
  | some a =>
    have hb := (Below.refl w.heap.size w).alloc (Nat.le_refl _) (.cells #[] 30)
    have HX := Lib.hid (h.below hb fun k hk => h.lt hk).news1.2
    have HB := Lib.hid hb
    clear h hb
    go_enter Tryd.func34, Tryd.ntmps34
    go_wp2_with (at_builtin; refine wpList_appX _ uxP (.tmp 5) (.tmp 6) rfl rfl rfl (OwnX.nil _ _) (some a) n c rfl (L.map ptV) (by rw [List.length_map, Nat.mul_one]; exact e1) (fun h => by cases h) HX.out (pt_one _) (by simp; omega) ?_; intro v3 g3 w3 hX3 hG3 ho3; have HX3 := Lib.hid hX3; have HG3 := Lib.hid hG3; have HO3 := Lib.hid ho3; clear hX3 hG3 ho3)
    go_ret
    refine ⟨_, g3, rfl, HX3.out, fun k hk => ?_, belowX HB.out HG3.out (fun k h => by cases h) HB.out.size⟩
    rcases HO3.out with h | h
    · rw [h] at hk; cases hk
    · have := h.symm.trans hk
      injection this with this
      have := HB.out.size
      omega
set_option maxRecDepth 100000 in
theorem isnil_walk (o : Option Nat) (w : World) : Calls Tryd.prog 35 #[ptV o] w fun e w' => w = w' ∧ e = .returned (.bool o.isNone) := by
  cases o with
  | none =>
    show Calls _ _ #[.pointer none] _ _
    go_enter Tryd.func35, Tryd.ntmps35
    go_wp2
    go_ret
    exact ⟨rfl, rfl⟩
  | some b =>
    show Calls _ _ #[.pointer (some ⟨b, 0, none⟩)] _ _
    go_enter Tryd.func35, Tryd.ntmps35
    go_wp2
    go_ret
    exact ⟨rfl, rfl⟩
def psV (K : List Nat) : List Value := K.map fun b => ptV (some b)
theorem psV_len (K : List Nat) : (psV K).length = K.length := List.length_map _
theorem psV_all : ∀ L : List (Option Nat), (∀ o ∈ L, o ≠ none) → L.map ptV = psV (L.filterMap id)
  | [], _ => rfl
  | none :: r, h => absurd rfl (h none (by simp))
  | some b :: r, h => by
    have ih := psV_all r fun o ho => h o (by simp [ho])
    rw [List.map_cons, ih]
    rfl
theorem keep_some {L : List (Option Nat)} {j b : Nat} (h : L[j]? = some (some b)) : (L.take (j + 1)).filterMap id = (L.take j).filterMap id ++ [b] := by
  obtain ⟨h1, h2⟩ := List.getElem?_eq_some_iff.1 h
  rw [List.take_succ_eq_append_getElem h1, List.filterMap_append, h2]
  rfl
theorem keep_none {L : List (Option Nat)} {j : Nat} (h : L[j]? = some none) : (L.take (j + 1)).filterMap id = (L.take j).filterMap id := by
  obtain ⟨h1, h2⟩ := List.getElem?_eq_some_iff.1 h
  rw [List.take_succ_eq_append_getElem h1, List.filterMap_append, h2]
  simp
def IxP (L : List (Option Nat)) (r : Int) : Prop := (r = -1 ∧ ∀ o ∈ L, o ≠ none) ∨ ∃ i : Nat, r = (i : Int) ∧ L[i]? = some none ∧ ∀ o ∈ L.take i, o ≠ none
set_option maxRecDepth 100000 in
theorem ixfunc_walk (w : World) (A : Option Addr) (n c : Nat) (g : Option Nat) (L : List (Option Nat)) (h : OwnX 1 w g (.slice A n c) (L.map ptV)) (hl : L.length ≤ 1000000) :
    Calls Tryd.prog 58 #[.slice A n c, .func (.func 35) #[] #[]] w fun e w' => w = w' ∧ ∃ r, e = .returned (.int .i64 r) ∧ IxP L r := by
  obtain ⟨e1, e2, e3⟩ := h.form
  rw [List.length_map, Nat.mul_one] at e1
  have HN := Lib.hid h.news1.2
  have HA : Hid (n ≠ 0 → ∃ b off, A = some ⟨b, off, none⟩) := Lib.hid (fun hn => by
    obtain ⟨b, off, -, hA, -⟩ := h.at_ (by omega)
    exact ⟨b, off, hA⟩)
  clear h
  go_enter Tryd.func58, Tryd.ntmps58
  go_wp2_with fail
  go_loopg [8] n (fun k s8 wr => ∃ j : Nat, w = wr ∧ s8 = .int .i64 (j : Int) ∧ j + k = n ∧ Hid (∀ o ∈ L.take j, o ≠ none))
  case atStart => exact ⟨0, rfl, rfl, by omega, Lib.hid (by simp)⟩
  case round =>
    obtain ⟨j, rfl, rfl, hj, HO⟩ := hrel
    by_cases hlt : j < n
    · have hlt1 : (j : Int) < (n : Int) := by omega
      obtain ⟨o, ho⟩ : ∃ o, L[j]? = some o := ⟨_, List.getElem?_eq_getElem (by omega)⟩
      obtain ⟨b, off, rfl⟩ := HA.out (by omega)
      have kc := HN.out _ rfl j (ptV o) (by rw [List.getElem?_map, ho]; rfl)
      rw [Addr.add_lit] at kc
      have HK := Lib.hid (isnil_walk o w)
      cases o with
      | none =>
        have HO2 : Hid (IxP L (j : Int)) := Lib.hid (.inr ⟨j, rfl, ho, HO.out⟩)
        clear ho
        go_wp2_with fail
        refine HK.out.mono ?_
        rintro e w2 ⟨rfl, rfl⟩
        go_wp2_with fail
        go_ret
        exact ⟨rfl, _, rfl, HO2.out⟩
      | some x =>
        have HO2 : Hid (∀ o ∈ L.take (j + 1), o ≠ none) := Lib.hid (fun o hoo => by
          obtain ⟨h1, h2⟩ := List.getElem?_eq_some_iff.1 ho
          rw [List.take_succ_eq_append_getElem h1] at hoo
          rcases List.mem_append.1 hoo with hoo | hoo
          · exact HO.out o hoo
          · obtain rfl : o = _ := List.mem_singleton.1 hoo
            rw [h2]; simp)
        clear ho
        go_wp2_with fail
        refine HK.out.mono ?_
        rintro e w2 ⟨rfl, rfl⟩
        go_wp2_with fail
        go_roundg (gk - 1)
        case rel => exact ⟨j + 1, rfl, by go_num, by omega, HO2⟩
        case measure => omega
    · have hlt1 : ¬ (j : Int) < (n : Int) := by omega
      have HO2 : Hid (IxP L (-1)) := Lib.hid (.inl ⟨rfl, by have := HO.out; rw [List.take_of_length_le (by omega)] at this; exact this⟩)
      clear HO
      go_wp2_with fail
      go_ret
      exact ⟨rfl, _, rfl, HO2.out⟩
end Go.Proofs.YtlknclkkhincfaaDoor
