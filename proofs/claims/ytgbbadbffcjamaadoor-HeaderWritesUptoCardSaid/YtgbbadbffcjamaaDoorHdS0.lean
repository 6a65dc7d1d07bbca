/-
  Steps of the fields of a content, in plain words; bytes.Cut at one byte, with what is left. Conditions: the sizes.
-/
import Derived.Test.YtgbbadbffcjamaaDoorFd
namespace Go.Proofs.YtgbbadbffcjamaaDoor
open Go.RowKit
set_option linter.unusedVariables false
section
variable {D : List UInt8} {f at_ : Nat} {out L0 : List Fd} {g : Fd}
theorem splH_more (h : at_ < D.length) (hb : blH (lnP (D.drop at_)).1 = true) : splH D (f + 1) at_ (L0 ++ [g]) = splH D f (at_ + (lnP (D.drop at_)).2) (L0 ++ [g.more D (at_ + (lnP (D.drop at_)).1.length) (at_ + (lnP (D.drop at_)).2)]) := by
  rw [splH, if_pos h]
  unfold stepH
  rw [if_pos ⟨by simp, hb⟩]
  simp
theorem splH_new (h : at_ < D.length) (hb : ¬ (out ≠ [] ∧ blH (lnP (D.drop at_)).1 = true)) {nm rs : List UInt8} (hc : colP (lnP (D.drop at_)).1 = some (nm, rs)) :
    splH D (f + 1) at_ out = splH D f (at_ + (lnP (D.drop at_)).2) (out ++ [⟨nm, rs, at_, at_ + (lnP (D.drop at_)).2⟩]) := by
  rw [splH, if_pos h]
  unfold stepH
  rw [if_neg hb, hc]
theorem splH_stop (h : at_ < D.length) (hb : ¬ (out ≠ [] ∧ blH (lnP (D.drop at_)).1 = true)) (hc : colP (lnP (D.drop at_)).1 = none) :
    splH D (f + 1) at_ out = (out, if (lnP (D.drop at_)).1 = [] then at_ + (lnP (D.drop at_)).2 else at_) := by
  rw [splH, if_pos h]
  unfold stepH
  rw [if_neg hb, hc]
end
theorem split11_of {D : List UInt8} {out : List Fd} {b : Nat} (h : splP D = (out, b)) :
    split11 D = if 65536 < (match out.getLast? with | some g => g.tt | none => 0) then ([], 0, 111) else if 1000 < out.length then ([], 0, 112) else (out, b, 0) := by
  unfold split11
  rw [h]
  rfl
/-- where a slice begins behind some elements -/
def subA (A : Option Addr) (c j : Nat) : Option Addr := if c = j then A else A.map fun a => a.add j
theorem RB.subA {w : World} {B : Nat} {A : Option Addr} {l : List UInt8} (h : RB w B A l) (c j : Nat) (hc : l.length ≤ c) : RB w B (subA A c j) (l.drop j) := by
  unfold Go.Proofs.YtgbbadbffcjamaaDoor.subA
  by_cases hcj : c = j
  · exact .inl (List.drop_eq_nil_of_le (by omega))
  · rw [if_neg hcj]
    rcases h with rfl | ⟨b, off, rfl, hb, hcl⟩
    · exact .inl (by simp)
    · have := (show RB w B (some ⟨b, off, none⟩) l from .inr ⟨b, off, rfl, hb, hcl⟩).drop j
      simpa [Addr.add_lit] using this
theorem slice_sub (A : Option Addr) (n c j k : Nat) (h1 : j ≤ k) (h2 : k ≤ c) (W : World) : (Instr.slice 22 (.slice A n c) (some (.int .i64 (j : Int))) (some (.int .i64 (k : Int))) none).run Tryd.prog W = .ok (.slice (subA A c j) (k - j) (c - j)) W := by
  have ht' : Tryd.prog.underlying 22 = some (.slice (Tryd.prog.elem 22)) := by simp [Program.elem, Tryd.underlying22]
  have he : Tryd.prog.elem 22 = 5 := by simp [Program.elem, Tryd.underlying22]
  rw [run_slice_lh W 22 _ _ _ ht' .i64 .i64 _ _ (by omega) (by omega) (by omega), he, Tryd.sizeOf5]
  simp only [Result.andThen, sliced, Int.toNat_natCast, Nat.mul_one]
  rfl
theorem slice_at (b off n c at_ : Nat) (h : at_ < n) (hc : n ≤ c) (W : World) : (Instr.slice 22 (.slice (some ⟨b, off, none⟩) n c) (some (.int .i64 (at_ : Int))) none none).run Tryd.prog W = .ok (.slice (some ⟨b, off + at_, none⟩) (n - at_) (c - at_)) W := by
  have ht' : Tryd.prog.underlying 22 = some (.slice (Tryd.prog.elem 22)) := by simp [Program.elem, Tryd.underlying22]
  have he : Tryd.prog.elem 22 = 5 := by simp [Program.elem, Tryd.underlying22]
  rw [run_slice_l W 22 _ _ _ ht' .i64 _ (by omega) (by omega), he, Tryd.sizeOf5]
  have hne : ¬ c = at_ := by omega
  simp [Result.andThen, sliced, hne, Addr.add_lit]
/-- bytes.Cut at one byte, what is behind it as a list -/
theorem cutb_walk (w : World) {B b off : Nat} {l : List UInt8} (h : RB w B (some ⟨b, off, none⟩) l) (n c b2 o2 d : Nat) (hn : n = l.length) (hc : n ≤ c) (hl : n ≤ 4611686018427387904) (cv : Int) (cu : UInt8) (hcv : cv = (cu.toNat : Int)) (h2 : w.cell? ⟨b2, o2, none⟩ = some (.int .u8 cv)) :
    Calls Tryd.prog 21 #[.slice (some ⟨b, off, none⟩) n c, .slice (some ⟨b2, o2, none⟩) 1 d] w fun e w' => (∃ q, w' = w.drewN q) ∧
      ((cutAt cu l = none ∧ e = .returned (.tuple #[.slice (some ⟨b, off, none⟩) n c, .slice none 0 0, .bool false])) ∨
       ∃ x y A3 c3, cutAt cu l = some (x, y) ∧ e = .returned (.tuple #[.slice (some ⟨b, off, none⟩) x.length c, .slice A3 y.length c3, .bool true]) ∧ RB w B A3 y ∧ y.length ≤ c3 ∧ c3 ≤ c) := by
  refine (cut_walk w h n c b2 o2 d hn hc hl cv cu hcv h2).mono ?_
  rintro e w' ⟨hw, hcase⟩
  refine ⟨hw, ?_⟩
  rcases hcase with hcase | ⟨x, y, h1, h3⟩
  · exact .inl hcase
  · right
    have h4 := (cutAt_some h1).1
    have h5 : l.length = x.length + (y.length + 1) := by rw [h4]; simp
    have h6 : n - (x.length + 1) = y.length := by omega
    have h7 : l.drop (x.length + 1) = y := by
      rw [h4, show x.length + 1 = (x ++ [cu]).length by simp, show x ++ cu :: y = (x ++ [cu]) ++ y by simp, List.drop_left]
    refine ⟨x, y, _, c - (x.length + 1), h1, by rw [h3, h6], ?_, by omega, by omega⟩
    by_cases hce : c = x.length + 1
    · exact .inl (List.eq_nil_of_length_eq_zero (by omega))
    · rw [if_neg hce, ← h7]
      simp only [Option.map_some, Addr.add_lit]
      exact h.drop _
/-- the library's variable MaxLen is a number -/
def Mx (w : World) : Prop := ∃ m, w.cell? ⟨0, 0, none⟩ = some (.int .i64 m)
theorem Mx.below {w w' : World} (h : Mx w) (hb : Below w.heap.size w w') : Mx w' := by
  obtain ⟨m, hm⟩ := h
  exact ⟨m, (hb.cell (World.block_lt_of_cell? _ _ hm)).trans hm⟩
/-- what Split answers -/
def SplitPost (w : World) (l : List UInt8) (e : Ending) (w' : World) : Prop :=
  Below w.heap.size w w' ∧ ∃ A2 c2, e = .returned (.tuple #[.slice A2 (split11 l).1.length c2, .int .i64 ((split11 l).2.1 : Int), .int .i64 (split11 l).2.2]) ∧ RF w' w'.heap.size A2 (split11 l).1 ∧ (split11 l).1.length ≤ c2 ∧ c2 ≤ maxLen
theorem SplitPost.mk {w w' : World} {l : List UInt8} {e : Ending} {L : List Fd} {b : Nat} {er : Int} (hE : split11 l = (L, b, er)) (hb : Below w.heap.size w w') (A2 : Option Addr) (c2 : Nat) (he : e = .returned (.tuple #[.slice A2 L.length c2, .int .i64 (b : Int), .int .i64 er])) (hr : RF w' w'.heap.size A2 L) (h1 : L.length ≤ c2) (h2 : c2 ≤ maxLen) : SplitPost w l e w' := by
  unfold SplitPost
  rw [hE]
  exact ⟨hb, A2, c2, he, hr, h1, h2⟩
theorem conv_rb {w : World} {B : Nat} {A : Option Addr} {l : List UInt8} (h : RB w B A l) (n c : Nat) (hn : n = l.length) : (convert 22 9 (.slice A n c)).run Tryd.prog w = .ok (.string ⟨l.toArray⟩) w :=
  run_convRB (P := Tryd.prog) 22 9 5 Tryd.underlying22 Tryd.underlying5 Tryd.underlying9 h n c hn
theorem getLast_some {L : List Fd} (h : L ≠ []) : ∃ L0 g, L = L0 ++ [g] := ⟨L.dropLast, L.getLast h, (List.dropLast_concat_getLast h).symm⟩
theorem sv_size (l : List UInt8) : (⟨l.toArray⟩ : ByteArray).size = l.length := by rw [Lib.size_eq]
theorem fdc_bd (g : Fd) (x : List UInt8) : (fdc g).set 1 (sv x) = fdc ⟨g.nm, x, g.fr, g.tt⟩ := rfl
theorem fdc_tt (g : Fd) (x : Nat) : (fdc g).set 3 (.int .i64 (x : Int)) = fdc ⟨g.nm, g.bd, g.fr, x⟩ := rfl
theorem OwnF.conts {w : World} {base b c n k0 : Nat} {L0 : List Fd} {g : Fd} (h : OwnF w base (.slice (some ⟨b, 0, none⟩) n c) (L0 ++ [g])) (hn : n = (L0 ++ [g]).length) (hk : k0 = L0.length) (x : List UInt8) (t : Nat) :
    OwnF (((w.setCell ⟨b, k0 * 4 + 1, none⟩ (.string ⟨x.toArray⟩)).setCell ⟨b, k0 * 4 + 3, none⟩ (.int .i64 (t : Int))).drew) base (.slice (some ⟨b, 0, none⟩) n c) (L0 ++ [⟨g.nm, x, g.fr, t⟩]) := by
  subst hk
  have h1 := h.set_ hn ⟨g.nm, x, g.fr, g.tt⟩ 1 (sv x) (by omega) (fdc_bd g x)
  exact h1.set_ (by rw [hn]; simp) ⟨g.nm, x, g.fr, t⟩ 3 (.int .i64 (t : Int)) (by omega) (fdc_tt ⟨g.nm, x, g.fr, g.tt⟩ t)
theorem OwnF.alloc {w : World} {base : Nat} {v : Value} {L : List Fd} (h : OwnF w base v L) (o : Obj) : OwnF (w.alloc o) base v L := h.kept (World.grownBy_alloc w o none) (by cases v.ownBlock <;> simp)
section
variable {D X : List UInt8} {at_ nx xn qq : Nat} {out L0 : List Fd} {g : Fd}
theorem spl_more {Bd : List UInt8} (he : ∃ f, D.length ≤ at_ + f ∧ splP D = splH D f at_ (L0 ++ [g])) (hl : lnP (D.drop at_) = (X, qq)) (hX : blH X = true) (hat : at_ < D.length) (hq : 1 ≤ qq) (hxn : xn = X.length) (hnx : nx = at_ + qq)
    (hg : g.more D (at_ + xn) (at_ + qq) = ⟨g.nm, Bd, g.fr, at_ + qq⟩) : ∃ f, D.length ≤ nx + f ∧ splP D = splH D f nx (L0 ++ [⟨g.nm, Bd, g.fr, nx⟩]) := by
  obtain ⟨f, h1, h2⟩ := he
  obtain ⟨f, rfl⟩ : ∃ f', f = f' + 1 := ⟨f - 1, by omega⟩
  subst hnx hxn
  refine ⟨f, by omega, ?_⟩
  rw [h2, splH_more hat (by rw [hl]; exact hX), hl]
  simp only [hg]
theorem spl_new {nm rs : List UInt8} (he : ∃ f, D.length ≤ at_ + f ∧ splP D = splH D f at_ out) (hl : lnP (D.drop at_) = (X, qq)) (hX : ¬ (out ≠ [] ∧ blH X = true)) (hc : cutAt 58 X = some (nm, rs)) (hn : nameB nm = true) (hat : at_ < D.length) (hq : 1 ≤ qq) (hnx : nx = at_ + qq) :
    ∃ f, D.length ≤ nx + f ∧ splP D = splH D f nx (out ++ [⟨nm, rs, at_, nx⟩]) := by
  obtain ⟨f, h1, h2⟩ := he
  obtain ⟨f, rfl⟩ : ∃ f', f = f' + 1 := ⟨f - 1, by omega⟩
  subst hnx
  refine ⟨f, by omega, ?_⟩
  rw [h2, splH_new hat (by rw [hl]; exact hX) (nm := nm) (rs := rs) (by rw [hl]; unfold colP; rw [hc]; exact if_pos hn), hl]
theorem spl_stop (he : ∃ f, D.length ≤ at_ + f ∧ splP D = splH D f at_ out) (hl : lnP (D.drop at_) = (X, qq)) (hX : ¬ (out ≠ [] ∧ blH X = true)) (hc : cutAt 58 X = none ∨ ∃ nm rs, cutAt 58 X = some (nm, rs) ∧ nameB nm = false) (hat : at_ < D.length) (hnx : nx = at_ + qq) :
    splP D = (out, if X = [] then nx else at_) := by
  obtain ⟨f, h1, h2⟩ := he
  obtain ⟨f, rfl⟩ : ∃ f', f = f' + 1 := ⟨f - 1, by omega⟩
  subst hnx
  rw [h2, splH_stop hat (by rw [hl]; exact hX) (by
    rw [hl]; unfold colP
    rcases hc with hc | ⟨nm, rs, hc, hn⟩
    · rw [hc]
    · rw [hc]; show (if nameB nm = true then _ else _) = _; rw [if_neg (by rw [hn]; simp)]), hl]
end
theorem three_ways {w : World} {B b off no xn : Nat} {out : List Fd} {X : List UInt8} (hno : no = out.length) (hxn : xn = X.length) (hA : ¬ (out ≠ [] ∧ blH X = true)) (hr : RB w B (some ⟨b, off, none⟩) X) :
    no < 1 ∨ (1 ≤ no ∧ xn < 1) ∨ (1 ≤ no ∧ 1 ≤ xn ∧ ∃ ch, w.cell? ⟨b, off, none⟩ = some (.int .u8 (ch.toNat : Int)) ∧ blC ch = false) := by
  by_cases h0 : no < 1
  · exact .inl h0
  · right
    cases X with
    | nil => exact .inl ⟨by omega, by rw [hxn]; simp⟩
    | cons ch X' =>
      have hne : out ≠ [] := fun e => by rw [e] at hno; simp at hno; omega
      refine .inr ⟨by omega, by rw [hxn]; simp, ch, ?_, ?_⟩
      · obtain ⟨b', off', e, _, hc⟩ := hr.at_ (j := 0) (by simp)
        injection e with e
        injection e with e1 e2
        subst e1 e2
        have := hc 0 (by simp)
        rw [Nat.add_zero] at this
        rw [this]; rfl
      · cases hb : blC ch
        · rfl
        · exact absurd ⟨hne, hb⟩ hA
theorem below_of_grownF {w w' : World} {base : Nat} {v : Value} {L : List Fd} (h : OwnF w base v L) (hg : w.grownBy w' v.ownBlock) (hb : base ≤ w.heap.size) : Below base w w' :=
  ⟨hg.os, hg.tape, hg.output, hg.size, fun k hk => hg.block k (by omega) (fun e => by have := (World.ownsRow.lt h k e.symm).1; omega)⟩
theorem step_appF (w : World) {ops : Array Oper} {o : Oper} {a : Act} {K : Act → World → Prop} {Q : Exit → Act → World → Prop} {E : Prop} (s x : Operand)
    (ho : o.op = .call { callee := .builtin .append, args := #[s, x], argTypes := #[24, 24] }) (hgd : o.guard = none)
    (base : Nat) {v : Value} {L : List Fd} {g : Fd} (hs : a.eval s = v) (hown : OwnF w base v L) (ad : Nat) (c : Nat) (hx : a.eval x = .slice (some ⟨ad, 0, none⟩) 1 c) (hc : ∀ j, j < 4 → w.cell? ⟨ad, j, none⟩ = (fdc g)[j]?)
    (hbytes : L.length ≤ 1000000000000) (hbase : base ≤ w.heap.size)
    (h : ∀ v' w', OwnF w' base v' (L ++ [g]) → w.grownBy w' v.ownBlock → K (a.put o.dst v') w') : if Region.wanted o (yielded ops a.tmps) = true then Oper.wp Tryd.prog o a w K Q else E := by
  have hw : Region.wanted o (yielded ops a.tmps) = true := by simp [Region.wanted, hgd]
  rw [if_pos hw]
  obtain ⟨i, h1, h2, h3, z, h4, h5⟩ := fd_info
  refine wp_append_own_wide w s x 24 ho base 29 i z 4 48 Tryd.underlying24 h1 h4 h2 h3 h5 (by omega) v L.length (cellsF L) hs hown ⟨ad, 0, none⟩ 1 c (fdc g) hx rfl (fun j u hu => ?_) (fdc_one g) (by unfold maxLen; omega) (by omega) hbase fun v' w' h6 h7 _ => h v' w' ?_ h7
  · have hj : j < 4 := by have := (List.getElem?_eq_some_iff.1 hu).1; simpa [fdc] using this
    rw [Addr.add_lit, Nat.zero_add, hc j hj]
    exact hu
  · unfold OwnF
    rw [cellsF_snoc, List.length_append]
    exact h6
theorem SplitPost.trans {w w1 w' : World} {l : List UInt8} {e : Ending} (hb : Below w.heap.size w w1) (h : SplitPost w1 l e w') : SplitPost w l e w' :=
  ⟨hb.trans (h.1.mono hb.size), h.2⟩
end Go.Proofs.YtgbbadbffcjamaaDoor
