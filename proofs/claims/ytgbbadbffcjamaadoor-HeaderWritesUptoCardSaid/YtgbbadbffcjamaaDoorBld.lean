/-
  strings.Builder: its two writers, where the library's own laying does not fit. Conditions: the sizes.
-/
import Derived.Test.YtgbbadbffcjamaaDoorApp2
import Derived.Test.YtgbbadbffcjamaaDoorProg
import Derived.Lib.Builder
import Derived.Lib.UnsafeStr
import Derived.Laws.Externs
import Derived.Lib.OthersKept
namespace Go.Proofs.YtgbbadbffcjamaaDoor
open Go.RowKit
set_option linter.unusedVariables false
/-- b is a builder that holds l -/
def Bld (w : World) (B b : Nat) (l : List UInt8) : Prop := Lib.IsBuilder 64 5 B b (Lib.byteCells l) w
theorem u8B : U8 Tryd.prog 22 5 := by
  obtain ⟨i, h1, h2, h3, h4⟩ := info_parts (show (Tryd.prog.info? 5).map (fun i => (i.zero, i.size, i.bytes)) = some (some (.int .u8 0), 1, 1) by kernel_rfl)
  exact ⟨Tryd.underlying22, Tryd.underlying5, i, h1, h2, h3, h4⟩
theorem Bld.at_ {w : World} {B b : Nat} {l : List UInt8} (h : Bld w B b l) : B ≤ b ∧ ∃ p v, (p = .pointer none ∨ p = .pointer (some ⟨b, 0, none⟩)) ∧ Blk w b 64 #[p, v] ∧ OwnB w B 5 v l ∧ v.ownBlock ≠ some b := by
  rcases h with ⟨h1, v, h2, h3, h4⟩ | ⟨h1, v, h2, h3, h4⟩
  · exact ⟨h1, _, v, .inl rfl, h2, OwnB.of h3, h4⟩
  · exact ⟨h1, _, v, .inr rfl, h2, OwnB.of h3, h4⟩
theorem Bld.mk_ {w : World} {B b : Nat} {l : List UInt8} {v : Value} (h1 : B ≤ b) (h2 : Blk w b 64 #[.pointer (some ⟨b, 0, none⟩), v]) (h3 : OwnB w B 5 v l) (h4 : v.ownBlock ≠ some b) : Bld w B b l :=
  .inr ⟨h1, v, h2, by have e : (Lib.byteCells l).length = l.length := by simp [Lib.byteCells]
                      rw [e]; exact h3, h4⟩
theorem Bld.new (w : World) (B : Nat) (hB : B ≤ w.heap.size) : Bld (w.alloc (.cells #[.pointer none, .slice none 0 0] 64)) B w.heap.size [] :=
  .inl ⟨hB, .slice none 0 0, Blk.new w _ _, World.ownsRow_nil _ _ _ _, by simp [Value.ownBlock]⟩
theorem bld_size : ∃ j, Tryd.prog.info? 64 = some j ∧ j.size = 2 := by
  have h : (Tryd.prog.info? 64).map (·.size) = some 2 := by kernel_rfl
  obtain ⟨j, h1, h2⟩ := Option.map_eq_some_iff.1 h
  exact ⟨j, h1, h2⟩
set_option maxRecDepth 100000 in
set_option maxHeartbeats 1000000 in
theorem cc_walk (w : World) (B b : Nat) (l : List UInt8) (h : Bld w B b l) :
    Calls Tryd.prog 64 #[.pointer (some ⟨b, 0, none⟩)] w fun e w' => e = .returned (.tuple #[]) ∧ Below B w w' ∧ Lib.OthersKept 5 (some b) w w' ∧ ∃ v, Blk w' b 64 #[.pointer (some ⟨b, 0, none⟩), v] ∧ OwnB w' B 5 v l ∧ v.ownBlock ≠ some b := by
  obtain ⟨hB, p, v, hp, hK, hO, hne⟩ := h.at_
  obtain ⟨j, hj, hjs⟩ := bld_size
  have hsh : w.shape? b = some (64, 2) := by
    unfold Blk at hK
    simp [World.shape?, hK]
  rcases hp with rfl | rfl
  · have c0 : w.cell? ⟨b, 0, none⟩ = some (.pointer none) := hK.cell 0
    have f0 := hK.frozen 0
    have HK := Lib.hid hK
    have HO := Lib.hid hO
    clear hK hO
    go_enter Tryd.func64, Tryd.ntmps64
    go_wp2
    rw [Lib.run_to_unsafe w ⟨b, 0, none⟩ Tryd.underlying62 Tryd.underlying101 hj (by rw [hjs]; decide) hsh (Nat.zero_lt_succ 1)]
    simp only [Result.andThen]
    rw [Oper.upon_value]
    go_wp2
    rw [run_callFunc_extern Tryd.func75 (by kernel_rfl) (by kernel_rfl) (by kernel_rfl) (e := Extern.AbiNoEscape.same) (by kernel_rfl)]
    rw [Lib.run_noEscape]
    simp only [Result.andThen]
    rw [Oper.upon_value]
    go_wp2
    rw [Lib.run_from_unsafe w ⟨b, 0, none⟩ Tryd.underlying101 Tryd.underlying62 hj hsh (by kernel_rfl)]
    simp only [Result.andThen]
    rw [Oper.upon_value]
    go_wp2
    go_end0
    exact ⟨rfl, (Below.refl _ _).setCell (p := ⟨b, 0, none⟩) hB _, (Lib.OthersKept.refl _ _ _).setCell ⟨b, 0, none⟩ rfl _, v, HK.out.set_ 0 _, HO.out.kept (row := some b) ⟨rfl, rfl, rfl, by simp, fun k _ hk => Below.heap_setCell w ⟨b, 0, none⟩ _ k (fun e => hk (by rw [e]))⟩ (.inr hne), hne⟩
  · have c0 : w.cell? ⟨b, 0, none⟩ = some (.pointer (some ⟨b, 0, none⟩)) := hK.cell 0
    have HK := Lib.hid hK
    have HO := Lib.hid hO
    clear hK hO
    go_enter Tryd.func64, Tryd.ntmps64
    go_wp2
    rw [Lib.run_neq_ptr_same w _ Tryd.underlying62 hj]
    go_wp2
    go_end0
    exact ⟨rfl, Below.refl _ _, Lib.OthersKept.refl _ _ _, v, HK.out, HO.out, hne⟩
theorem own_kind {w : World} {B : Nat} {v : Value} {l : List UInt8} (h : OwnB w B 5 v l) : ∀ g, v.ownBlock = some g → ∃ c fz, w.heap[g]? = some (.cells c 5 fz) := by
  intro g hg
  rcases h.2 with ⟨rfl, _⟩ | ⟨g', cap, cur, rfl, _, hgg, _⟩
  · simp [Value.ownBlock] at hg
  · simp [Value.ownBlock] at hg
    subst hg
    exact ⟨cur, _, hgg⟩
/-- a row of strings beside a builder -/
theorem OwnS.others {w w' : World} {base b : Nat} {v : Value} {L : List ByteArray} (h : OwnS w base 9 v L) (hk : Lib.OthersKept 5 (some b) w w') (hne : v.ownBlock ≠ some b) : OwnS w' base 9 v L := by
  refine ⟨h.1, ?_⟩
  rcases h.2 with h1 | ⟨g, cap, cur, rfl, hb, hg, r⟩
  · exact .inl h1
  · exact .inr ⟨g, cap, cur, rfl, hb, hk g _ hg (by simpa [Value.ownBlock] using hne) (fun c fz e => by injection e with _ e; exact absurd e (by decide)), r⟩
theorem ne_ptr {w1 w2 : World} {B b n : Nat} {v v' : Value} {l : List UInt8} {t : TypeId} {cs : Array Value} (hk : Blk w2 b t cs) (ht : t ≠ 5) (h2 : OwnB w2 B 5 v' l) : v'.ownBlock ≠ some b := by
  rcases h2.2 with ⟨rfl, _⟩ | ⟨g, cap, cur, rfl, _, hg, _⟩
  · simp [Value.ownBlock]
  · intro e
    injection e with e
    simp at e
    subst e
    unfold Blk at hk
    rw [hg] at hk
    injection hk with hk
    injection hk with _ hk
    exact ht hk.symm
set_option maxHeartbeats 1000000 in
theorem bws_walk (w : World) (B b : Nat) (l : List UInt8) (s : ByteArray) (h : Bld w B b l) (hB : B ≤ w.heap.size) (hs : l.length + s.size ≤ 140737488355328) :
    Calls Tryd.prog 46 #[.pointer (some ⟨b, 0, none⟩), .string s] w fun e w' => e = .returned (.tuple #[.int .i64 (s.size : Int), .nilIface]) ∧ Below B w w' ∧ Bld w' B b (l ++ s.data.toList) ∧ Lib.OthersKept 5 (some b) w w' := by
  have KC := Lib.hid (cc_walk w B b l h)
  have hb0 := h.at_.1
  clear h
  go_enter Tryd.func46, Tryd.ntmps46
  go_wp2_with fail
  with_reducible refine KC.out.mono ?_
  rintro e1 w1 ⟨rfl, hb1, ho1, v, hK, hO, hne⟩
  have c1 : w1.cell? ⟨b, 1, none⟩ = some v := hK.cell 1
  have HTH := Lib.hid ho1
  have HK := Lib.hid hK
  have HO := Lib.hid hO
  have HB1 := Lib.hid hb1
  have HBS : Hid (B ≤ w1.heap.size) := Lib.hid (Nat.le_trans hB hb1.size)
  clear KC hK hO hb1 ho1
  go_wp2_with (at_builtin; go_loud (refine wpList_appSg _ u8B Tryd.underlying9 (.tmp 12) (.tmp 13) rfl rfl B rfl HO.out s rfl hs HBS.out ?_); intro v2 w2 hO2 hg2; obtain ⟨A2, c2, rfl, -⟩ := hO2.out; have HK2 := Lib.hid (HK.out.grown hg2 (fun e => hne e.symm)); have f1 := HK2.out.frozen 1; have d1 : w2.cell? ⟨b, 1, none⟩ = some v := HK2.out.cell 1; have HO2 := Lib.hid hO2; have HB2 := Lib.hid (HB1.out.trans (below_of_grownBy HO.out hg2 HBS.out)); have HT2 := Lib.hid (HTH.out.grown hg2 (own_kind HO.out)); clear hO2 hg2)
  go_ret2
  have hn2 := ne_ptr (w1 := w1) (n := 0) (v := v) HK2.out (by decide) HO2.out
  refine ⟨rfl, HB2.out.setCell (p := ⟨b, 1, none⟩) hb0 _, Bld.mk_ hb0 (HK2.out.set_ 1 _) ?_ (by simpa [Value.ownBlock] using hn2), HT2.out.setCell ⟨b, 1, none⟩ rfl _⟩
  have := HO2.out.kept (row := some b) (w' := w2.setCell ⟨b, 1, none⟩ (.slice A2 (l ++ s.data.toList).length c2)) ⟨rfl, rfl, rfl, by simp, fun k _ hk => Below.heap_setCell w2 ⟨b, 1, none⟩ _ k (fun e => hk (by rw [e]))⟩ (.inr hn2)
  simpa using this
set_option maxHeartbeats 1000000 in
theorem bwb_walk (w : World) (B b : Nat) (l : List UInt8) (x : UInt8) (z : Int) (hz : z = (x.toNat : Int)) (h : Bld w B b l) (hB : B ≤ w.heap.size) (hs : l.length + 1 ≤ 140737488355328) :
    Calls Tryd.prog 47 #[.pointer (some ⟨b, 0, none⟩), .int .u8 z] w fun e w' => e = .returned .nilIface ∧ Below B w w' ∧ Bld w' B b (l ++ [x]) ∧ Lib.OthersKept 5 (some b) w w' := by
  have KC := Lib.hid (cc_walk w B b l h)
  have hb0 := h.at_.1
  have HZ := Lib.hid hz
  clear h hz
  go_enter Tryd.func47, Tryd.ntmps47
  go_wp2_with fail
  with_reducible refine KC.out.mono ?_
  rintro e1 w1 ⟨rfl, hb1, ho1, v, hK, hO, hne⟩
  have HTH := Lib.hid (ho1.alloc (.cells #[.int .u8 z] 5))
  have c1 : w1.cell? ⟨b, 1, none⟩ = some v := hK.cell 1
  have c1a : (w1.alloc (.cells #[.int .u8 z] 5)).cell? ⟨b, 1, none⟩ = some v := (hK.alloc _).cell 1
  have HK := Lib.hid (hK.alloc (.cells #[.int .u8 z] 5))
  have HO := Lib.hid (hO.alloc (.cells #[.int .u8 z] 5))
  have HX := Lib.hid (RB.one w1 5 x z HZ.out)
  have HB1 : Hid (Below B w (w1.alloc (.cells #[.int .u8 z] 5))) := Lib.hid (hb1.alloc (Nat.le_trans hB hb1.size) _)
  have HBS : Hid (B ≤ (w1.alloc (.cells #[.int .u8 z] 5)).heap.size) := Lib.hid (Nat.le_trans hB HB1.out.size)
  have hs2 : l.length + [x].length ≤ 200000000000000 := by simp; omega
  clear KC hK hO hb1 ho1
  go_wp2_with (at_builtin; go_loud (refine wpList_appBg _ u8B (.tmp 11) (.tmp 13) rfl rfl B rfl HO.out 1 1 rfl rfl HX.out hs2 HBS.out ?_); intro v2 w2 hO2 hg2; obtain ⟨A2, c2, rfl, -⟩ := hO2.out; have HK2 := Lib.hid (HK.out.grown hg2 (fun e => hne e.symm)); have f1 := HK2.out.frozen 1; have d1 : w2.cell? ⟨b, 1, none⟩ = some v := HK2.out.cell 1; have HO2 := Lib.hid hO2; have HB2 := Lib.hid (HB1.out.trans (below_of_grownBy HO.out hg2 HBS.out)); have HT2 := Lib.hid (HTH.out.grown hg2 (own_kind HO.out)); clear hO2 hg2)
  go_ret
  have hn2 := ne_ptr (w1 := w1) (n := 0) (v := v) HK2.out (by decide) HO2.out
  refine ⟨rfl, HB2.out.setCell (p := ⟨b, 1, none⟩) hb0 _, Bld.mk_ hb0 (HK2.out.set_ 1 _) ?_ (by simpa [Value.ownBlock] using hn2), HT2.out.setCell ⟨b, 1, none⟩ rfl _⟩
  have := HO2.out.kept (row := some b) (w' := w2.setCell ⟨b, 1, none⟩ (.slice A2 (l ++ [x]).length c2)) ⟨rfl, rfl, rfl, by simp, fun k _ hk => Below.heap_setCell w2 ⟨b, 1, none⟩ _ k (fun e => hk (by rw [e]))⟩ (.inr hn2)
  simpa using this
end Go.Proofs.YtgbbadbffcjamaaDoor
