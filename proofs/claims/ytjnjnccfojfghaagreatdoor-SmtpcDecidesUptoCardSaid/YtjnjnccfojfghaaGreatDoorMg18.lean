/-
  Several texts in one: ScSix, ScAddr. Conditions: each part names its own.
-/
import Derived.Test.YtjnjnccfojfghaaGreatDoorMg8
import Derived.Test.YtjnjnccfojfghaaGreatDoorMg9
import Derived.Laws.CopyOwn
set_option linter.unusedSimpArgs false
/-! The walk of cidr.six. Condition: the text's length, what the tables hold. -/
namespace Go.Proofs.YtjnjnccfojfghaaGreatDoor
open Go.RowKit
set_option linter.unusedVariables false
theorem cut_len (l sep : Tx) : (Lib.cut l sep).1.length ≤ l.length ∧ (Lib.cut l sep).2.1.length ≤ l.length := by
  unfold Lib.cut
  split
  · exact ⟨by rw [List.length_take]; omega, by rw [List.length_drop]; omega⟩
  · exact ⟨Nat.le_refl _, Nat.zero_le _⟩
theorem cut_walk2 (l : Tx) (w : World) (T : TabC w) (hs : l.length ≤ 1073741824) : Calls Tryz.prog 111 #[.string (bs l), .string (bs [58, 58])] w fun e w' => Below w.heap.size w w' ∧ e = .returned (.tuple #[.string (bs (Lib.cut l [58, 58]).1), .string (bs (Lib.cut l [58, 58]).2.1), .bool (Lib.cut l [58, 58]).2.2]) := by
  obtain ⟨m, hm⟩ := T.ml
  have h := Tryz.strings_Cut (bs l) (bs [58, 58]) m w (by rw [bs_size]; omega) hm
  rw [bs_list, bs_list] at h
  refine h.mono ?_
  rintro e w' ⟨rfl, nq, rfl⟩
  exact ⟨bdrewN (Below.refl _ _) _, rfl⟩
theorem cut_no (l sep : Tx) (h : (Lib.cut l sep).2.2 = false) : (Lib.cut l sep).2.1 = [] := by
  unfold Lib.cut at h ⊢
  by_cases h0 : 0 ≤ Lib.index l sep
  · rw [if_pos h0] at h; cases h
  · rw [if_neg h0]
def sixA (a b : Tx) : Tx := splice (splice (List.replicate 16 0) 0 a) (16 - b.length) b
def sixOk (short : Bool) (a b : Tx) : Bool := if short then decide (a.length + b.length ≤ 14) else decide (a.length = 16)
def sixF (one two short : Bool) (a b : Tx) : Option NetM := if (one && (two && sixOk short a b)) = true then some ⟨true, 128, sixA a b⟩ else none
def sixM (l : Tx) : Option NetM :=
  sixF (groupsM (Lib.cut l [58, 58]).1).isSome (groupsM (Lib.cut l [58, 58]).2.1).isSome (Lib.cut l [58, 58]).2.2 ((groupsM (Lib.cut l [58, 58]).1).getD []) ((groupsM (Lib.cut l [58, 58]).2.1).getD [])
theorem NetM.splice_cells (n : NetM) (i : Nat) (x : Tx) (h : i + x.length ≤ n.addr.length) : splice n.cells.toList (2 + i) (x.map u8v) = (NetM.cells { n with addr := splice n.addr i x }).toList := by
  unfold splice NetM.cells
  simp only [List.length_map, List.map_append, List.map_take, List.map_drop]
  rw [Nat.add_comm 2 i, show i + 2 + x.length = i + x.length + 2 from by omega]
  rfl
/-- copy into a block known whole: that block alone turns -/
theorem wpList_copyO {P : Program} {w : World} {ops : Array Oper} {rest : List Oper} {o : Oper} {a : Act} {Q : Exit → Act → World → Prop} (hgd : o.guard = none) (d s : Operand) (dT sT : TypeId)
    (ho : o.op = .call { callee := .builtin .copy, args := #[d, s], argTypes := #[dT, sT] }) (elem : TypeId) (hu : P.underlying dT = some (.slice elem)) (hsz : (P.info? elem).map (·.size) = some 1)
    (dp sp : Option Addr) (dLen dCap sLen sCap : Nat) (hd : a.eval d = .slice dp dLen dCap) (hs : a.eval s = .slice sp sLen sCap)
    (g off : Nat) (cur : List Value) (t : TypeId) (hg : Blk w g t cur.toArray) (cs : List Value) (hn : cs.length = Nat.min sLen dLen)
    (hpos : 0 < cs.length → dp = some ⟨g, off, none⟩ ∧ ∃ ad, sp = some ad ∧ ∀ j v, cs[j]? = some v → w.cell? (ad.add j) = some v)
    (hfit : off + cs.length ≤ cur.length) (h1 : ∀ v ∈ cs, v.oneCell' = true)
    (h : ∀ w', Blk w' g t (splice cur off cs).toArray → Only g w w' → wpList P ops Q rest (a.put o.dst (goInt cs.length)) w') :
    wpList P ops Q (o :: rest) a w := by
  by_cases h0 : cs.length = 0
  · obtain rfl : cs = [] := List.eq_nil_of_length_eq_zero h0
    refine wpList_copy_nothing hgd d s dT sT ho elem hu hsz dp sp dLen dCap sLen sCap hd hs (by simpa using hn.symm) ?_
    exact h w (by simpa [splice] using hg) (Only.refl _)
  · obtain ⟨rfl, ad, rfl, hsrc⟩ := hpos (by omega)
    refine wpList_copy_own hgd d s dT sT ho elem hu hsz g off dLen dCap ad sLen sCap hd hs cur.toArray t hg cs hn hsrc (by simpa using hfit) h1 ?_
    exact h _ (by simpa [splice, Blk] using setRow_heap w g _ _ t _ hg) ⟨rfl, rfl, rfl, by simp [World.setRow], fun k hk hne => setRow_other w g k _ (fun e => hne (by rw [e]))⟩
theorem rb_src {w : World} {B : Nat} {A : Option Addr} {l : Tx} (h : RB w B A l) (h0 : 0 < (l.map u8v).length) : ∃ ad, A = some ad ∧ ∀ j v, (l.map u8v)[j]? = some v → w.cell? (ad.add j) = some v := by
  rcases h with h | ⟨b, off, hA, hb, hc⟩
  · rw [h] at h0; simp at h0
  · refine ⟨_, hA, fun j v hj => ?_⟩
    obtain ⟨h1, h2⟩ := List.getElem?_eq_some_iff.1 hj
    rw [List.length_map] at h1
    rw [Addr.add_lit, hc j h1, ← h2, List.getElem_map]
    simp [bt, u8v, List.getD_eq_getElem?_getD, List.getElem?_eq_getElem h1]
theorem run_slice16 (g lo : Nat) (hlo : lo ≤ 16) : ∃ dp, (lo < 16 → dp = some ⟨g, 2 + lo, none⟩) ∧ ∀ W, (Instr.sliceAt 88 (.pointer (some ⟨g, 2, none⟩)) (some (.int .i64 (lo : Int))) none none).run Tryz.prog W = .ok (.slice dp (16 - lo) (16 - lo)) W := by
  have h8 : (Tryz.prog.info? 5).map (·.size) = some 1 := by kernel_rfl
  obtain ⟨i, hi, hs⟩ := Option.map_eq_some_iff.1 h8
  by_cases h : lo < 16
  · have hne : ¬ 16 = lo := by omega
    have h1 : (lo : Int) ≤ 16 := by omega
    refine ⟨_, fun _ => rfl, fun W => ?_⟩
    simp [Instr.sliceAt, Instr.sureAddr, run_underlying Tryz.underlying88, Instr.sliceBounds, run_sliceBound, sizeOf, typeInfo, hi, hs, hne, h1, Addr.add_lit]
  · obtain rfl : lo = 16 := by omega
    refine ⟨some ⟨g, 2, none⟩, fun h => absurd h (by decide), fun W => ?_⟩
    simp [Instr.sliceAt, Instr.sureAddr, run_underlying Tryz.underlying88, Instr.sliceBounds, run_sliceBound, sizeOf, typeInfo, hi, hs]
theorem u8v_one (l : Tx) : ∀ v ∈ l.map u8v, v.oneCell' = true := by
  intro v hv
  obtain ⟨c, _, rfl⟩ := List.mem_map.1 hv
  rfl
theorem grp_any (l : Tx) (hs : l.length ≤ 1073741824) (w : World) (T : TabC w) : Calls Tryz.prog 112 #[.string (bs l)] w fun e w' => Below w.heap.size w w' ∧ ∃ A c, e = .returned (.tuple #[.slice A ((groupsM l).getD []).length c, .bool (groupsM l).isSome]) ∧ OwnB w' w.heap.size 5 (.slice A ((groupsM l).getD []).length c) ((groupsM l).getD []) := by
  refine (groups_walk l w T hs).mono ?_
  intro e w' h
  unfold GrpAns at h
  cases hg : groupsM l with
  | none =>
    rw [hg] at h
    exact ⟨h.1, none, 0, h.2, OwnB.nil _ _ _⟩
  | some b =>
    rw [hg] at h
    obtain ⟨hb, v, rfl, ho⟩ := h
    obtain ⟨A, c, rfl, -⟩ := ho.out
    exact ⟨hb, A, c, rfl, ho⟩
theorem grp_len (l : Tx) (hs : l.length ≤ 1073741824) : ((groupsM l).getD []).length ≤ 4294967296 := by
  unfold groupsM
  by_cases h : l = []
  · rw [if_pos h]; simp
  · rw [if_neg h]
    by_cases h2 : (cutC 58 l).all groupB = true
    · rw [if_pos h2]
      have h3 := pairs_len (cutC 58 l) (cutC 58 l).length
      rw [List.take_of_length_le (Nat.le_refl _)] at h3
      have h4 := cutC_len_le 58 l
      show (pairsM (cutC 58 l)).length ≤ _
      omega
    · rw [if_neg h2]; simp
set_option maxRecDepth 4000 in
set_option maxHeartbeats 4000000 in
theorem six_walk (l : Tx) (w : World) (T : TabC w) (hs : l.length ≤ 1073741824) :
    Calls Tryz.prog 78 #[.string (bs l)] w (NetAns (sixM l) w) := by
  have KC : Hid (∀ W, TabC W → Calls Tryz.prog 111 #[.string (bs l), .string (bs [58, 58])] W fun e w' => Below W.heap.size W w' ∧ e = .returned (.tuple #[.string (bs (Lib.cut l [58, 58]).1), .string (bs (Lib.cut l [58, 58]).2.1), .bool (Lib.cut l [58, 58]).2.2])) := Lib.hid fun W TW => cut_walk2 l W TW hs
  have hp : bs [58, 58] = ⟨#[58, 58]⟩ := rfl
  rw [hp] at KC
  have hc1 := (cut_len l [58, 58]).1
  have hc2 := (cut_len l [58, 58]).2
  have hF : sixM l = sixF (groupsM (Lib.cut l [58, 58]).1).isSome (groupsM (Lib.cut l [58, 58]).2.1).isSome (Lib.cut l [58, 58]).2.2 ((groupsM (Lib.cut l [58, 58]).1).getD []) ((groupsM (Lib.cut l [58, 58]).2.1).getD []) := rfl
  have POF : Hid (sixM l = none → ∀ w' (n : NetM), n.addr.length = 16 → Below w.heap.size w w' → NetAns (sixM l) w (.returned (.tuple #[n.val, .bool false])) w') := Lib.hid fun h w' n hn hb => by
    unfold NetAns
    rw [h]
    exact ⟨hb, n, hn, rfl⟩
  have POT : Hid (∀ n, sixM l = some n → n.addr.length = 16 → ∀ w', Below w.heap.size w w' → NetAns (sixM l) w (.returned (.tuple #[n.val, .bool true])) w') := Lib.hid fun n h hn w' hb => by
    unfold NetAns
    rw [h]
    exact ⟨hb, hn, rfl⟩
  generalize NetAns (sixM l) w = Post at *
  generalize sixM l = F at *
  have hnb : (Lib.cut l [58, 58]).2.2 = false → ((groupsM (Lib.cut l [58, 58]).2.1).getD []) = [] := fun h => by
    rw [cut_no _ _ h]
    rfl
  generalize (Lib.cut l [58, 58]).1 = p1 at *
  generalize (Lib.cut l [58, 58]).2.1 = p2 at *
  generalize (Lib.cut l [58, 58]).2.2 = sh at *
  have KA := Lib.hid (grp_any p1 (Nat.le_trans hc1 hs))
  have KB := Lib.hid (grp_any p2 (Nat.le_trans hc2 hs))
  have hla := grp_len p1 (Nat.le_trans hc1 hs)
  have hlb := grp_len p2 (Nat.le_trans hc2 hs)
  generalize (groupsM p1).isSome = one at *
  generalize (groupsM p2).isSome = two at *
  generalize (groupsM p1).getD [] = a at *
  generalize (groupsM p2).getD [] = b at *
  have HF := Lib.hid hF
  have HNB := Lib.hid hnb
  clear hF hp hc1 hc2 hnb
  have hB1 := (Blk.new w 90 zn).alloc (.cells zn 90)
  have hB2 := Blk.new (w.alloc (.cells zn 90)) 90 zn
  have hsz : (w.alloc (.cells zn 90)).heap.size = w.heap.size + 1 := by simp
  rw [hsz] at hB2
  have HB1 := Lib.hid hB1
  have HB2 := Lib.hid hB2
  have HBL := Lib.hid (((Below.refl w.heap.size w).alloc (Nat.le_refl _) (.cells zn 90)).alloc (by simp) (.cells zn 90))
  have TW := Lib.hid T
  clear hB1 hB2 hsz T
  go_enter Tryz.func78, Tryz.ntmps78
  go_wp2_with (refine wpList_storeN _ _ _ (w.heap.size + 1) zn _ rfl rfl rfl rfl rfl HB2.out rfl rfl (NetM.cells_one ⟨true, 128, List.replicate 16 0⟩) ?_; intro w1 hb1 ho1)
  have HW1 := Lib.hid (HBL.out.trans (ho1.to_below HB2.out.lt (Nat.le_succ _)))
  have HZ := Lib.hid (HB1.out.only ho1 (by omega))
  have hb1' : Blk w1 (w.heap.size + 1) 90 (NetM.cells ⟨true, 128, List.replicate 16 0⟩) := hb1
  have HN := Lib.hid hb1'
  clear hb1 hb1' ho1 HB1 HB2 HBL
  generalize (Value.agg #[Value.bool true, Value.int IntKind.i64 128, Value.int IntKind.u8 0, Value.int IntKind.u8 0, Value.int IntKind.u8 0, Value.int IntKind.u8 0, Value.int IntKind.u8 0, Value.int IntKind.u8 0, Value.int IntKind.u8 0, Value.int IntKind.u8 0, Value.int IntKind.u8 0, Value.int IntKind.u8 0, Value.int IntKind.u8 0, Value.int IntKind.u8 0, Value.int IntKind.u8 0, Value.int IntKind.u8 0, Value.int IntKind.u8 0, Value.int IntKind.u8 0]) = u12
  refine (KC.out _ (TW.out.keep HW1.out)).mono ?_
  rintro e w2 ⟨hb2, rfl⟩
  have HW2 := Lib.hid (HW1.out.trans (hb2.mono HW1.out.size))
  have HZ2 := Lib.hid (HZ.out.keep hb2)
  have HN2 := Lib.hid (HN.out.keep hb2)
  clear hb2 HW1 HZ HN KC
  go_wp2_with fail
  refine (KA.out _ (TW.out.keep HW2.out)).mono ?_
  rintro e w3 ⟨hb3, A1, c1, rfl, own3⟩
  have HW3 := Lib.hid (HW2.out.trans (hb3.mono HW2.out.size))
  have HZ3 := Lib.hid (HZ2.out.keep hb3)
  have HN3 := Lib.hid (HN2.out.keep hb3)
  have HO3 := Lib.hid own3
  clear hb3 HW2 HZ2 HN2 KA own3
  go_wp2_with fail
  refine (KB.out _ (TW.out.keep HW3.out)).mono ?_
  rintro e w4 ⟨hb4, A2, c2, rfl, own4⟩
  have HW4 := Lib.hid (HW3.out.trans (hb4.mono HW3.out.size))
  have HZ4 := Lib.hid (HZ3.out.keep hb4)
  have HN4 := Lib.hid (HN3.out.keep hb4)
  have HRA := Lib.hid (HO3.out.below hb4).rb
  have HRB := Lib.hid own4.rb
  have HO4 := Lib.hid own4
  have hgt3 : w.heap.size + 1 < w3.heap.size := HN3.out.lt
  clear hb4 HW3 HZ3 HN3 KB own4 HO3
  have HD : Hid ((List.replicate 16 (0 : UInt8)).length = 16) := Lib.hid rfl
  by_cases hG : (one && (two && sixOk sh a b)) = true
  · have HR : Hid (F = some ⟨true, 128, sixA a b⟩) := Lib.hid (by rw [HF.out]; unfold sixF; rw [if_pos hG])
    rw [Bool.and_eq_true, Bool.and_eq_true] at hG
    obtain ⟨rfl, rfl, hok⟩ := hG
    have hlen : a.length + b.length ≤ 16 ∧ (sh = true ∧ a.length + b.length ≤ 14 ∨ sh = false ∧ a.length = 16) := by
      cases sh with
      | true =>
        have h := of_decide_eq_true (show decide (a.length + b.length ≤ 14) = true from hok)
        exact ⟨by omega, .inl ⟨rfl, h⟩⟩
      | false =>
        have h := of_decide_eq_true (show decide (a.length = 16) = true from hok)
        have h2 : b = [] := HNB.out rfl
        rw [h2]
        exact ⟨by rw [h]; decide, .inr ⟨rfl, h⟩⟩
    clear hok
    obtain ⟨h16, hcase⟩ := hlen
    have hNa : (a.map u8v).length = Nat.min a.length 16 := by rw [List.length_map]; exact (Nat.min_eq_left (by omega)).symm
    have hNb : (b.map u8v).length = Nat.min b.length (16 - (16 - b.length)) := by rw [List.length_map]; exact (Nat.min_eq_left (by omega)).symm
    have hN4 : Blk w4 (w.heap.size + 1) 90 (NetM.cells ⟨true, 128, List.replicate 16 0⟩).toList.toArray := HN4.out
    have HN5 := Lib.hid hN4
    have hsub : (16 : Int) - (b.length : Int) = ((16 - b.length : Nat) : Int) := by omega
    have hsub2 : 16 - b.length ≤ 16 := by omega
    clear hN4
    have HNA := Lib.hid hNa
    have HNB2 := Lib.hid hNb
    clear hNa hNb
    have h18 : ∀ x : Tx, x.length = 16 → (NetM.cells ⟨true, 128, x⟩).toList.length = 18 := fun x hx => by
      rw [Array.length_toList]
      exact NetM.cells_size hx
    have hX : (splice (List.replicate 16 (0 : UInt8)) 0 a).length = 16 := by
      rw [length_splice _ _ _ (by rw [List.length_replicate]; omega)]; rfl
    have hY : (sixA a b).length = 16 := by
      unfold sixA
      rw [length_splice _ _ _ (by rw [hX]; omega)]; exact hX
    have HL18 : Hid (2 + (a.map u8v).length ≤ (NetM.cells ⟨true, 128, List.replicate 16 0⟩).toList.length) := Lib.hid (by
      rw [h18 _ rfl, List.length_map]; omega)
    have HL19 : Hid (2 + (16 - b.length) + (b.map u8v).length ≤ (NetM.cells ⟨true, 128, splice (List.replicate 16 0) 0 a⟩).toList.length) := Lib.hid (by
      rw [h18 _ hX, List.length_map]; omega)
    have HS1 : Hid ((splice (NetM.cells ⟨true, 128, List.replicate 16 0⟩).toList 2 (a.map u8v)).toArray = (NetM.cells ⟨true, 128, splice (List.replicate 16 0) 0 a⟩).toList.toArray) := Lib.hid (by
      have e := NetM.splice_cells ⟨true, 128, List.replicate 16 0⟩ 0 a (by simp; omega)
      rw [Nat.add_zero] at e
      rw [e])
    have HS2 : Hid ((splice (NetM.cells ⟨true, 128, splice (List.replicate 16 0) 0 a⟩).toList (2 + (16 - b.length)) (b.map u8v)).toArray = (NetM.cells ⟨true, 128, sixA a b⟩)) := Lib.hid (by
      rw [NetM.splice_cells ⟨true, 128, splice (List.replicate 16 0) 0 a⟩ (16 - b.length) b (by show _ ≤ (splice _ 0 a).length; rw [hX]; omega)]
      simp [sixA])
    have HYY := Lib.hid hY
    have HNE4 : Hid ((Value.slice A2 b.length c2).ownBlock ≠ some (w.heap.size + 1)) := Lib.hid (fun e => by
      have h := (World.ownsRow.lt HO4.out _ e).1
      omega)
    clear h18 hX hY
    obtain ⟨dp, hdp, hsl⟩ := run_slice16 (w.heap.size + 1) (16 - b.length) hsub2
    have HDP := Lib.hid hdp
    clear hdp
    have HLT : Hid (0 < (b.map u8v).length → 16 - b.length < 16) := Lib.hid fun h => by rw [List.length_map] at h; omega
    have hcase2 : sh = true ∧ ¬ ((a.length : Int) + (b.length : Int) > 14) ∨ sh = false ∧ ((a.length : Int) == 16) = true := by
      rcases hcase with ⟨h, h2⟩ | ⟨h, h2⟩
      · exact .inl ⟨h, by omega⟩
      · exact .inr ⟨h, by rw [h2]; rfl⟩
    clear hcase
    rcases hcase2 with ⟨rfl, h14⟩ | ⟨rfl, h14⟩ <;>
    · go_wp2_with (first
        | (refine wpList_copyO rfl _ _ _ _ rfl 5 Tryz.underlying25 (by kernel_rfl) _ _ _ _ _ _ rfl rfl (w.heap.size + 1) 2 _ _ HN5.out (a.map u8v) HNA.out (fun h => ⟨rfl, rb_src HRA.out h⟩) HL18.out (u8v_one a) ?_; intro w5 hb5 ho5; rw [HS1.out] at hb5; have HN6 := Lib.hid hb5; have HO5 := Lib.hid ho5; have HRB5 := Lib.hid (HO4.out.only ho5 HNE4.out).rb; have HZ5 := Lib.hid (HZ4.out.only ho5 (by omega)); clear hb5 ho5)
        | (refine wpList_copyO rfl _ _ _ _ rfl 5 Tryz.underlying25 (by kernel_rfl) _ _ _ _ _ _ rfl rfl (w.heap.size + 1) (2 + (16 - b.length)) _ _ HN6.out (b.map u8v) HNB2.out (fun h => ⟨HDP.out (HLT.out h), rb_src HRB5.out h⟩) HL19.out (u8v_one b) ?_; intro w6 hb6 ho6; rw [HS2.out] at hb6; have HN7 := Lib.hid hb6; have HO6 := Lib.hid (HO5.out.trans ho6); have HZ6 := Lib.hid (HZ5.out.only ho6 (by omega)); clear hb6 ho6)
        | (refine wpList_storeN _ _ _ w.heap.size zn _ rfl rfl rfl rfl rfl HZ6.out rfl (NetM.cells_size HYY.out) (NetM.cells_one _) ?_; intro w7 hb7 ho7)
        | refine wpList_loadN _ _ (w.heap.size + 1) _ rfl rfl rfl HN7.out (NetM.cells_size HYY.out) ?_)
      exact bodyPost_ret (v := .tuple #[NetM.val ⟨true, 128, sixA a b⟩, .bool true]) (res_net (i := 2) (j := 3) rfl hb7 (NetM.cells_size HYY.out) rfl) rfl (POT.out _ HR.out HYY.out _ ((HW4.out.trans (HO6.out.to_below HN4.out.lt (Nat.le_succ _))).trans (ho7.to_below HZ6.out.lt (Nat.le_refl _))))
  · have HR : Hid (F = none) := Lib.hid (by rw [HF.out]; unfold sixF; rw [if_neg hG])
    have hcase : one = false ∨ (one = true ∧ two = false) ∨ (one = true ∧ two = true ∧ sh = true ∧ ¬ ((a.length : Int) + (b.length : Int) ≤ 14)) ∨ (one = true ∧ two = true ∧ sh = false ∧ ((a.length : Int) == 16) = false) := by
      cases one with
      | false => exact .inl rfl
      | true =>
        cases two with
        | false => exact .inr (.inl ⟨rfl, rfl⟩)
        | true =>
          cases sh with
          | true =>
            refine .inr (.inr (.inl ⟨rfl, rfl, rfl, fun h => hG ?_⟩))
            show decide (a.length + b.length ≤ 14) = true
            exact decide_eq_true (by omega)
          | false =>
            refine .inr (.inr (.inr ⟨rfl, rfl, rfl, beq_eq_false_iff_ne.2 fun h => hG ?_⟩))
            show decide (a.length = 16) = true
            exact decide_eq_true (by omega)
    clear hG
    rcases hcase with rfl | ⟨rfl, rfl⟩ | ⟨rfl, rfl, rfl, h14⟩ | ⟨rfl, rfl, rfl, h16⟩ <;>
    · go_wp2_with (first | (refine wpList_storeN _ _ _ w.heap.size zn _ rfl rfl rfl rfl rfl HZ4.out rfl (NetM.cells_size HD.out) (NetM.cells_one _) ?_; intro w5 hb5 ho5) | refine wpList_loadN _ _ (w.heap.size + 1) _ rfl rfl rfl HN4.out (NetM.cells_size HD.out) ?_)
      exact bodyPost_ret (v := .tuple #[NetM.val ⟨true, 128, List.replicate 16 0⟩, .bool false]) (res_net (i := 2) (j := 3) rfl hb5 (NetM.cells_size HD.out) rfl) rfl (POF.out HR.out _ ⟨true, 128, List.replicate 16 0⟩ HD.out (HW4.out.trans (ho5.to_below HZ4.out.lt (Nat.le_refl _))))
end Go.Proofs.YtjnjnccfojfghaaGreatDoor

/-! The walk of cidr.Addr. Condition: the text's length, what the tables hold. -/
namespace Go.Proofs.YtjnjnccfojfghaaGreatDoor
open Go.RowKit
set_option linter.unusedVariables false
def addrM (l : Tx) : Option NetM := match fourM l with
  | some n => some n
  | none => sixM l
def zeroN : NetM := ⟨false, 0, List.replicate 16 0⟩
def AddrAns (o : Option NetM) (w : World) (e : Ending) (w' : World) : Prop := Below w.heap.size w w' ∧ match o with
  | none => e = .returned (.tuple #[zeroN.val, .int .i64 70])
  | some n => n.addr.length = 16 ∧ e = .returned (.tuple #[n.val, .int .i64 0])
theorem net_any {o : Option NetM} {w : World} {e : Ending} {w' : World} (h : NetAns o w e w') : Below w.heap.size w w' ∧ ∃ n : NetM, n.addr.length = 16 ∧ e = .returned (.tuple #[n.val, .bool o.isSome]) ∧ (o.isSome = true → o = some n) := by
  unfold NetAns at h
  cases o with
  | none =>
    obtain ⟨hb, n, h1, h2⟩ := h
    exact ⟨hb, n, h1, h2, fun h => by cases h⟩
  | some n => exact ⟨h.1, n, h.2.1, h.2.2, fun _ => rfl⟩
set_option maxRecDepth 4000 in
set_option maxHeartbeats 4000000 in
theorem addr_walk (l : Tx) (w : World) (T : TabC w) (hs : l.length ≤ 1073741824) :
    Calls Tryz.prog 46 #[.string (bs l)] w (AddrAns (addrM l) w) := by
  have K4 := Lib.hid (fun W TW => (four_walk l W TW hs).mono fun e w' h => net_any h)
  have K6 := Lib.hid (fun W TW => (six_walk l W TW hs).mono fun e w' h => net_any h)
  have hF : addrM l = match fourM l with
    | some n => some n
    | none => sixM l := rfl
  have POF : Hid (addrM l = none → ∀ w', Below w.heap.size w w' → AddrAns (addrM l) w (.returned (.tuple #[zeroN.val, .int .i64 70])) w') := Lib.hid fun h w' hb => by
    unfold AddrAns
    rw [h]
    exact ⟨hb, rfl⟩
  have POT : Hid (∀ n, addrM l = some n → n.addr.length = 16 → ∀ w', Below w.heap.size w w' → AddrAns (addrM l) w (.returned (.tuple #[n.val, .int .i64 0])) w') := Lib.hid fun n h hn w' hb => by
    unfold AddrAns
    rw [h]
    exact ⟨hb, hn, rfl⟩
  generalize AddrAns (addrM l) w = Post at *
  generalize addrM l = F at *
  generalize fourM l = F4 at *
  generalize sixM l = F6 at *
  have HF := Lib.hid hF
  have TW := Lib.hid T
  clear hF T
  have hB1 := (Blk.new w 90 zn).alloc (.cells #[.func (.func 77) #[] #[], .func (.func 78) #[] #[]] 109)
  have hB2 := Blk.new (w.alloc (.cells zn 90)) 109 #[.func (.func 77) #[] #[], .func (.func 78) #[] #[]]
  have hsz : (w.alloc (.cells zn 90)).heap.size = w.heap.size + 1 := by simp
  rw [hsz] at hB2
  have HB1 := Lib.hid hB1
  have HB2 := Lib.hid hB2
  have HBL := Lib.hid (((Below.refl w.heap.size w).alloc (Nat.le_refl _) (.cells zn 90)).alloc (by simp) (.cells #[.func (.func 77) #[] #[], .func (.func 78) #[] #[]] 109))
  clear hB1 hB2 hsz
  go_enter Tryz.func46, Tryz.ntmps46
  go_wp2_with fail
  go_loopg [5, 6, 7, 10] 2 (fun k s5 s6 s7 i wr => ∃ j : Nat, i = .int .i64 (j : Int) ∧ j + k = 2 ∧ Hid (Blk wr w.heap.size 90 zn) ∧ Hid (Blk wr (w.heap.size + 1) 109 #[.func (.func 77) #[] #[], .func (.func 78) #[] #[]]) ∧ Hid (Below w.heap.size w wr) ∧ Hid (1 ≤ j → F4 = none) ∧ Hid (2 ≤ j → F6 = none))
  case atStart => exact ⟨0, rfl, by omega, HB1, HB2, HBL, Lib.hid (fun h => absurd h (by omega)), Lib.hid (fun h => absurd h (by omega))⟩
  case round =>
    obtain ⟨j, rfl, hj, HZ3, HC3, HW3, H1, H2⟩ := hrel
    clear HB1 HB2 HBL
    by_cases hlt : j < 2
    · have hj01 : j = 0 ∨ j = 1 := by omega
      rcases hj01 with rfl | rfl
      · have cj : wr.cell? ⟨w.heap.size + 1, 0, none⟩ = some (.func (.func 77) #[] #[]) := HC3.out.cell 0
        rcases hO : F4.isSome with _ | _
        · have HN : Hid (F4 = none) := Lib.hid (Option.isSome_eq_false_iff.1 hO |> fun h => by simpa using h)
          rw [hO] at K4
          go_wp2_with fail
          refine (K4.out _ (TW.out.keep HW3.out)).mono ?_
          rintro e w4 ⟨hb4, n, hn, rfl, -⟩
          have HD := Lib.hid hn
          have HW4 := Lib.hid (HW3.out.trans (hb4.mono HW3.out.size))
          have HZ4 := Lib.hid (HZ3.out.keep hb4)
          have HC4 := Lib.hid (HC3.out.keep hb4)
          have hlt4 : w.heap.size + 1 < w4.heap.size := HC4.out.lt
          have HA4 := Lib.hid (Blk.new w4 90 zn)
          clear hb4 hn
          go_wp2_with (refine wpList_storeN _ _ _ w4.heap.size zn _ rfl rfl rfl rfl rfl HA4.out rfl (NetM.cells_size HD.out) (NetM.cells_one _) ?_; intro w5 hb5 ho5)
          go_roundg (gk - 1)
          case rel => exact ⟨0 + 1, by go_num, by omega, Lib.hid (HZ4.out.alloc _ |>.only ho5 (by omega)), Lib.hid (HC4.out.alloc _ |>.only ho5 (by omega)), Lib.hid ((HW4.out.alloc HW4.out.size _).trans (ho5.to_below HA4.out.lt (by omega))), Lib.hid (fun _ => HN.out), Lib.hid (fun h => absurd h (by omega))⟩
          case measure => omega
        · obtain ⟨n0, hn0⟩ := Option.isSome_iff_exists.1 hO
          have HR : Hid (F = some n0) := Lib.hid (by rw [HF.out]; rw [hn0])
          rw [hO] at K4
          rw [hn0] at K4
          go_wp2_with fail
          refine (K4.out _ (TW.out.keep HW3.out)).mono ?_
          rintro e w4 ⟨hb4, n, hn, rfl, hne⟩
          obtain rfl : n0 = n := Option.some.inj (hne (by first | rfl | trivial | simp))
          have HD := Lib.hid hn
          have HW4 := Lib.hid (HW3.out.trans (hb4.mono HW3.out.size))
          have HZ4 := Lib.hid (HZ3.out.keep hb4)
          have HC4 := Lib.hid (HC3.out.keep hb4)
          have hlt4 : w.heap.size + 1 < w4.heap.size := HC4.out.lt
          have HA4 := Lib.hid (Blk.new w4 90 zn)
          clear hb4 hn hne
          go_wp2_with (first
            | (refine wpList_storeN _ _ _ w4.heap.size zn _ rfl rfl rfl rfl rfl HA4.out rfl (NetM.cells_size HD.out) (NetM.cells_one _) ?_; intro w5 hb5 ho5; have HB5 := Lib.hid hb5; have HO5 := Lib.hid ho5; have HZ5 := Lib.hid (HZ4.out.alloc (.cells zn 90) |>.only ho5 (by omega)); clear hb5 ho5)
            | (refine wpList_storeN _ _ _ w.heap.size zn _ rfl rfl rfl rfl rfl HZ5.out rfl (NetM.cells_size HD.out) (NetM.cells_one _) ?_; intro w6 hb6 ho6)
            | refine wpList_loadN _ _ w4.heap.size _ rfl rfl rfl HB5.out (NetM.cells_size HD.out) ?_)
          exact bodyPost_ret (v := .tuple #[n0.val, .int .i64 0]) (res_net (i := 2) (j := 3) rfl hb6 (NetM.cells_size HD.out) rfl) rfl (POT.out _ HR.out HD.out _ (((HW4.out.alloc HW4.out.size _).trans (HO5.out.to_below HA4.out.lt (by omega))).trans (ho6.to_below HZ5.out.lt (Nat.le_refl _))))
      · have cj : wr.cell? ⟨w.heap.size + 1, 1, none⟩ = some (.func (.func 78) #[] #[]) := HC3.out.cell 1
        rcases hO : F6.isSome with _ | _
        · have HN : Hid (F6 = none) := Lib.hid (Option.isSome_eq_false_iff.1 hO |> fun h => by simpa using h)
          rw [hO] at K6
          go_wp2_with fail
          refine (K6.out _ (TW.out.keep HW3.out)).mono ?_
          rintro e w4 ⟨hb4, n, hn, rfl, -⟩
          have HD := Lib.hid hn
          have HW4 := Lib.hid (HW3.out.trans (hb4.mono HW3.out.size))
          have HZ4 := Lib.hid (HZ3.out.keep hb4)
          have HC4 := Lib.hid (HC3.out.keep hb4)
          have hlt4 : w.heap.size + 1 < w4.heap.size := HC4.out.lt
          have HA4 := Lib.hid (Blk.new w4 90 zn)
          clear hb4 hn
          go_wp2_with (refine wpList_storeN _ _ _ w4.heap.size zn _ rfl rfl rfl rfl rfl HA4.out rfl (NetM.cells_size HD.out) (NetM.cells_one _) ?_; intro w5 hb5 ho5)
          go_roundg (gk - 1)
          case rel => exact ⟨1 + 1, by go_num, by omega, Lib.hid (HZ4.out.alloc _ |>.only ho5 (by omega)), Lib.hid (HC4.out.alloc _ |>.only ho5 (by omega)), Lib.hid ((HW4.out.alloc HW4.out.size _).trans (ho5.to_below HA4.out.lt (by omega))), Lib.hid (fun _ => H1.out (by omega)), Lib.hid (fun _ => HN.out)⟩
          case measure => omega
        · obtain ⟨n0, hn0⟩ := Option.isSome_iff_exists.1 hO
          have HR : Hid (F = some n0) := Lib.hid (by rw [HF.out]; rw [H1.out (by omega)]; rw [hn0])
          rw [hO] at K6
          rw [hn0] at K6
          go_wp2_with fail
          refine (K6.out _ (TW.out.keep HW3.out)).mono ?_
          rintro e w4 ⟨hb4, n, hn, rfl, hne⟩
          obtain rfl : n0 = n := Option.some.inj (hne (by first | rfl | trivial | simp))
          have HD := Lib.hid hn
          have HW4 := Lib.hid (HW3.out.trans (hb4.mono HW3.out.size))
          have HZ4 := Lib.hid (HZ3.out.keep hb4)
          have HC4 := Lib.hid (HC3.out.keep hb4)
          have hlt4 : w.heap.size + 1 < w4.heap.size := HC4.out.lt
          have HA4 := Lib.hid (Blk.new w4 90 zn)
          clear hb4 hn hne
          go_wp2_with (first
            | (refine wpList_storeN _ _ _ w4.heap.size zn _ rfl rfl rfl rfl rfl HA4.out rfl (NetM.cells_size HD.out) (NetM.cells_one _) ?_; intro w5 hb5 ho5; have HB5 := Lib.hid hb5; have HO5 := Lib.hid ho5; have HZ5 := Lib.hid (HZ4.out.alloc (.cells zn 90) |>.only ho5 (by omega)); clear hb5 ho5)
            | (refine wpList_storeN _ _ _ w.heap.size zn _ rfl rfl rfl rfl rfl HZ5.out rfl (NetM.cells_size HD.out) (NetM.cells_one _) ?_; intro w6 hb6 ho6)
            | refine wpList_loadN _ _ w4.heap.size _ rfl rfl rfl HB5.out (NetM.cells_size HD.out) ?_)
          exact bodyPost_ret (v := .tuple #[n0.val, .int .i64 0]) (res_net (i := 2) (j := 3) rfl hb6 (NetM.cells_size HD.out) rfl) rfl (POT.out _ HR.out HD.out _ (((HW4.out.alloc HW4.out.size _).trans (HO5.out.to_below HA4.out.lt (by omega))).trans (ho6.to_below HZ5.out.lt (Nat.le_refl _))))
    · obtain rfl : j = 2 := by omega
      have HR : Hid (F = none) := Lib.hid (by rw [HF.out, H1.out (by omega)]; exact H2.out (by omega))
      go_wp2_with (refine wpList_storeN _ _ _ w.heap.size zn _ rfl rfl rfl rfl rfl HZ3.out rfl rfl (NetM.cells_one zeroN) ?_; intro w6 hb6 ho6)
      exact bodyPost_ret (v := .tuple #[zeroN.val, .int .i64 70]) (res_net (i := 2) (j := 3) rfl hb6 rfl rfl) rfl (POF.out HR.out _ (HW3.out.trans (ho6.to_below HZ3.out.lt (Nat.le_refl _))))
end Go.Proofs.YtjnjnccfojfghaaGreatDoor
