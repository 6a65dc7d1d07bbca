/-
  Several texts in one: Wide, ScRight, ScWide, ScFour, AppT. Conditions: each part names its own.
-/
import Derived.Test.YtjnjnccfojfghaaGreatDoorMg1
import Derived.Lib.ReflectliteSwap
import Derived.Test.YtjnjnccfojfghaaGreatDoorMg4
import Derived.ChangeKeysEq
import Derived.Deep.RegionHeld3
import Derived.Test.YtjnjnccfojfghaaGreatDoorMg8
import Derived.Deep.RegionHeld
import Derived.Lib.AppendStr
set_option linter.unusedSimpArgs false
/-! The walk's laws for a variable of several cells that is a whole block: read, written; what a call gives from such a one. No condition. -/
namespace Go.Proofs.YtjnjnccfojfghaaGreatDoor
open Go.RowKit
set_option linter.unusedVariables false
/-- the cells from o on overwritten -/
def setL (cs : Array Value) : Nat → List Value → Array Value
  | _, [] => cs
  | o, v :: r => setL (cs.setIfInBounds o v) (o + 1) r
theorem setL_eq : ∀ (vs : List Value) (o : Nat) (cs : Array Value), cs.size = o + vs.length → (setL cs o vs).toList = cs.toList.take o ++ vs
  | [], o, cs, h => by
    have h2 : cs.size = o := by simpa using h
    rw [setL, List.take_of_length_le (by rw [Array.length_toList]; omega), List.append_nil]
  | v :: r, o, cs, h => by
    have hl : cs.toList.length = o + (r.length + 1) := by simpa using h
    rw [setL, setL_eq r (o + 1) _ (by rw [Array.size_setIfInBounds, h, List.length_cons]; omega)]
    rw [Array.toList_setIfInBounds, List.take_add_one, List.take_set_of_le (Nat.le_refl _), List.getElem?_set_self (by omega)]
    simp
theorem setL_all (vs : List Value) (cs : Array Value) (h : cs.size = vs.length) : setL cs 0 vs = vs.toArray := by
  have := setL_eq vs 0 cs (by omega)
  rw [List.take_zero, List.nil_append] at this
  calc setL cs 0 vs = (setL cs 0 vs).toList.toArray := by simp
    _ = vs.toArray := by rw [this]
theorem Blk.setCells {w : World} {g : Nat} {t : TypeId} : ∀ (vs : List Value) (o : Nat) (cs : Array Value) (w : World), Blk w g t cs → Blk (w.setCells g o vs) g t (setL cs o vs)
  | [], _, _, _, h => h
  | v :: r, o, cs, w, h => Blk.setCells (w := w) r (o + 1) _ _ (h.set_ o v)
theorem Only.setCells {g : Nat} {w0 : World} : ∀ (vs : List Value) (o : Nat) (w : World), Only g w0 w → Only g w0 (w.setCells g o vs)
  | [], _, _, h => h
  | v :: r, o, w, h => Only.setCells r (o + 1) _ (h.set_ o v)
section
variable {P : Program} {ops : Array Oper} {rest : List Oper} {o : Oper} {a : Act} {Q : Exit → Act → World → Prop}
theorem load_blk {w : World} {g : Nat} {t t0 : TypeId} {cs : Array Value} {ie : TypeInfo} (hie : P.info? t = some ie) (hagg : ∀ w, (isAgg t).run P w = .ok true w) (hb : Blk w g t0 cs) (hsz : cs.size = ie.size) :
    (loadVar t ⟨g, 0, none⟩).run P w = .ok (.agg cs) w := by
  have h := Lib.rl_loadVar_cells (P := P) t ie hie hagg g 0 cs.toList (by simpa using hsz) w (fun k v hk => by rw [Nat.zero_add, hb.cell k, ← hk]; simp)
  simpa using h
theorem wpList_loadB (w : World) (t : TypeId) {ie : TypeInfo} (hie : P.info? t = some ie) (hagg : ∀ w, (isAgg t).run P w = .ok true w) (x : Operand) (g : Nat) {t0 : TypeId} (cs : Array Value)
    (hop : o.op = .load t x) (hg : o.guard = none) (hx : a.eval x = .pointer (some ⟨g, 0, none⟩)) (hb : Blk w g t0 cs) (hsz : cs.size = ie.size)
    (h : wpList P ops Q rest (a.put o.dst (.agg cs)) w) : wpList P ops Q (o :: rest) a w := by
  refine wpList_plain hg fun K hK' => ?_
  have hl := load_blk hie hagg hb hsz
  unfold Oper.wp
  simp [execOp, hop, hx, Instr.loadAt, Instr.sureAddr, hl, Result.andThen]
  exact hK' _ _ h
theorem wpList_storeB (w : World) (t : TypeId) {ie : TypeInfo} (hie : P.info? t = some ie) (x y : Operand) (g : Nat) {t0 : TypeId} (cs cs' : Array Value)
    (hop : o.op = .store t x y) (hg : o.guard = none) (hd : o.dst = none) (hx : a.eval x = .pointer (some ⟨g, 0, none⟩)) (hy : a.eval y = .agg cs') (hb : Blk w g t0 cs) (hsz : cs.size = ie.size) (hsz' : cs'.size = ie.size) (h1 : ∀ v ∈ cs'.toList, v.oneCell' = true)
    (h : ∀ w', Blk w' g t0 cs' → Only g w w' → wpList P ops Q rest a w') : wpList P ops Q (o :: rest) a w := by
  refine wpList_plain hg fun K hK' => ?_
  have hs := Lib.rl_storeVar_cells (P := P) t ie hie g 0 cs'.toList (by simpa using hsz') h1 w
    (fun k hk => by
      have hk2 : k < cs'.size := by simpa using hk
      rw [Nat.zero_add, hb.cell k, Array.getElem?_eq_getElem (by omega)]; rfl)
    (fun k hk => by rw [Nat.zero_add]; exact hb.frozen k)
  have hB := Blk.setCells (w := w) cs'.toList 0 cs w hb
  rw [setL_all _ _ (by rw [hsz, ← hsz']; simp)] at hB
  have hO := Only.setCells cs'.toList 0 w (Only.refl (g := g) w)
  have e : cs'.toList.toArray = cs' := by simp
  rw [e] at hs hB
  unfold Oper.wp
  have ea : a.put o.dst undef = a := by rw [hd]; rfl
  simp [execOp, hop, hx, hy, Instr.storeAt, Instr.sureAddr, hs, Result.andThen]
  show K (a.put o.dst undef) _
  rw [ea]
  exact hK' _ _ (h _ hB hO)
/-- what is given from a block's cells and one slot -/
theorem res_blk {fn : Func} {i j : Nat} {t t0 : TypeId} (hfn : fn.results = #[.cell i t, .tmp j]) {ie : TypeInfo} (hie : P.info? t = some ie) (hagg : ∀ w, (isAgg t).run P w = .ok true w) {tm : Array Value} {W : World} {g : Nat} {cs : Array Value} (hb : Blk W g t0 cs) (hsz : cs.size = ie.size) (h2 : tm[i]?.getD undef = .pointer (some ⟨g, 0, none⟩)) :
    (results fn tm).run P W = .ok (.tuple #[.agg cs, tm[j]?.getD undef]) W := by
  have hl := load_blk hie hagg hb hsz
  have ha : (asAddr (.pointer (some ⟨g, 0, none⟩))).run P W = .ok ⟨g, 0, none⟩ W := rfl
  simp [results, hfn, h2, ha, hl, Result.andThen]
end
end Go.Proofs.YtjnjnccfojfghaaGreatDoor

/-! The walk of cidr.Right, where no bit behind the count is set. No condition. -/
namespace Go.Proofs.YtjnjnccfojfghaaGreatDoor
open Go.RowKit
set_option linter.unusedVariables false
theorem eql16 (a : Tx) (ha : a.length = 16) (w : World) : (binOp .eql 88 (.agg (arr a)) (.agg (arr a))).run Tryz.prog w = .ok (.bool true) w := by
  obtain ⟨i, h1, h2, h3, h4⟩ := info_parts (show (Tryz.prog.info? 5).map (fun i => (i.zero, i.size, i.bytes)) = some (some (.int .u8 0), 1, 1) by kernel_rfl)
  obtain ⟨b0, b1, b2, b3, b4, b5, b6, b7, b8, b9, b10, b11, b12, b13, b14, b15, he⟩ := arr16 ha
  subst he
  have h : ∀ d : Nat, (Op.equalIn (d + 2) 88 (.agg (arr [b0, b1, b2, b3, b4, b5, b6, b7, b8, b9, b10, b11, b12, b13, b14, b15])) (.agg (arr [b0, b1, b2, b3, b4, b5, b6, b7, b8, b9, b10, b11, b12, b13, b14, b15]))).run Tryz.prog w = .ok true w := fun d => by
    rw [run_equalIn_array (P := Tryz.prog) w (d + 1) (arr [b0, b1, b2, b3, b4, b5, b6, b7, b8, b9, b10, b11, b12, b13, b14, b15]) (arr [b0, b1, b2, b3, b4, b5, b6, b7, b8, b9, b10, b11, b12, b13, b14, b15]) Tryz.underlying88 h1]
    have hu := Tryz.underlying5
    simp [Op.eqItems, List.range, List.range.loop, arr, u8v, part, Program.cellsOf, h1, h3, run_equalIn_int, go_sem]
  simp only [binOp]
  simp [Op.equal, Op.maxDepth, h 9998]
/-- no bit behind the count is set -/
structure NetM.ok (n : NetM) : Prop where
  len : n.addr.length = 16
  bits : ∃ k, n.bits = 8 * k ∧ k ≤ 16 ∧ cutK n.addr k = n.addr
  size : n.bits ≤ sizeM n.six
theorem net16 (six : Bool) (bits : Nat) (b0 b1 b2 b3 b4 b5 b6 b7 b8 b9 b10 b11 b12 b13 b14 b15 : UInt8) : NetM.cells ⟨six, bits, [b0, b1, b2, b3, b4, b5, b6, b7, b8, b9, b10, b11, b12, b13, b14, b15]⟩ = #[.bool six, .int .i64 (bits : Int), .int .u8 (b0.toNat : Int), .int .u8 (b1.toNat : Int), .int .u8 (b2.toNat : Int), .int .u8 (b3.toNat : Int), .int .u8 (b4.toNat : Int), .int .u8 (b5.toNat : Int), .int .u8 (b6.toNat : Int), .int .u8 (b7.toNat : Int), .int .u8 (b8.toNat : Int), .int .u8 (b9.toNat : Int), .int .u8 (b10.toNat : Int), .int .u8 (b11.toNat : Int), .int .u8 (b12.toNat : Int), .int .u8 (b13.toNat : Int), .int .u8 (b14.toNat : Int), .int .u8 (b15.toNat : Int)] := rfl
theorem arr16l (b0 b1 b2 b3 b4 b5 b6 b7 b8 b9 b10 b11 b12 b13 b14 b15 : UInt8) : arr [b0, b1, b2, b3, b4, b5, b6, b7, b8, b9, b10, b11, b12, b13, b14, b15] = #[.int .u8 (b0.toNat : Int), .int .u8 (b1.toNat : Int), .int .u8 (b2.toNat : Int), .int .u8 (b3.toNat : Int), .int .u8 (b4.toNat : Int), .int .u8 (b5.toNat : Int), .int .u8 (b6.toNat : Int), .int .u8 (b7.toNat : Int), .int .u8 (b8.toNat : Int), .int .u8 (b9.toNat : Int), .int .u8 (b10.toNat : Int), .int .u8 (b11.toNat : Int), .int .u8 (b12.toNat : Int), .int .u8 (b13.toNat : Int), .int .u8 (b14.toNat : Int), .int .u8 (b15.toNat : Int)] := rfl
set_option maxRecDepth 100000 in
set_option maxHeartbeats 2000000 in
theorem nRight_walk (n : NetM) (h : n.ok) (w : World) : Calls Tryz.prog 79 #[n.val] w fun e w' => Below w.heap.size w w' ∧ e = .returned (.bool true) := by
  obtain ⟨six, bits, addr⟩ := n
  obtain ⟨hl, ⟨k, hk, hk16, hcut⟩, hsz⟩ := h
  simp only [] at hl hk hcut hsz
  obtain ⟨b0, b1, b2, b3, b4, b5, b6, b7, b8, b9, b10, b11, b12, b13, b14, b15, he⟩ := arr16 hl
  subst he
  have HCW := Lib.hid (fun W => nCut_walk [b0, b1, b2, b3, b4, b5, b6, b7, b8, b9, b10, b11, b12, b13, b14, b15] rfl k hk16 W)
  rw [hcut, arr16l] at HCW
  have HSZ := Lib.hid (fun W => (nSize_walk six W).mono fun e w' (h : w' = W ∧ e = .returned (.int .i64 (sizeM six : Int))) => (⟨h.1 ▸ Below.refl _ _, h.2⟩ : Below W.heap.size W w' ∧ e = .returned (.int .i64 (sizeM six : Int))))
  have heq := fun W => eql16 [b0, b1, b2, b3, b4, b5, b6, b7, b8, b9, b10, b11, b12, b13, b14, b15] rfl W
  rw [arr16l] at heq
  have hbi : (bits : Int) = 8 * (k : Int) := by omega
  rw [← hbi] at HCW
  have hs1 : (bits : Int) ≤ (sizeM six : Int) := by omega
  have hs0 : (0 : Int) ≤ (bits : Int) := by omega
  unfold NetM.val
  rw [net16]
  have hB1 := Blk.new w 90 #[.bool six, .int .i64 (bits : Int), .int .u8 (b0.toNat : Int), .int .u8 (b1.toNat : Int), .int .u8 (b2.toNat : Int), .int .u8 (b3.toNat : Int), .int .u8 (b4.toNat : Int), .int .u8 (b5.toNat : Int), .int .u8 (b6.toNat : Int), .int .u8 (b7.toNat : Int), .int .u8 (b8.toNat : Int), .int .u8 (b9.toNat : Int), .int .u8 (b10.toNat : Int), .int .u8 (b11.toNat : Int), .int .u8 (b12.toNat : Int), .int .u8 (b13.toNat : Int), .int .u8 (b14.toNat : Int), .int .u8 (b15.toNat : Int)]
  have HBL := Lib.hid ((Below.refl w.heap.size w).alloc (Nat.le_refl _) (.cells #[.bool six, .int .i64 (bits : Int), .int .u8 (b0.toNat : Int), .int .u8 (b1.toNat : Int), .int .u8 (b2.toNat : Int), .int .u8 (b3.toNat : Int), .int .u8 (b4.toNat : Int), .int .u8 (b5.toNat : Int), .int .u8 (b6.toNat : Int), .int .u8 (b7.toNat : Int), .int .u8 (b8.toNat : Int), .int .u8 (b9.toNat : Int), .int .u8 (b10.toNat : Int), .int .u8 (b11.toNat : Int), .int .u8 (b12.toNat : Int), .int .u8 (b13.toNat : Int), .int .u8 (b14.toNat : Int), .int .u8 (b15.toNat : Int)] 90))
  obtain ⟨w1, hw1⟩ : ∃ w1, w.alloc (.cells #[.bool six, .int .i64 (bits : Int), .int .u8 (b0.toNat : Int), .int .u8 (b1.toNat : Int), .int .u8 (b2.toNat : Int), .int .u8 (b3.toNat : Int), .int .u8 (b4.toNat : Int), .int .u8 (b5.toNat : Int), .int .u8 (b6.toNat : Int), .int .u8 (b7.toNat : Int), .int .u8 (b8.toNat : Int), .int .u8 (b9.toNat : Int), .int .u8 (b10.toNat : Int), .int .u8 (b11.toNat : Int), .int .u8 (b12.toNat : Int), .int .u8 (b13.toNat : Int), .int .u8 (b14.toNat : Int), .int .u8 (b15.toNat : Int)] 90) = w1 := ⟨_, rfl⟩
  rw [hw1] at hB1 HBL
  have hc : ∀ (i : Nat) (n : Over w1.heap.size w1), n.v.cell? ⟨w.heap.size, i, none⟩ = (#[.bool six, .int .i64 (bits : Int), .int .u8 (b0.toNat : Int), .int .u8 (b1.toNat : Int), .int .u8 (b2.toNat : Int), .int .u8 (b3.toNat : Int), .int .u8 (b4.toNat : Int), .int .u8 (b5.toNat : Int), .int .u8 (b6.toNat : Int), .int .u8 (b7.toNat : Int), .int .u8 (b8.toNat : Int), .int .u8 (b9.toNat : Int), .int .u8 (b10.toNat : Int), .int .u8 (b11.toNat : Int), .int .u8 (b12.toNat : Int), .int .u8 (b13.toNat : Int), .int .u8 (b14.toNat : Int), .int .u8 (b15.toNat : Int)] : Array Value)[i]? := fun i n => (hB1.keep n.ok).cell i
  have k0 : ∀ n : Over w1.heap.size w1, n.v.cell? ⟨w.heap.size, 0, none⟩ = some (.bool six) := hc 0
  have k1 : ∀ n : Over w1.heap.size w1, n.v.cell? ⟨w.heap.size, 1, none⟩ = some (.int .i64 (bits : Int)) := hc 1
  have k2 : ∀ n : Over w1.heap.size w1, n.v.cell? ⟨w.heap.size, 2, none⟩ = some (.int .u8 (b0.toNat : Int)) := hc 2
  have k3 : ∀ n : Over w1.heap.size w1, n.v.cell? ⟨w.heap.size, 3, none⟩ = some (.int .u8 (b1.toNat : Int)) := hc 3
  have k4 : ∀ n : Over w1.heap.size w1, n.v.cell? ⟨w.heap.size, 4, none⟩ = some (.int .u8 (b2.toNat : Int)) := hc 4
  have k5 : ∀ n : Over w1.heap.size w1, n.v.cell? ⟨w.heap.size, 5, none⟩ = some (.int .u8 (b3.toNat : Int)) := hc 5
  have k6 : ∀ n : Over w1.heap.size w1, n.v.cell? ⟨w.heap.size, 6, none⟩ = some (.int .u8 (b4.toNat : Int)) := hc 6
  have k7 : ∀ n : Over w1.heap.size w1, n.v.cell? ⟨w.heap.size, 7, none⟩ = some (.int .u8 (b5.toNat : Int)) := hc 7
  have k8 : ∀ n : Over w1.heap.size w1, n.v.cell? ⟨w.heap.size, 8, none⟩ = some (.int .u8 (b6.toNat : Int)) := hc 8
  have k9 : ∀ n : Over w1.heap.size w1, n.v.cell? ⟨w.heap.size, 9, none⟩ = some (.int .u8 (b7.toNat : Int)) := hc 9
  have k10 : ∀ n : Over w1.heap.size w1, n.v.cell? ⟨w.heap.size, 10, none⟩ = some (.int .u8 (b8.toNat : Int)) := hc 10
  have k11 : ∀ n : Over w1.heap.size w1, n.v.cell? ⟨w.heap.size, 11, none⟩ = some (.int .u8 (b9.toNat : Int)) := hc 11
  have k12 : ∀ n : Over w1.heap.size w1, n.v.cell? ⟨w.heap.size, 12, none⟩ = some (.int .u8 (b10.toNat : Int)) := hc 12
  have k13 : ∀ n : Over w1.heap.size w1, n.v.cell? ⟨w.heap.size, 13, none⟩ = some (.int .u8 (b11.toNat : Int)) := hc 13
  have k14 : ∀ n : Over w1.heap.size w1, n.v.cell? ⟨w.heap.size, 14, none⟩ = some (.int .u8 (b12.toNat : Int)) := hc 14
  have k15 : ∀ n : Over w1.heap.size w1, n.v.cell? ⟨w.heap.size, 15, none⟩ = some (.int .u8 (b13.toNat : Int)) := hc 15
  have k16 : ∀ n : Over w1.heap.size w1, n.v.cell? ⟨w.heap.size, 16, none⟩ = some (.int .u8 (b14.toNat : Int)) := hc 16
  have k17 : ∀ n : Over w1.heap.size w1, n.v.cell? ⟨w.heap.size, 17, none⟩ = some (.int .u8 (b15.toNat : Int)) := hc 17
  clear hl hk hcut hsz hbi hB1 hc
  go_enter Tryz.func79, Tryz.ntmps79
  go_upto_region 1 with fail
  refine wp_region_below w1.heap.size (by kernel_rfl) (by kernel_rfl) ?_
  repeat (go_big_quiet_step (first | (go_at_call 82; exact calls_over _ (HSZ.out _) (Nat.le_refl _)) | (go_at_call 113; exact calls_over _ (HCW.out _) (Nat.le_refl _))))
  refine wpQuiet_nil ?_
  rintro _ ⟨⟨w7, hb7⟩, rfl⟩
  clear k0 k1 k2 k3 k4 k5 k6 k7 k8 k9 k10 k11 k12 k13 k14 k15 k16 k17
  go_wp2_with fail
  go_ret
  exact ⟨HBL.out.trans (hb7.mono HBL.out.size), rfl⟩
end Go.Proofs.YtjnjnccfojfghaaGreatDoor

/-! An address of a network as a whole block: read, written, given. No condition. -/
namespace Go.Proofs.YtjnjnccfojfghaaGreatDoor
open Go.RowKit
set_option linter.unusedVariables false
abbrev zn : Array Value := #[.bool false, .int .i64 0, .int .u8 0, .int .u8 0, .int .u8 0, .int .u8 0, .int .u8 0, .int .u8 0, .int .u8 0, .int .u8 0, .int .u8 0, .int .u8 0, .int .u8 0, .int .u8 0, .int .u8 0, .int .u8 0, .int .u8 0, .int .u8 0]
theorem zn_eq : zn = NetM.cells ⟨false, 0, List.replicate 16 0⟩ := rfl
theorem NetM.cells_size {n : NetM} (h : n.addr.length = 16) : n.cells.size = 18 := by simp [NetM.cells, h]
theorem NetM.cells_one (n : NetM) : ∀ v ∈ n.cells.toList, v.oneCell' = true := by
  intro v hv
  simp only [NetM.cells, List.mem_cons, List.mem_map] at hv
  rcases hv with rfl | rfl | ⟨c, _, rfl⟩ <;> rfl
theorem NetM.cells_set (n : NetM) (j : Nat) (c : UInt8) : n.cells.setIfInBounds (2 + j) (u8v c) = NetM.cells { n with addr := n.addr.set j c } := by
  unfold NetM.cells
  rw [Nat.add_comm, List.setIfInBounds_toArray]
  simp [List.map_set]
theorem NetM.cells_at (n : NetM) (j : Nat) : n.cells[2 + j]? = (n.addr[j]?).map u8v := by
  unfold NetM.cells
  rw [Nat.add_comm]
  simp
theorem net_info : ∃ ie, Tryz.prog.info? 90 = some ie ∧ ie.size = 18 := by
  have h : (Tryz.prog.info? 90).map (·.size) = some 18 := by kernel_rfl
  obtain ⟨i, hi, hz⟩ := Option.map_eq_some_iff.1 h
  exact ⟨i, hi, hz⟩
theorem net_agg (w : World) : (isAgg 90).run Tryz.prog w = .ok true w := by
  simp [isAgg, Tryz.underlying90, go_sem]
section
variable {ops : Array Oper} {rest : List Oper} {o : Oper} {a : Act} {Q : Exit → Act → World → Prop}
theorem wpList_loadN (w : World) (x : Operand) (g : Nat) {t0 : TypeId} (cs : Array Value) (hop : o.op = .load 90 x) (hg : o.guard = none) (hx : a.eval x = .pointer (some ⟨g, 0, none⟩)) (hb : Blk w g t0 cs) (hsz : cs.size = 18)
    (h : wpList Tryz.prog ops Q rest (a.put o.dst (.agg cs)) w) : wpList Tryz.prog ops Q (o :: rest) a w := by
  obtain ⟨ie, h1, h2⟩ := net_info
  exact wpList_loadB w 90 h1 net_agg x g cs hop hg hx hb (hsz.trans h2.symm) h
theorem wpList_storeN (w : World) (x y : Operand) (g : Nat) {t0 : TypeId} (cs cs' : Array Value) (hop : o.op = .store 90 x y) (hg : o.guard = none) (hd : o.dst = none) (hx : a.eval x = .pointer (some ⟨g, 0, none⟩)) (hy : a.eval y = .agg cs') (hb : Blk w g t0 cs) (hsz : cs.size = 18) (hsz' : cs'.size = 18) (hone : ∀ v ∈ cs'.toList, v.oneCell' = true)
    (h : ∀ w', Blk w' g t0 cs' → Only g w w' → wpList Tryz.prog ops Q rest a w') : wpList Tryz.prog ops Q (o :: rest) a w := by
  obtain ⟨ie, h1, h2⟩ := net_info
  exact wpList_storeB w 90 h1 x y g cs cs' hop hg hd hx hy hb (hsz.trans h2.symm) (hsz'.trans h2.symm) hone h
theorem res_net {fn : Func} {i j : Nat} (hfn : fn.results = #[.cell i 90, .tmp j]) {tm : Array Value} {W : World} {g : Nat} {t0 : TypeId} {cs : Array Value} (hb : Blk W g t0 cs) (hsz : cs.size = 18) (h2 : tm[i]?.getD undef = .pointer (some ⟨g, 0, none⟩)) :
    (results fn tm).run Tryz.prog W = .ok (.tuple #[.agg cs, tm[j]?.getD undef]) W := by
  obtain ⟨ie, h1, h3⟩ := net_info
  exact res_blk hfn h1 net_agg hb (hsz.trans h3.symm) h2
end
/-- what a reader of addresses gives -/
def NetAns (o : Option NetM) (w : World) (e : Ending) (w' : World) : Prop := Below w.heap.size w w' ∧ match o with
  | none => ∃ n : NetM, n.addr.length = 16 ∧ e = .returned (.tuple #[n.val, .bool false])
  | some n => n.addr.length = 16 ∧ e = .returned (.tuple #[n.val, .bool true])
end Go.Proofs.YtjnjnccfojfghaaGreatDoor

/-! The walk of cidr.four. Condition: the text's length, what the tables hold. -/
namespace Go.Proofs.YtjnjnccfojfghaaGreatDoor
open Go.RowKit
set_option linter.unusedVariables false
def octB (x : Tx) : Bool := match numM x with
  | some k => decide (k ≤ 255)
  | none => false
def octV (x : Tx) : UInt8 := ((numM x).getD 0).toUInt8
def fourM (l : Tx) : Option NetM := if (cutC 46 l).length = 4 ∧ (cutC 46 l).all octB = true then some ⟨false, 32, (cutC 46 l).map octV ++ List.replicate 12 0⟩ else none
def doneM (L : List Tx) (j : Nat) : Tx := (L.take j).map octV ++ List.replicate (16 - j) 0
theorem doneM_len (L : List Tx) {j : Nat} (h : j ≤ L.length) (h4 : j ≤ 16) : (doneM L j).length = 16 := by
  unfold doneM; simp; omega
theorem doneM_set (L : List Tx) {j : Nat} {x : Tx} (hx : L[j]? = some x) (h4 : j < 16) : (doneM L j).set j (octV x) = doneM L (j + 1) := by
  obtain ⟨h1, h2⟩ := List.getElem?_eq_some_iff.1 hx
  have hl : ((L.take j).map octV).length = j := by simp; omega
  unfold doneM
  rw [List.set_append_right _ _ (by omega), hl, Nat.sub_self, List.take_add_one, hx]
  obtain ⟨m, hm⟩ : ∃ m, 16 - j = m + 1 := ⟨15 - j, by omega⟩
  rw [hm, show 16 - (j + 1) = m from by omega, List.replicate_succ]
  simp
theorem RS.far {w : World} {b off : Nat} {L : List ByteArray} (h : RS w w.heap.size (some ⟨b, off, none⟩) L) {p : Addr} (hp : b ≠ p.block) (u : Value) : RS (w.setCell p u) (w.setCell p u).heap.size (some ⟨b, off, none⟩) L := by
  have hs : (w.setCell p u).heap.size = w.heap.size := by simp
  rw [hs]
  rcases h with h | ⟨b', off', hA, hb, hc⟩
  · exact .inl h
  · injection hA with hA
    injection hA with h1 h2
    subst h1 h2
    exact .inr ⟨_, _, rfl, hb, fun i hi => (World.cell?_setCell_far w p _ u (fun e => hp e.symm)).trans (hc i hi)⟩
set_option maxHeartbeats 4000000 in
theorem four_walk (l : Tx) (w : World) (T : TabC w) (hs : l.length ≤ 1073741824) :
    Calls Tryz.prog 77 #[.string (bs l)] w (NetAns (fourM l) w) := by
  have KS : Hid (∀ W, TabC W → Calls Tryz.prog 83 #[.string (bs l), .string (bs [46])] W fun e w' => Below W.heap.size W w' ∧ e = .returned (.slice (some ⟨W.heap.size, 0, none⟩) (cutC 46 l).length (cutC 46 l).length) ∧
      OwnS w' W.heap.size 9 (.slice (some ⟨W.heap.size, 0, none⟩) (cutC 46 l).length (cutC 46 l).length) ((cutC 46 l).map bs)) := Lib.hid fun W TW => by
    obtain ⟨m, hm⟩ := TW.ml
    exact splC_walk 46 l m W hm hs
  have hp : bs [46] = ⟨#[46]⟩ := rfl
  rw [hp] at KS
  have hP := Lib.hid (fun x hx => Nat.le_trans (cutC_part_le 46 l x hx) hs)
  have hln : (cutC 46 l).length ≤ 1073741825 := by have := cutC_len_le 46 l; omega
  have hF : fourM l = if (cutC 46 l).length = 4 ∧ (cutC 46 l).all octB = true then some ⟨false, 32, (cutC 46 l).map octV ++ List.replicate 12 0⟩ else none := rfl
  have POF : Hid (fourM l = none → ∀ w' (n : NetM), n.addr.length = 16 → Below w.heap.size w w' → NetAns (fourM l) w (.returned (.tuple #[n.val, .bool false])) w') := Lib.hid fun h w' n hn hb => by
    unfold NetAns
    rw [h]
    exact ⟨hb, n, hn, rfl⟩
  have POT : Hid (∀ n, fourM l = some n → n.addr.length = 16 → ∀ w', Below w.heap.size w w' → NetAns (fourM l) w (.returned (.tuple #[n.val, .bool true])) w') := Lib.hid fun n h hn w' hb => by
    unfold NetAns
    rw [h]
    exact ⟨hb, hn, rfl⟩
  have HNE : Hid ((cutC 46 l).length ≠ 0) := Lib.hid (by
    obtain ⟨h, tl, e⟩ := cutC_some 46 l
    rw [e]
    exact Nat.succ_ne_zero _)
  generalize NetAns (fourM l) w = Post at *
  generalize fourM l = F at *
  generalize cutC 46 l = L at *
  have HF := Lib.hid hF
  clear hF hp
  have hB1 := (Blk.new w 90 zn).alloc (.cells zn 90)
  have hB2 := Blk.new (w.alloc (.cells zn 90)) 90 zn
  have hsz : (w.alloc (.cells zn 90)).heap.size = w.heap.size + 1 := by simp
  rw [hsz] at hB2
  have HB1 := Lib.hid hB1
  have HB2 := Lib.hid hB2
  have HBL := Lib.hid (((Below.refl w.heap.size w).alloc (Nat.le_refl _) (.cells zn 90)).alloc (by simp) (.cells zn 90))
  have TW := Lib.hid T
  clear hB1 hB2 hsz T
  go_enter Tryz.func77, Tryz.ntmps77
  go_wp2_with (refine wpList_storeN _ _ _ (w.heap.size + 1) zn _ rfl rfl rfl rfl rfl HB2.out rfl rfl (NetM.cells_one ⟨false, 32, List.replicate 16 0⟩) ?_; intro w1 hb1 ho1)
  have HW1 := Lib.hid (HBL.out.trans (ho1.to_below HB2.out.lt (Nat.le_succ _)))
  have HZ := Lib.hid (HB1.out.only ho1 (by omega))
  have hb1' : Blk w1 (w.heap.size + 1) 90 (NetM.cells ⟨false, 32, doneM L 0⟩) := hb1
  have HN := Lib.hid hb1'
  have TW1 := Lib.hid (TW.out.keep HW1.out)
  clear hb1 hb1' ho1 HB1 HB2 HBL
  generalize (Value.agg #[Value.bool false, Value.int IntKind.i64 32, Value.int IntKind.u8 0, Value.int IntKind.u8 0, Value.int IntKind.u8 0, Value.int IntKind.u8 0, Value.int IntKind.u8 0, Value.int IntKind.u8 0, Value.int IntKind.u8 0, Value.int IntKind.u8 0, Value.int IntKind.u8 0, Value.int IntKind.u8 0, Value.int IntKind.u8 0, Value.int IntKind.u8 0, Value.int IntKind.u8 0, Value.int IntKind.u8 0, Value.int IntKind.u8 0, Value.int IntKind.u8 0]) = u10
  refine (KS.out _ TW1.out).mono ?_
  rintro e w2 ⟨hb2, rfl, own2⟩
  have HW2 := Lib.hid (HW1.out.trans (hb2.mono HW1.out.size))
  have HZ2 := Lib.hid (HZ.out.keep hb2)
  have HN2 := Lib.hid (HN.out.keep hb2)
  have RSH := Lib.hid own2.rs
  have hgt : w.heap.size + 1 < w1.heap.size := HN.out.lt
  generalize w1.heap.size = lb at *
  clear hb2 own2 HW1 HZ HN TW1 KS
  go_wp2_with fail
  go_loopg [6, 7, 8, 9, 15] L.length (fun k s6 s7 s8 s9 i wr => ∃ j : Nat, i = .int .i64 (j : Int) ∧ j + k = L.length ∧ Hid (j = 0 ∨ L.length = 4) ∧ Hid (∀ (n : Nat) (x : Tx), n < j → L[n]? = some x → octB x = true) ∧ Hid (Blk wr w.heap.size 90 zn) ∧ Hid (Blk wr (w.heap.size + 1) 90 (NetM.cells ⟨false, 32, doneM L j⟩)) ∧ Hid (Below w.heap.size w wr) ∧ Hid (RS wr wr.heap.size (some ⟨lb, 0, none⟩) (L.map bs)))
  case atStart => exact ⟨0, rfl, by omega, Lib.hid (.inl rfl), Lib.hid (fun n x h => absurd h (by omega)), HZ2, HN2, HW2, RSH⟩
  case round =>
    obtain ⟨j, rfl, hj, H4, HA, HZ3, HN3, HW3, RS3⟩ := hrel
    clear HZ2 HN2 HW2 RSH
    by_cases hlt : j < L.length
    · obtain ⟨b, off, hA, hB, hcell⟩ := RS3.out.at_ (by rw [List.length_map]; exact hlt)
      obtain ⟨rfl, rfl⟩ : lb = b ∧ 0 = off := by injection hA with h; injection h with h1 h2; exact ⟨h1, h2⟩
      have cj := hcell j (by rw [List.length_map]; exact hlt)
      obtain ⟨x, hx⟩ : ∃ x, L[j]? = some x := ⟨_, List.getElem?_eq_getElem hlt⟩
      rw [st_map hx, Nat.zero_add] at cj
      have hxl := hP.out x (List.mem_of_getElem? hx)
      have hj1 : (j : Int) < (L.length : Int) := by omega
      have KX := Lib.hid (number_walk x wr (TW.out.keep HW3.out) hxl)
      unfold numPost at KX
      have HJ := Lib.hid hj
      have HLT := Lib.hid hlt
      have HX := Lib.hid hx
      have hj16 : j ≤ 16 := by
        rcases H4.out with h | h
        · omega
        · omega
      have HD := Lib.hid (doneM_len L (Nat.le_of_lt hlt) hj16)
      clear hA hcell hx hlt hxl
      have HFALSE : Hid (octB x = false → F = none) := Lib.hid fun h => by
        rw [HF.out, if_neg]
        intro hh
        rw [all_stop HX.out h] at hh
        exact absurd hh.2 (by decide)
      cases hnum : numM x with
      | none =>
        have HR := Lib.hid (HFALSE.out (by unfold octB; rw [hnum]))
        rw [hnum] at KX
        clear hnum
        go_wp2_with fail
        refine KX.out.mono ?_
        rintro e w4 ⟨hb4, rfl⟩
        have HW4 := Lib.hid (HW3.out.trans (hb4.mono HW3.out.size))
        have HZ4 := Lib.hid (HZ3.out.keep hb4)
        have HN4 := Lib.hid (HN3.out.keep hb4)
        clear hb4 HW3 HZ3 HN3 KX
        go_wp2_with (first | (refine wpList_storeN _ _ _ w.heap.size zn _ rfl rfl rfl rfl rfl HZ4.out rfl (NetM.cells_size HD.out) (NetM.cells_one _) ?_; intro w5 hb5 ho5) | refine wpList_loadN _ _ (w.heap.size + 1) _ rfl rfl rfl HN4.out (NetM.cells_size HD.out) ?_)
        exact bodyPost_ret (v := .tuple #[NetM.val ⟨false, 32, doneM L j⟩, .bool false]) (res_net (i := 2) (j := 3) rfl hb5 (NetM.cells_size HD.out) rfl) rfl (POF.out HR.out _ ⟨false, 32, doneM L j⟩ HD.out (HW4.out.trans (ho5.to_below HZ4.out.lt (Nat.le_refl _))))
      | some k =>
        rw [hnum] at KX
        have KX2 : Hid (Calls Tryz.prog 110 #[.string (bs x)] wr fun e w' => Below wr.heap.size wr w' ∧ e = .returned (.tuple #[.int .i64 (k : Int), .bool true])) := KX
        have HO : Hid (octB x = decide (k ≤ 255)) := Lib.hid (by unfold octB; rw [hnum])
        have HV : Hid (octV x = k.toUInt8) := Lib.hid (by unfold octV; rw [hnum]; rfl)
        clear KX hnum
        by_cases hk : k ≤ 255
        · have hki : ¬ (k : Int) > 255 := by omega
          by_cases h4 : L.length = 4
          · have h4i : ((L.length : Int) != 4) = false := by rw [h4]; rfl
            have hj4 : j < 4 := by have := HLT.out; omega
            have h16 : (j : Int) < 16 := by omega
            have hku : (k.toUInt8.toNat : Int) = (k : Int) := by
              have : k.toUInt8.toNat = k := by simp; omega
              omega
            have HK := Lib.hid hku
            have H4e := Lib.hid h4
            have HKD : Hid (decide (k ≤ 255) = true) := Lib.hid (decide_eq_true hk)
            have kc : (NetM.cells ⟨false, 32, doneM L j⟩)[2 + j]? = some (.int .u8 0) := by
              rw [NetM.cells_at]
              have hl : ((L.take j).map octV).length = j := by have := HLT.out; simp; omega
              have : (doneM L j)[j]? = some 0 := by
                unfold doneM
                rw [List.getElem?_append_right (by omega), hl, Nat.sub_self, List.getElem?_replicate, if_pos (by omega)]
              show ((doneM L j)[j]?).map u8v = _
              rw [this]
              rfl
            have KC := Lib.hid kc
            have HS := Lib.hid (doneM_set L HX.out (by omega))
            clear hj kc h4 hk hj16 hku
            go_wp2_with fail
            refine KX2.out.mono ?_
            rintro e w4 ⟨hb4, rfl⟩
            have HW4 := Lib.hid (HW3.out.trans (hb4.mono HW3.out.size))
            have HZ4 := Lib.hid (HZ3.out.keep hb4)
            have HN4 := Lib.hid (HN3.out.keep hb4)
            have RS4 := Lib.hid ((RS3.out.below hb4).mono hb4.size)
            have kc4 := (HN4.out.cell (2 + j)).trans KC.out
            have kf4 := HN4.out.frozen (2 + j)
            have hgt4 : w.heap.size + 1 < w4.heap.size := HN4.out.lt
            clear hb4 HW3 HZ3 HN3 KX2 RS3
            go_wp2_with fail
            go_roundg (gk - 1)
            case rel => exact ⟨j + 1, by go_num, by have := HJ.out; have := HLT.out; omega, Lib.hid (.inr H4e.out), Lib.hid (fun i d hi hd => by
              by_cases hin : i < j
              · exact HA.out i d hin hd
              · obtain rfl : i = j := by omega
                rw [HX.out] at hd
                obtain rfl := Option.some.inj hd
                rw [HO.out]
                exact HKD.out), Lib.hid (HZ4.out.far (p := ⟨w.heap.size + 1, 2 + j, none⟩) (by show w.heap.size ≠ w.heap.size + 1; omega) _), Lib.hid (by
                rw [← HS.out, ← HK.out, HV.out]
                have h := HN4.out.set_ (2 + j) (u8v k.toUInt8)
                rw [NetM.cells_set] at h
                exact h), Lib.hid (HW4.out.setCell (Nat.le_succ _) _), Lib.hid (RS4.out.far (p := ⟨w.heap.size + 1, 2 + j, none⟩) (by show lb ≠ w.heap.size + 1; omega) _)⟩
            case measure => have := HJ.out; have := HLT.out; omega
          · have h4i : ((L.length : Int) != 4) = true := bne_iff_ne.2 (by omega)
            have HR : Hid (F = none) := Lib.hid (by rw [HF.out, if_neg (fun hh => h4 hh.1)])
            go_wp2_with fail
            refine KX2.out.mono ?_
            rintro e w4 ⟨hb4, rfl⟩
            have HW4 := Lib.hid (HW3.out.trans (hb4.mono HW3.out.size))
            have HZ4 := Lib.hid (HZ3.out.keep hb4)
            have HN4 := Lib.hid (HN3.out.keep hb4)
            clear hb4 HW3 HZ3 HN3 KX2
            go_wp2_with (first | (refine wpList_storeN _ _ _ w.heap.size zn _ rfl rfl rfl rfl rfl HZ4.out rfl (NetM.cells_size HD.out) (NetM.cells_one _) ?_; intro w5 hb5 ho5) | refine wpList_loadN _ _ (w.heap.size + 1) _ rfl rfl rfl HN4.out (NetM.cells_size HD.out) ?_)
            exact bodyPost_ret (v := .tuple #[NetM.val ⟨false, 32, doneM L j⟩, .bool false]) (res_net (i := 2) (j := 3) rfl hb5 (NetM.cells_size HD.out) rfl) rfl (POF.out HR.out _ ⟨false, 32, doneM L j⟩ HD.out (HW4.out.trans (ho5.to_below HZ4.out.lt (Nat.le_refl _))))
        · have hki : (k : Int) > 255 := by omega
          have HR := Lib.hid (HFALSE.out (by rw [HO.out, decide_eq_false hk]))
          go_wp2_with fail
          refine KX2.out.mono ?_
          rintro e w4 ⟨hb4, rfl⟩
          have HW4 := Lib.hid (HW3.out.trans (hb4.mono HW3.out.size))
          have HZ4 := Lib.hid (HZ3.out.keep hb4)
          have HN4 := Lib.hid (HN3.out.keep hb4)
          clear hb4 HW3 HZ3 HN3 KX2
          go_wp2_with (first | (refine wpList_storeN _ _ _ w.heap.size zn _ rfl rfl rfl rfl rfl HZ4.out rfl (NetM.cells_size HD.out) (NetM.cells_one _) ?_; intro w5 hb5 ho5) | refine wpList_loadN _ _ (w.heap.size + 1) _ rfl rfl rfl HN4.out (NetM.cells_size HD.out) ?_)
          exact bodyPost_ret (v := .tuple #[NetM.val ⟨false, 32, doneM L j⟩, .bool false]) (res_net (i := 2) (j := 3) rfl hb5 (NetM.cells_size HD.out) rfl) rfl (POF.out HR.out _ ⟨false, 32, doneM L j⟩ HD.out (HW4.out.trans (ho5.to_below HZ4.out.lt (Nat.le_refl _))))
    · have hj1 : ¬ (j : Int) < (L.length : Int) := by omega
      obtain rfl : j = L.length := by omega
      have hne : L.length ≠ 0 := HNE.out
      have h4 : L.length = 4 := by
        rcases H4.out with h | h
        · exact absurd h hne
        · exact h
      have HD := Lib.hid (doneM_len L (Nat.le_refl _) (by omega))
      have HR : Hid (F = some ⟨false, 32, doneM L L.length⟩) := Lib.hid (by
        rw [HF.out, if_pos ⟨h4, all_all HA.out⟩]
        unfold doneM
        rw [List.take_of_length_le (Nat.le_refl _), h4])
      have HZ4 := HZ3
      have HN4 := HN3
      clear h4 hne
      go_wp2_with (first | (refine wpList_storeN _ _ _ w.heap.size zn _ rfl rfl rfl rfl rfl HZ4.out rfl (NetM.cells_size HD.out) (NetM.cells_one _) ?_; intro w5 hb5 ho5) | refine wpList_loadN _ _ (w.heap.size + 1) _ rfl rfl rfl HN4.out (NetM.cells_size HD.out) ?_)
      exact bodyPost_ret (v := .tuple #[NetM.val ⟨false, 32, doneM L L.length⟩, .bool true]) (res_net (i := 2) (j := 3) rfl hb5 (NetM.cells_size HD.out) rfl) rfl (POT.out _ HR.out HD.out _ (HW3.out.trans (ho5.to_below HZ4.out.lt (Nat.le_refl _))))
end Go.Proofs.YtjnjnccfojfghaaGreatDoor

/-! append(b, s...) of a text to owned bytes: the row stays where it is, or is the newest block; over any program. No condition. -/
namespace Go.Proofs.YtjnjnccfojfghaaGreatDoor
open Go.RowKit
set_option linter.unusedVariables false
section
variable {P : Program} {w : World}
theorem app_block {t E u : TypeId} (hU : U8 P t E) (hu : P.underlying u = some .string) {base : Nat} (ty : TypeId) {v : Value} {l : List UInt8} (hown : OwnB w base E v l) (s : ByteArray)
    (hbytes : l.length + s.size ≤ 140737488355328) {v' : Value} {w' : World} (hrun : (Builtin.append_ #[t, u] ty #[v, .string s]).run P w = .ok v' w') : v'.ownBlock = v.ownBlock ∨ v'.ownBlock = some w.heap.size := by
  obtain ⟨i, hi, hz, h1, h2⟩ := hU.hi
  have hxl : (Lib.byteCells l).length = l.length := by simpa using hown.1
  rcases hown.2 with ⟨rfl, hn0⟩ | ⟨g, cap, cur, rfl, hbg, hg, hnc, hcm, hcs, htake⟩
  · by_cases hm : s.size = 0
    · have hf := Lib.run_firstCells_string (P := P) w 1 s
      rw [hm] at hf
      have hn : Lib.strCells s = [] := List.eq_nil_of_length_eq_zero (by rw [Lib.strCells_length]; exact hm)
      have hr : (Builtin.append_ #[t, u] ty #[.slice none 0 0, .string s]).run P w = .ok (.slice none 0 0) w := by
        simp [Builtin.append_, run_underlying hU.ht, run_underlying hu, sizeOf, typeInfo, hi, h1, Builtin.lenOf, hm, hf]
      rw [hr] at hrun
      injection hrun with e1 e2
      exact .inl (by rw [← e1])
    · have hr := run_append_nil_string (P := P) w t u ty E i (.int .u8 0) hU.ht hu hi hz s (by omega) (by omega) (by rw [h2]; omega)
      rw [hr] at hrun
      injection hrun with e1 e2
      exact .inr (by rw [← e1]; rfl)
  · by_cases hroom : l.length + s.size ≤ cap
    · have hcs' : cur.size = cap := by simpa using hcs
      have hr := Lib.run_append_room_string (P := P) w t u ty E i hU.ht hu hi h1 g l.length cap cur hg s hroom (by omega)
      rw [hr] at hrun
      injection hrun with e1 e2
      exact .inl (by rw [← e1]; rfl)
    · have holds : ∀ j x, (Lib.byteCells l)[j]? = some x → w.cell? ((⟨g, 0, none⟩ : Addr).add j) = some x := World.ownsRow.cells (g := g) hown rfl
      have hr := Lib.run_append_grow_string (P := P) w t u ty E i (.int .u8 0) hU.ht hu hi hz ⟨g, 0, none⟩ l.length cap (Lib.byteCells l) (by rw [h1]; simpa using hxl) holds s (by omega) (by omega) (by rw [h2]; exact growslice_fits (by omega) (by omega))
      rw [hr] at hrun
      injection hrun with e1 e2
      exact .inr (by rw [← e1]; rfl)
theorem wpList_appT {ops : Array Oper} {rest : List Oper} {o : Oper} {a : Act} {Q : Exit → Act → World → Prop} {t E u : TypeId} (hU : U8 P t E) (hu : P.underlying u = some .string) (s x : Operand)
    (ho : o.op = .call { callee := .builtin .append, args := #[s, x], argTypes := #[t, u] }) (hgd : o.guard = none)
    (base : Nat) {v : Value} {l : List UInt8} (hs : a.eval s = v) (hown : OwnB w base E v l) (tx : ByteArray) (hx : a.eval x = .string tx)
    (hbytes : l.length + tx.size ≤ 140737488355328) (hbase : base ≤ w.heap.size)
    (h : ∀ v' w', OwnB w' base E v' (l ++ tx.data.toList) → w.grownBy w' v.ownBlock → (v'.ownBlock = v.ownBlock ∨ v'.ownBlock = some w.heap.size) → wpList P ops Q rest (a.put o.dst v') w') : wpList P ops Q (o :: rest) a w := by
  refine wpList_plain hgd fun K hK => ?_
  obtain ⟨v', w', hrun, h2, h3⟩ := run_appS (P := P) w hU hu base o.type hown tx hbytes hbase
  have h4 := app_block hU hu o.type hown tx hbytes hrun
  unfold Oper.wp execOp
  simp only [ho, resolve, invoke, builtin, Sem.run_bind, Sem.run_pure, Result.andThen_ok, List.map_toArray, List.map_cons, List.map_nil, hs, hx, hrun]
  exact hK _ _ (h v' w' h2 h3 h4)
end
end Go.Proofs.YtjnjnccfojfghaaGreatDoor
