/-
  Several texts in one: ScShow, ScMay, Open, Open2, OpenI, TabsL. Conditions: each part names its own.
-/
import Derived.Test.YtjnjnccfojfghaaGreatDoorMg18
import Derived.Test.YtjnjnccfojfghaaGreatDoorMg11
import Derived.Laws.StructEq
import Derived.Shelf.GgClosure.Gives
import Derived.Test.YtjnjnccfojfghaaGreatDoorMg1
import Derived.SliceStrings
import Derived.ProofKit
import Derived.OpenShut
import Derived.ShutString
import Derived.ChangeOld
import Derived.Below
import Derived.LaidMore
import Derived.Lay
import Derived.LaidSub
import Derived.Deep.DeepHandedRow
import Derived.Lib.LaidTab
import Derived.SizedLaws
import Derived.SevenTiedAt
import Derived.Test.YtjnjnccfojfghaaGreatDoorMg6
import Derived.Test.YtjnjnccfojfghaaGreatDoorRows
import Derived.Lib.LaidU8T
import Derived.PinnedBridge
import Derived.Shelf.Vars
set_option linter.unusedSimpArgs false
/-! The walk of cidr.Show on an address that may be. Condition: what the tables hold. -/
namespace Go.Proofs.YtjnjnccfojfghaaGreatDoor
open Go.RowKit
set_option linter.unusedVariables false
def dotT (a : Tx) : Nat → Tx
  | 0 => []
  | j + 1 => (if 0 < j then dotT a j ++ [46] else dotT a j) ++ Lib.itoa ((a.getD j 0).toNat : Int)
def netT (n : NetM) : Tx := if n.six then longM n.addr else dotT n.addr 4
def showM (n : NetM) : Tx := if n.bits < sizeM n.six then netT n ++ (47 :: Lib.itoa (n.bits : Int)) else netT n
theorem itoa_small : ∀ m : Nat, m < 256 → (Lib.itoa (m : Int)).length ≤ 3 := by
  have h : ∀ i : Fin 256, (Lib.itoa ((i.val : Nat) : Int)).length ≤ 3 := by decide +kernel
  intro m hm
  exact h ⟨m, hm⟩
theorem dotT_len (a : Tx) : ∀ j, (dotT a j).length ≤ 4 * j
  | 0 => by simp [dotT]
  | j + 1 => by
    have ih := dotT_len a j
    have hi := itoa_small (a.getD j 0).toNat (a.getD j 0).toNat_lt
    rw [dotT, List.length_append]
    split
    · rw [List.length_append, List.length_singleton]; omega
    · omega
theorem longM_len (a : Tx) : (longM a).length ≤ 100 := by
  have h8 := hexG_len a
  have h1 := join_len (hexG a) (hexG_small a)
  have h2 := join_len ((hexG a).take (bestN (hexG a) 8).1) (fun x hx => hexG_small a x (List.mem_of_mem_take hx))
  have h3 := join_len ((hexG a).drop ((bestN (hexG a) 8).1 + (bestN (hexG a) 8).2)) (fun x hx => hexG_small a x (List.mem_of_mem_drop hx))
  have h4 : ((hexG a).take (bestN (hexG a) 8).1).length ≤ 8 := by rw [List.length_take]; omega
  have h5 : ((hexG a).drop ((bestN (hexG a) 8).1 + (bestN (hexG a) 8).2)).length ≤ 8 := by rw [List.length_drop]; omega
  unfold longM longG
  split
  · omega
  · rw [List.length_append, List.length_append]
    have : ([58, 58] : Tx).length = 2 := rfl
    omega
theorem netT_len (n : NetM) : (netT n).length ≤ 100 := by
  unfold netT
  split
  · exact longM_len _
  · have := dotT_len n.addr 4; omega
theorem itoa_walk (m : Nat) (hm : m < 256) (w : World) (T : TabC w) : Calls Tryz.prog 81 #[.int .i64 (m : Int)] w fun e w' => Below w.heap.size w w' ∧ e = .returned (.string (bs (Lib.itoa (m : Int)))) := by
  refine (Tryz.strconv_Itoa (m : Int) (by omega) (by omega) w T.pow).mono ?_
  rintro e w' ⟨rfl, k, os, rfl⟩
  exact ⟨Lib.below_grow _ _ (Nat.le_refl _) _ _, rfl⟩
theorem a16_info : ∃ ie, Tryz.prog.info? 88 = some ie ∧ ie.size = 16 := by
  have h : (Tryz.prog.info? 88).map (·.size) = some 16 := by kernel_rfl
  obtain ⟨i, hi, hz⟩ := Option.map_eq_some_iff.1 h
  exact ⟨i, hi, hz⟩
theorem a16_agg (w : World) : (isAgg 88).run Tryz.prog w = .ok true w := by
  simp [isAgg, Tryz.underlying88, go_sem]
theorem wpList_loadA {ops : Array Oper} {rest : List Oper} {o : Oper} {a : Act} {Q : Exit → Act → World → Prop} (w : World) (x : Operand) (g : Nat) {t0 : TypeId} (n : NetM) (hn : n.addr.length = 16) (hop : o.op = .load 88 x) (hg : o.guard = none) (hx : a.eval x = .pointer (some ⟨g, 2, none⟩)) (hb : Blk w g t0 n.cells)
    (h : wpList Tryz.prog ops Q rest (a.put o.dst (.agg (arr n.addr))) w) : wpList Tryz.prog ops Q (o :: rest) a w := by
  refine wpList_plain hg fun K hK' => ?_
  obtain ⟨ie, h1, h2⟩ := a16_info
  have hl := Lib.rl_loadVar_cells (P := Tryz.prog) 88 ie h1 a16_agg g 2 (n.addr.map u8v) (by rw [List.length_map, hn, h2]) w (fun k v hk => by
    rw [hb.cell, NetM.cells_at]
    rw [List.getElem?_map] at hk
    exact hk)
  unfold Oper.wp
  simp [execOp, hop, hx, Instr.loadAt, Instr.sureAddr, hl, Result.andThen]
  exact hK' _ _ h
theorem run_slice16hi (g hi : Nat) (hhi : hi ≤ 16) : ∀ W, (Instr.sliceAt 88 (.pointer (some ⟨g, 2, none⟩)) none (some (.int .i64 (hi : Int))) none).run Tryz.prog W = .ok (.slice (some ⟨g, 2, none⟩) hi 16) W := by
  have h8 : (Tryz.prog.info? 5).map (·.size) = some 1 := by kernel_rfl
  obtain ⟨i, hi2, hs⟩ := Option.map_eq_some_iff.1 h8
  have h1 : (hi : Int) ≤ 16 := by omega
  intro W
  simp [Instr.sliceAt, Instr.sureAddr, run_underlying Tryz.underlying88, Instr.sliceBounds, run_sliceBound, sizeOf, typeInfo, hi2, hs, h1, Addr.add_lit]
set_option maxRecDepth 4000 in
set_option maxHeartbeats 4000000 in
theorem show_walk (n : NetM) (h : n.ok) (w : World) (T : TabC w) : Calls Tryz.prog 47 #[n.val] w fun e w' => Below w.heap.size w w' ∧ e = .returned (.tuple #[.string (bs (showM n)), .int .i64 0]) := by
  have KR := Lib.hid (fun W => nRight_walk n h W)
  have HN := Lib.hid h.1
  have HB := Lib.hid (Blk.new w 90 n.cells)
  have HBL := Lib.hid ((Below.refl w.heap.size w).alloc (Nat.le_refl _) (.cells n.cells 90))
  have TW := Lib.hid T
  have e0 : n.val = .agg n.cells := rfl
  rw [e0]
  go_enter Tryz.func47, Tryz.ntmps47
  go_wp2_with (refine wpList_loadN _ _ w.heap.size _ rfl rfl rfl HB.out (NetM.cells_size HN.out) ?_)
  refine (KR.out _).mono ?_
  rintro e w2 ⟨hb2, rfl⟩
  have HB2 := Lib.hid (HB.out.keep hb2)
  have HW2 := Lib.hid (HBL.out.trans (hb2.mono HBL.out.size))
  have KSZ := Lib.hid nSize_walk
  have HBB : Hid (n.bits ≤ 128) := Lib.hid (Nat.le_trans h.size (by unfold sizeM; split <;> decide))
  clear hb2 HB HBL KR h e0
  obtain ⟨six, bits, addr⟩ := n
  have HLN : Hid (addr.length = 16) := HN
  have HBB2 : Hid (bits ≤ 128) := HBB
  clear HN HBB
  have HBB := HBB2
  cases six with
  | true =>
    have KL := Lib.hid (fun W TW => long_walk addr HLN.out W TW)
    obtain ⟨X, hX⟩ : ∃ X, longM addr = X := ⟨_, rfl⟩
    have HX : Hid (netT ⟨true, bits, addr⟩ = X) := Lib.hid hX
    have hXl : (bs X).size ≤ 100 := by rw [bs_size, ← hX]; exact longM_len addr
    rw [hX] at KL
    clear hX
    have k0 : w2.cell? ⟨w.heap.size, 0, none⟩ = some (.bool true) := HB2.out.cell 0
    go_wp2_with (refine wpList_loadA _ _ w.heap.size ⟨true, bits, addr⟩ HLN.out rfl rfl rfl HB2.out ?_)
    refine (KL.out _ (TW.out.keep HW2.out)).mono ?_
    rintro e w3 ⟨hb3, rfl⟩
    have HB3 := Lib.hid (HB2.out.keep hb3)
    have HW3 := Lib.hid (HW2.out.trans (hb3.mono HW2.out.size))
    clear hb3 k0 HB2 HW2 KL
    go_upto_region 13 with fail
    have k0 : w3.cell? ⟨w.heap.size, 0, none⟩ = some (.bool true) := HB3.out.cell 0
    have k1 : w3.cell? ⟨w.heap.size, 1, none⟩ = some (.int .i64 (bits : Int)) := HB3.out.cell 1
    by_cases hbs : bits < sizeM true
    · have hbi : (bits : Int) < (sizeM true : Int) := by omega
      have HR : Hid (showM ⟨true, bits, addr⟩ = X ++ (47 :: Lib.itoa (bits : Int))) := Lib.hid (by rw [← HX.out]; exact if_pos hbs)
      have KI := Lib.hid (fun W TW => itoa_walk bits (by have := HBB.out; omega) W TW)
      have hi3 : (bs (Lib.itoa (bits : Int))).size ≤ 3 := by rw [bs_size]; exact itoa_small bits (by have := HBB.out; omega)
      clear hbs
      generalize Lib.itoa (bits : Int) = I at *
      have hwl : w.heap.size < w3.heap.size := HB3.out.lt
      have kk0 := fun n : Over w3.heap.size w3 => (n.ok.cell (p := ⟨w.heap.size, 0, none⟩) hwl).trans k0
      have kk1 := fun n : Over w3.heap.size w3 => (n.ok.cell (p := ⟨w.heap.size, 1, none⟩) hwl).trans k1
      have KZ := Lib.hid (fun n : Over w3.heap.size w3 => (KSZ.out true n.v).mono fun e w9 h => show Below n.v.heap.size n.v w9 ∧ e = .returned (.int .i64 (sizeM true : Int)) from ⟨h.1 ▸ Below.refl _ _, h.2⟩)
      refine wp_region_below w3.heap.size (by kernel_rfl) (by kernel_rfl) ?_
      repeat (go_big_quiet_step (fail))
      go_big_quiet_step ((go_at_call 82; go_loud (with_reducible exact calls_over _ (KZ.out _) (Nat.le_refl _))))
      repeat (go_big_quiet_step (fail))
      refine wpQuiet_nil ?_
      rintro w7 ⟨⟨_, hb7⟩, rfl⟩
      have HB7 := Lib.hid (HW3.out.trans (hb7.mono HW3.out.size))
      have k17 : w7.cell? ⟨w.heap.size, 1, none⟩ = some (.int .i64 (bits : Int)) := (hb7.cell (p := ⟨w.heap.size, 1, none⟩) hwl).trans k1
      clear hb7 kk0 kk1
      go_wp2_with fail
      refine (KI.out _ (TW.out.keep HB7.out)).mono ?_
      rintro e w8 ⟨hb8, rfl⟩
      have HB8 := Lib.hid (HB7.out.trans (hb8.mono HB7.out.size))
      clear hb8
      go_wp2_with fail
      go_ret2
      exact ⟨HB8.out, by rw [HR.out]; rfl⟩
    · have hbi : ¬ (bits : Int) < (sizeM true : Int) := by omega
      have HR : Hid (showM ⟨true, bits, addr⟩ = X) := Lib.hid (by rw [← HX.out]; exact if_neg hbs)
      clear hbs
      have hwl : w.heap.size < w3.heap.size := HB3.out.lt
      have kk0 := fun n : Over w3.heap.size w3 => (n.ok.cell (p := ⟨w.heap.size, 0, none⟩) hwl).trans k0
      have kk1 := fun n : Over w3.heap.size w3 => (n.ok.cell (p := ⟨w.heap.size, 1, none⟩) hwl).trans k1
      have KZ := Lib.hid (fun n : Over w3.heap.size w3 => (KSZ.out true n.v).mono fun e w9 h => show Below n.v.heap.size n.v w9 ∧ e = .returned (.int .i64 (sizeM true : Int)) from ⟨h.1 ▸ Below.refl _ _, h.2⟩)
      refine wp_region_below w3.heap.size (by kernel_rfl) (by kernel_rfl) ?_
      repeat (go_big_quiet_step (fail))
      go_big_quiet_step ((go_at_call 82; go_loud (with_reducible exact calls_over _ (KZ.out _) (Nat.le_refl _))))
      repeat (go_big_quiet_step (fail))
      refine wpQuiet_nil ?_
      rintro w7 ⟨⟨_, hb7⟩, rfl⟩
      have HB7 := Lib.hid (HW3.out.trans (hb7.mono HW3.out.size))
      have k17 : w7.cell? ⟨w.heap.size, 1, none⟩ = some (.int .i64 (bits : Int)) := (hb7.cell (p := ⟨w.heap.size, 1, none⟩) hwl).trans k1
      clear hb7 kk0 kk1
      go_wp2_with fail
      go_ret2
      exact ⟨HB7.out, by rw [HR.out]; rfl⟩
  | false =>
    obtain ⟨X, hX⟩ : ∃ X, dotT addr 4 = X := ⟨_, rfl⟩
    have HX : Hid (netT ⟨false, bits, addr⟩ = X) := Lib.hid hX
    have HX4 := Lib.hid hX
    have hXl : (bs X).size ≤ 100 := by rw [bs_size, ← hX]; have := dotT_len addr 4; omega
    have hsl := run_slice16hi w.heap.size 4 (by decide)
    have e4 : ((4 : Nat) : Int) = 4 := rfl
    rw [e4] at hsl
    have KI0 := Lib.hid itoa_walk
    clear hX e4
    have k0 : w2.cell? ⟨w.heap.size, 0, none⟩ = some (.bool false) := HB2.out.cell 0
    go_wp2_with fail
    go_loopg [4, 5, 6, 18] 4 (fun k s4 s5 s6 i wr => ∃ j : Nat, i = .int .i64 (j : Int) ∧ j + k = 4 ∧ s4 = .string (bs (dotT addr j)) ∧ Hid (Blk wr w.heap.size 90 (NetM.cells ⟨false, bits, addr⟩)) ∧ Hid (Below w.heap.size w wr))
    case atStart => exact ⟨0, rfl, by omega, rfl, HB2, HW2⟩
    case round =>
      obtain ⟨j, rfl, hj, rfl, B1, BL⟩ := hrel
      clear HB2 HW2 k0
      by_cases hlt : j < 4
      · have hj4 : (j : Int) < 4 := by omega
        obtain ⟨x, hx⟩ : ∃ x, addr[j]? = some x := ⟨_, List.getElem?_eq_getElem (by have := HLN.out; omega)⟩
        have kx : wr.cell? ⟨w.heap.size, 2 + j, none⟩ = some (.int .u8 (x.toNat : Int)) := (B1.out.cell (2 + j)).trans (by rw [NetM.cells_at]; show (addr[j]?).map u8v = _; rw [hx]; rfl)
        have HD : Hid (dotT addr (j + 1) = (if 0 < j then dotT addr j ++ [46] else dotT addr j) ++ Lib.itoa (x.toNat : Int)) := Lib.hid (by
          rw [dotT, List.getD_eq_getElem?_getD, hx]; rfl)
        have hxl := x.toNat_lt
        have KI := Lib.hid (fun W TW => KI0.out x.toNat hxl W TW)
        have hi3 : (bs (Lib.itoa (x.toNat : Int))).size ≤ 3 := by rw [bs_size]; exact itoa_small _ hxl
        have hdl := dotT_len addr j
        have hds : (bs (dotT addr j)).size ≤ 16 := by rw [bs_size]; omega
        have hxi : IntKind.i64.wrap (x.toNat : Int) = (x.toNat : Int) := IntWalk.i64_in _ (by omega)
        have hx0 : (0 : Int) ≤ (x.toNat : Int) := by omega
        have hx1 : (x.toNat : Int) < 256 := by omega
        generalize Lib.itoa (x.toNat : Int) = I at *
        generalize (x.toNat : Int) = xi at *
        generalize dotT addr j = D at *
        have HJ := Lib.hid hj
        clear hx hxl hdl hlt
        rcases Nat.eq_zero_or_pos j with hj0 | hj0
        · subst hj0
          have kx2 : wr.cell? ⟨w.heap.size, 2, none⟩ = some (.int .u8 xi) := kx
          clear kx
          rw [if_neg (by omega)] at HD
          go_wp2_with fail
          refine (KI.out _ (TW.out.keep BL.out)).mono ?_
          rintro e w4 ⟨hb4, rfl⟩
          have HB4 := Lib.hid (B1.out.keep hb4)
          have HW4 := Lib.hid (BL.out.trans (hb4.mono BL.out.size))
          clear hb4
          go_wp2_with fail
          go_roundg (gk - 1)
          case rel => exact ⟨0 + 1, by go_num, by have := HJ.out; omega, by rw [HD.out]; congr 1, HB4, HW4⟩
          case measure => have := HJ.out; omega
        · have hji : (j : Int) > 0 := by omega
          rw [if_pos hj0] at HD
          go_wp2_with fail
          refine (KI.out _ (TW.out.keep BL.out)).mono ?_
          rintro e w4 ⟨hb4, rfl⟩
          have HB4 := Lib.hid (B1.out.keep hb4)
          have HW4 := Lib.hid (BL.out.trans (hb4.mono BL.out.size))
          clear hb4
          go_wp2_with fail
          go_roundg (gk - 1)
          case rel => exact ⟨j + 1, by go_num, by have := HJ.out; omega, by rw [HD.out]; congr 1, HB4, HW4⟩
          case measure => have := HJ.out; omega
      · obtain rfl : j = 4 := by omega
        rw [HX4.out]
        go_upto_region 13 with fail
        have k0 : wr.cell? ⟨w.heap.size, 0, none⟩ = some (.bool false) := B1.out.cell 0
        have k1 : wr.cell? ⟨w.heap.size, 1, none⟩ = some (.int .i64 (bits : Int)) := B1.out.cell 1
        by_cases hbs : bits < sizeM false
        · have hbi : (bits : Int) < (sizeM false : Int) := by omega
          have HR : Hid (showM ⟨false, bits, addr⟩ = X ++ (47 :: Lib.itoa (bits : Int))) := Lib.hid (by rw [← HX.out]; exact if_pos hbs)
          have KI := Lib.hid (fun W TW => itoa_walk bits (by have := HBB.out; omega) W TW)
          have hi3 : (bs (Lib.itoa (bits : Int))).size ≤ 3 := by rw [bs_size]; exact itoa_small bits (by have := HBB.out; omega)
          clear hbs
          generalize Lib.itoa (bits : Int) = I at *
          have hwl : w.heap.size < wr.heap.size := B1.out.lt
          have kk0 := fun n : Over wr.heap.size wr => (n.ok.cell (p := ⟨w.heap.size, 0, none⟩) hwl).trans k0
          have kk1 := fun n : Over wr.heap.size wr => (n.ok.cell (p := ⟨w.heap.size, 1, none⟩) hwl).trans k1
          have KZ := Lib.hid (fun n : Over wr.heap.size wr => (KSZ.out false n.v).mono fun e w9 h => show Below n.v.heap.size n.v w9 ∧ e = .returned (.int .i64 (sizeM false : Int)) from ⟨h.1 ▸ Below.refl _ _, h.2⟩)
          refine wp_region_below wr.heap.size (by kernel_rfl) (by kernel_rfl) ?_
          repeat (go_big_quiet_step (fail))
          go_big_quiet_step ((go_at_call 82; go_loud (with_reducible exact calls_over _ (KZ.out _) (Nat.le_refl _))))
          repeat (go_big_quiet_step (fail))
          refine wpQuiet_nil ?_
          rintro w7 ⟨⟨_, hb7⟩, rfl⟩
          have HB7 := Lib.hid (BL.out.trans (hb7.mono BL.out.size))
          have k17 : w7.cell? ⟨w.heap.size, 1, none⟩ = some (.int .i64 (bits : Int)) := (hb7.cell (p := ⟨w.heap.size, 1, none⟩) hwl).trans k1
          clear hb7 kk0 kk1
          go_wp2_with fail
          refine (KI.out _ (TW.out.keep HB7.out)).mono ?_
          rintro e w8 ⟨hb8, rfl⟩
          have HB8 := Lib.hid (HB7.out.trans (hb8.mono HB7.out.size))
          clear hb8
          go_wp2_with fail
          go_ret2
          exact ⟨HB8.out, by rw [HR.out]; rfl⟩
        · have hbi : ¬ (bits : Int) < (sizeM false : Int) := by omega
          have HR : Hid (showM ⟨false, bits, addr⟩ = X) := Lib.hid (by rw [← HX.out]; exact if_neg hbs)
          clear hbs
          have hwl : w.heap.size < wr.heap.size := B1.out.lt
          have kk0 := fun n : Over wr.heap.size wr => (n.ok.cell (p := ⟨w.heap.size, 0, none⟩) hwl).trans k0
          have kk1 := fun n : Over wr.heap.size wr => (n.ok.cell (p := ⟨w.heap.size, 1, none⟩) hwl).trans k1
          have KZ := Lib.hid (fun n : Over wr.heap.size wr => (KSZ.out false n.v).mono fun e w9 h => show Below n.v.heap.size n.v w9 ∧ e = .returned (.int .i64 (sizeM false : Int)) from ⟨h.1 ▸ Below.refl _ _, h.2⟩)
          refine wp_region_below wr.heap.size (by kernel_rfl) (by kernel_rfl) ?_
          repeat (go_big_quiet_step (fail))
          go_big_quiet_step ((go_at_call 82; go_loud (with_reducible exact calls_over _ (KZ.out _) (Nat.le_refl _))))
          repeat (go_big_quiet_step (fail))
          refine wpQuiet_nil ?_
          rintro w7 ⟨⟨_, hb7⟩, rfl⟩
          have HB7 := Lib.hid (BL.out.trans (hb7.mono BL.out.size))
          have k17 : w7.cell? ⟨w.heap.size, 1, none⟩ = some (.int .i64 (bits : Int)) := (hb7.cell (p := ⟨w.heap.size, 1, none⟩) hwl).trans k1
          clear hb7 kk0 kk1
          go_wp2_with fail
          go_ret2
          exact ⟨HB7.out, by rw [HR.out]; rfl⟩
end Go.Proofs.YtjnjnccfojfghaaGreatDoor

/-! Mailboxes as values; the walk of path.may. Condition: the texts' lengths, what the tables hold. -/
namespace Go.Proofs.YtjnjnccfojfghaaGreatDoor
open Go.RowKit
set_option linter.unusedVariables false
structure PathM where
  nul : Bool
  loc : Tx
  dom : Tx
  lit : Bool
def PathM.val (p : PathM) : Value := .agg #[.bool p.nul, .string (bs p.loc), .string (bs p.dom), .bool p.lit]
theorem fourM_ok {l : Tx} {n : NetM} (h : fourM l = some n) : n.ok := by
  unfold fourM at h
  split at h
  · rename_i h4
    obtain rfl := Option.some.inj h
    have hl : ((cutC 46 l).map octV).length = 4 := by rw [List.length_map]; exact h4.1
    refine ⟨by simp only [List.length_append, List.length_replicate]; omega, ⟨4, rfl, by decide, ?_⟩, Nat.le_refl 32⟩
    show cutK ((cutC 46 l).map octV ++ List.replicate 12 0) 4 = _
    unfold cutK
    rw [List.take_append_of_le_length (by omega), List.take_of_length_le (by omega), List.length_append, hl]
    rfl
  · cases h
theorem sixM_ok {l : Tx} {n : NetM} (h : sixM l = some n) (h2 : n.addr.length = 16) : n.ok := by
  unfold sixM sixF at h
  split at h
  · obtain rfl := Option.some.inj h
    refine ⟨h2, ⟨16, rfl, by decide, ?_⟩, Nat.le_refl 128⟩
    show cutK (sixA _ _) 16 = sixA _ _
    have h3 : (sixA ((groupsM (Lib.cut l [58, 58]).1).getD []) ((groupsM (Lib.cut l [58, 58]).2.1).getD [])).length = 16 := h2
    unfold cutK
    rw [List.take_of_length_le (by omega), h3]
    simp
  · cases h
theorem zeroN_ok : zeroN.ok := ⟨rfl, ⟨0, rfl, by decide, rfl⟩, by decide⟩
def addrN (d : Tx) : NetM := (addrM d).getD zeroN
theorem addr_any (l : Tx) (w : World) (T : TabC w) (hs : l.length ≤ 1073741824) :
    Calls Tryz.prog 46 #[.string (bs l)] w fun e w' => Below w.heap.size w w' ∧ (addrN l).ok ∧ e = .returned (.tuple #[(addrN l).val, .int .i64 (if (addrM l).isSome then 0 else 70)]) := by
  refine (addr_walk l w T hs).mono fun e w' h => ?_
  unfold AddrAns at h
  unfold addrN
  cases ha : addrM l with
  | none =>
    rw [ha] at h
    exact ⟨h.1, zeroN_ok, h.2⟩
  | some n =>
    rw [ha] at h
    refine ⟨h.1, ?_, h.2.2⟩
    unfold addrM at ha
    cases h4 : fourM l with
    | some m =>
      rw [h4] at ha
      obtain rfl := Option.some.inj ha
      exact fourM_ok h4
    | none =>
      rw [h4] at ha
      exact sixM_ok ha h.2.1
def oddR (x : Nat) : Bool := decide (x < 32) || decide (x > 126)
def oddM (l : Tx) : Bool := decide (0 ≤ Lib.idxFunc oddR true (bs l))
def postS : Tx := [112, 111, 115, 116, 109, 97, 115, 116, 101, 114]
def mayM (p : PathM) : Bool :=
  if p.nul then (p.loc.isEmpty && p.dom.isEmpty && !p.lit)
  else if p.loc = [] then false
  else if oddM p.loc = true then false
  else if p.lit then ((addrM p.dom).isSome && decide (showM (addrN p.dom) = p.dom))
  else if p.dom = [] then decide (p.loc = postS)
  else (namedM p.dom && decide (p.dom.map lowC = p.dom))
theorem odd_clos (w : World) : Go.Proofs.PredAt Tryz.prog 151 #[] encR oddR w := fun W x hb => by
  unfold FnGives oddR
  by_cases h3 : x < 32
  · have f3 : (x : Int) < 32 := by omega
    rw [decide_eq_true h3]
    clear h3
    go_enter Tryz.func151, Tryz.ntmps151
    go_wp2
    go_ret
    exact ⟨rfl, 0, rfl⟩
  · have f3 : ¬ (x : Int) < 32 := by omega
    rw [decide_eq_false h3]
    by_cases h4 : x > 126
    · have f4 : (x : Int) > 126 := by omega
      rw [decide_eq_true h4]
      clear h3 h4
      go_enter Tryz.func151, Tryz.ntmps151
      go_wp2
      go_ret
      exact ⟨rfl, 0, rfl⟩
    · have f4 : ¬ (x : Int) > 126 := by omega
      rw [decide_eq_false h4]
      clear h3 h4
      go_enter Tryz.func151, Tryz.ntmps151
      go_wp2
      go_ret
      exact ⟨rfl, 0, rfl⟩
theorem path_eq (loc dom : Tx) (lit : Bool) (w : World) : (binOp .eql 23 (.agg #[.bool true, .string (bs loc), .string (bs dom), .bool lit]) (.agg #[.bool true, .string ⟨#[]⟩, .string ⟨#[]⟩, .bool false])).run Tryz.prog w = .ok (.bool (loc.isEmpty && dom.isEmpty && !lit)) w := by
  have e1 : ((bs loc) == (⟨#[]⟩ : ByteArray)) = loc.isEmpty := by
    rw [beq_toListBytes, bs_nil, show (⟨#[]⟩ : ByteArray).toList = [] from bs_nil []]
    cases loc <;> rfl
  have e2 : ((bs dom) == (⟨#[]⟩ : ByteArray)) = dom.isEmpty := by
    rw [beq_toListBytes, bs_nil, show (⟨#[]⟩ : ByteArray).toList = [] from bs_nil []]
    cases dom <;> rfl
  have hu := Tryz.underlying23
  have hb := Tryz.underlying4
  have hs := Tryz.underlying9
  have hp : Tryz.prog.stoodInHeld 23 = false := by kernel_rfl
  have h : ∀ d : Nat, (Op.equalIn (d + 2) 23 (.agg #[.bool true, .string (bs loc), .string (bs dom), .bool lit]) (.agg #[.bool true, .string ⟨#[]⟩, .string ⟨#[]⟩, .bool false])).run Tryz.prog w = .ok (loc.isEmpty && dom.isEmpty && !lit) w := fun d => by
    rw [run_equalIn_struct w (d + 1) 23 _ _ (by simp [Program.fieldsOf, hu]) hp]
    simp [Program.fieldsOf, hu, Op.eqFields, part, Program.cellsOf, Op.equalIn, hb, hs, run_underlying, e1, e2, go_sem]
    cases loc <;> cases dom <;> cases lit <;> simp
  simp only [binOp]
  simp [Op.equal, Op.maxDepth, h 9998]
end Go.Proofs.YtjnjnccfojfghaaGreatDoor

/-! Opening arguments that are slices of bytes; the witness of a row that lists variables; over any program. No condition. -/
namespace Go.Proofs.YtjnjnccfojfghaaGreatDoor
open Go.ChangeShapes Go.WideShapes Go.ChangeAt Go.RowKit
set_option linter.unusedVariables false
section
variable {H : Type} {enc : TypeId × Value → H} {P : Program}

theorem open_bytes {W : World} {r : Reach} {base0 : Nat} {t E : TypeId} {v : Value} {d : DataW H} {p : List MemPlace} {ts : List TypeId} {ds : List (DataW H)} {j : Nat} (hU : U8 P t E) (hcE : P.cellsOf E = 1) (hbE : P.bytesOf E = 1)
    (hval : Value.okWide P W r base0 t v) (h : DataW.Trod enc P W 0 (fun _ => true) true t v d p) (hsz : (DataW.weightsEach P ts ds).all (· ≤ reachBytes) = true) (hts : ts[j]? = some t) (hds : ds[j]? = some d) :
    ∃ A l cp, v = .slice A l.length cp ∧ l.length ≤ cp ∧ cp ≤ 140737488351232 ∧ RB W W.heap.size A l := by
  obtain ⟨a0, len0, cap0, rfl⟩ := okWide_slice hU.ht hval
  obtain ⟨fuel, hf⟩ := h
  rcases open_ints hU.ht hU.he hcE hf with ⟨hcs, _⟩ | ⟨x, len, cap, zs, hcs, _, hl, hm, hz, hx, hcell, hwz⟩
  · simp [Value.cells] at hcs
    obtain ⟨rfl, rfl, rfl⟩ := hcs
    exact ⟨none, [], 0, rfl, by simp, by omega, .inl rfl⟩
  · simp [Value.cells] at hcs
    obtain ⟨rfl, rfl, rfl⟩ := hcs
    simp only [if_true] at hz
    obtain rfl : d = _ := congrArg Prod.fst hx
    have hs := sized_slice hsz hts hds hU.ht
    rw [hbE, Nat.mul_one] at hs
    have hs' : cap0 ≤ 140737488351232 := by
      have e : (lits .u8 (zs.take len0) : List (DataW H)).length + (lits .u8 (zs.drop len0) : List (DataW H)).length = cap0 := by
        simp [lits]; omega
      rw [e] at hs
      exact hs
    have hlen : ((zs.take len0).map fun z => UInt8.ofNat z.toNat).length = len0 := by simp; omega
    refine ⟨some x, (zs.take len0).map fun z => UInt8.ofNat z.toNat, cap0, by rw [hlen], by rw [hlen]; exact hl, hs', ?_⟩
    rcases Nat.eq_zero_or_pos len0 with h0 | h0
    · subst h0; exact .inl (by simp)
    · obtain ⟨b, off, spot⟩ := x
      have hc0 := hcell 0 (by omega)
      obtain rfl : spot = none := by simpa [Addr.add] using World.cell?_spot hc0
      have hlt := World.block_lt_of_cell? _ _ hc0
      refine .inr ⟨b, off, rfl, by simpa [Addr.add_lit] using hlt, fun i hi => ?_⟩
      rw [hlen] at hi
      have hci := hcell i (by omega)
      rw [Addr.add_lit] at hci
      rw [hci]
      have hzi : zs.getD i 0 ∈ zs := by
        rw [List.getD_eq_getElem?_getD, List.getElem?_eq_getElem (by omega)]
        exact List.getElem_mem (by omega)
      have hw := hwz _ hzi
      have hb : 0 ≤ zs.getD i 0 ∧ zs.getD i 0 ≤ 255 := by simpa [Lit.wf, IntKind.min, IntKind.max, IntKind.bits, IntKind.signed] using hw
      congr 2
      unfold bt
      simp only [List.getD_eq_getElem?_getD, List.getElem?_map, List.getElem?_take_of_lt hi] at hb ⊢
      rw [List.getElem?_eq_getElem (by omega)] at hb ⊢
      simp only [Option.map_some, Option.getD_some] at hb ⊢
      rw [UInt8.toNat_ofNat']
      omega

/-- a slice of strings, opened -/
theorem open_strs {W : World} {t e : TypeId} {n : Nat} {v : Value} {y : DataW H × List MemPlace} (ht : P.underlying t = some (.slice e)) (he : P.underlying e = some .string) (hc : P.cellsOf e = 1)
    (h : DataW.trod enc P W 0 (fun _ => true) true n t [v] = some y) :
    ∃ A L cp, v = .slice A L.length cp ∧ L.length ≤ cp ∧ cp ≤ maxLen ∧ RS W W.heap.size A L ∧ ∀ s ∈ L, s.size ≤ maxLen := by
  rcases open_strings ht he hc h with ⟨hcs, _⟩ | ⟨x, len, cap, ss, hcs, _, hl, hm, hz, hx, hcell, hsz⟩
  · obtain rfl : v = _ := by simpa using hcs
    exact ⟨none, [], 0, rfl, by simp, by simp [maxLen], .inl rfl, by simp⟩
  · obtain rfl : v = _ := by simpa using hcs
    simp only [if_true] at hz
    have hlen : (ss.take len).length = len := by rw [List.length_take]; omega
    refine ⟨some x, ss.take len, cap, by rw [hlen], by rw [hlen]; exact hl, hm, ?_, fun s hs => hsz s (List.mem_of_mem_take hs)⟩
    rcases Nat.eq_zero_or_pos len with h0 | h0
    · subst h0; exact .inl (by simp)
    · obtain ⟨b, off, spot⟩ := x
      have hc0 := hcell 0 (by omega)
      obtain rfl : spot = none := by simpa [Addr.add] using World.cell?_spot hc0
      have hlt := World.block_lt_of_cell? _ _ hc0
      refine .inr ⟨b, off, rfl, by simpa [Addr.add_lit] using hlt, fun i hi => ?_⟩
      rw [hlen] at hi
      have hci := hcell i (by omega)
      rw [Addr.add_lit] at hci
      rw [hci]
      unfold st
      simp only [List.getD_eq_getElem?_getD, List.getElem?_take_of_lt hi]
      rw [List.getElem?_eq_getElem (by omega)]
      rfl

/-- the witness of a row: a world that is written out -/
theorem witness_row {C : Checked} {os : Os} {f : FuncId} {fn : Func} {s : OpenSpec} {conds : List PathCond} {apart : Bool} {laid : List (String × DataW Unit)} (w0 : World) (args : Array Value) (hos : w0.os = os)
    (hsh : (w0.forCall (fun _ _ => 0) ⟨#[], args, []⟩).Shaped C.prog)
    (hok : Input.okWideB C.prog (w0.forCall (fun _ _ => 0) ⟨#[], args, []⟩) f ⟨#[], args, []⟩ = true)
    (hrow : s.preRow enc C.prog fn conds apart laid (w0.forCall (fun _ _ => 0) ⟨#[], args, []⟩).memory args) :
    ∃ (w : World) (tape : Tape) (i : Input), w.os = os ∧ (w.forCall tape i).Shaped C.prog ∧ i.vars = [] ∧ Input.okWide C.prog (w.forCall tape i) .any w.heap.size f i ∧
      s.preRow enc C.prog fn conds apart laid (w.forCall tape i).memory i.args ∧ ({} : Assume).holds C.prog (lone (Frame.enter C.prog f i.args .normal) [] (w.forCall tape i)) :=
  ⟨w0, fun _ _ => 0, ⟨#[], args, []⟩, hos, hsh, (Input.okWide_of_okWideB (base := 0) hok).1, (Input.okWide_of_okWideB hok).2, hrow, by
    simp only [Assume.holds]
    exact ⟨by simp, by simp, by simp, by simp, by simp⟩⟩
end
end Go.Proofs.YtjnjnccfojfghaaGreatDoor

/-! Opening arguments that are slices of bytes: with what their datum says of their size; over any program. No condition. -/
namespace Go.Proofs.YtjnjnccfojfghaaGreatDoor
open Go.ChangeShapes Go.WideShapes Go.ChangeAt Go.RowKit
set_option linter.unusedVariables false
section
variable {H : Type} {enc : TypeId × Value → H} {P : Program}

theorem open_bytes2 {W : World} {r : Reach} {base0 : Nat} {t E : TypeId} {v : Value} {d : DataW H} {p : List MemPlace} {ts : List TypeId} {ds : List (DataW H)} {j : Nat} (hU : U8 P t E) (hcE : P.cellsOf E = 1) (hbE : P.bytesOf E = 1)
    (hval : Value.okWide P W r base0 t v) (h : DataW.Trod enc P W 0 (fun _ => true) true t v d p) (hsz : (DataW.weightsEach P ts ds).all (· ≤ reachBytes) = true) (hts : ts[j]? = some t) (hds : ds[j]? = some d) :
    ∃ A l cp, v = .slice A l.length cp ∧ l.length ≤ cp ∧ cp ≤ 140737488351232 ∧ RB W W.heap.size A l ∧ (A = none → cp = 0) ∧ ((d = .nil ∧ cp = 0) ∨ ∃ es ss : List (DataW H), d = .slice es ss ∧ es.length = l.length ∧ es.length + ss.length = cp) := by
  obtain ⟨a0, len0, cap0, rfl⟩ := okWide_slice hU.ht hval
  obtain ⟨fuel, hf⟩ := h
  rcases open_ints hU.ht hU.he hcE hf with ⟨hcs, _⟩ | ⟨x, len, cap, zs, hcs, _, hl, hm, hz, hx, hcell, hwz⟩
  · simp [Value.cells] at hcs
    obtain ⟨rfl, rfl, rfl⟩ := hcs
    exact ⟨none, [], 0, rfl, by simp, by omega, .inl rfl, fun _ => rfl, .inl ⟨by first | assumption | rfl | (simp_all), rfl⟩⟩
  · simp [Value.cells] at hcs
    obtain ⟨rfl, rfl, rfl⟩ := hcs
    simp only [if_true] at hz
    obtain rfl : d = _ := congrArg Prod.fst hx
    have hs := sized_slice hsz hts hds hU.ht
    rw [hbE, Nat.mul_one] at hs
    have hs' : cap0 ≤ 140737488351232 := by
      have e : (lits .u8 (zs.take len0) : List (DataW H)).length + (lits .u8 (zs.drop len0) : List (DataW H)).length = cap0 := by
        simp [lits]; omega
      rw [e] at hs
      exact hs
    have hlen : ((zs.take len0).map fun z => UInt8.ofNat z.toNat).length = len0 := by simp; omega
    refine ⟨some x, (zs.take len0).map fun z => UInt8.ofNat z.toNat, cap0, by rw [hlen], by rw [hlen]; exact hl, hs', ?_, (fun e => by cases e), .inr ⟨_, _, rfl, by simp [lits], by simp [lits]; omega⟩⟩
    rcases Nat.eq_zero_or_pos len0 with h0 | h0
    · subst h0; exact .inl (by simp)
    · obtain ⟨b, off, spot⟩ := x
      have hc0 := hcell 0 (by omega)
      obtain rfl : spot = none := by simpa [Addr.add] using World.cell?_spot hc0
      have hlt := World.block_lt_of_cell? _ _ hc0
      refine .inr ⟨b, off, rfl, by simpa [Addr.add_lit] using hlt, fun i hi => ?_⟩
      rw [hlen] at hi
      have hci := hcell i (by omega)
      rw [Addr.add_lit] at hci
      rw [hci]
      have hzi : zs.getD i 0 ∈ zs := by
        rw [List.getD_eq_getElem?_getD, List.getElem?_eq_getElem (by omega)]
        exact List.getElem_mem (by omega)
      have hw := hwz _ hzi
      have hb : 0 ≤ zs.getD i 0 ∧ zs.getD i 0 ≤ 255 := by simpa [Lit.wf, IntKind.min, IntKind.max, IntKind.bits, IntKind.signed] using hw
      congr 2
      unfold bt
      simp only [List.getD_eq_getElem?_getD, List.getElem?_map, List.getElem?_take_of_lt hi] at hb ⊢
      rw [List.getElem?_eq_getElem (by omega)] at hb ⊢
      simp only [Option.map_some, Option.getD_some] at hb ⊢
      rw [UInt8.toNat_ofNat']
      omega

end
end Go.Proofs.YtjnjnccfojfghaaGreatDoor

/-! A row of numbers that came in: opening it; over any program. No condition. -/
namespace Go.Proofs.YtjnjnccfojfghaaGreatDoor
open Go.ChangeShapes Go.WideShapes Go.ChangeAt Go.RowKit
set_option linter.unusedVariables false
/-- a row of numbers -/
def RI (w : World) (B : Nat) (A : Option Addr) (zs : List Int) : Prop :=
  zs = [] ∨ ∃ b off, A = some ⟨b, off, none⟩ ∧ b < B ∧ ∀ i z, zs[i]? = some z → w.cell? ⟨b, off + i, none⟩ = some (.int .i64 z)
theorem RI.below {w w' : World} {B : Nat} {A : Option Addr} {zs : List Int} (h : RI w B A zs) (hb : Below B w w') : RI w' B A zs := by
  rcases h with h | ⟨b, off, rfl, hlt, hc⟩
  · exact .inl h
  · exact .inr ⟨b, off, rfl, hlt, fun i z hz => by rw [hb.cell (show b < B from hlt)]; exact hc i z hz⟩
section
variable {H : Type} {enc : TypeId × Value → H} {P : Program}
theorem open_nums {W : World} {r : Reach} {base0 : Nat} {t E : TypeId} {v : Value} {d : DataW H} {p : List MemPlace} {ts : List TypeId} {ds : List (DataW H)} {j : Nat} (ht : P.underlying t = some (.slice E)) (hE : P.underlying E = some (.int .i64)) (hcE : P.cellsOf E = 1) (hbE : P.bytesOf E = 8)
    (hval : Value.okWide P W r base0 t v) (h : DataW.Trod enc P W 0 (fun _ => true) true t v d p) (hsz : (DataW.weightsEach P ts ds).all (· ≤ reachBytes) = true) (hts : ts[j]? = some t) (hds : ds[j]? = some d) :
    ∃ A zs cp, v = .slice A zs.length cp ∧ zs.length ≤ cp ∧ cp ≤ 17592186043904 ∧ RI W W.heap.size A zs ∧ (∀ z ∈ zs, -9223372036854775808 ≤ z ∧ z ≤ 9223372036854775807) := by
  obtain ⟨a0, len0, cap0, rfl⟩ := okWide_slice ht hval
  obtain ⟨fuel, hf⟩ := h
  rcases open_ints ht hE hcE hf with ⟨hcs, _⟩ | ⟨x, len, cap, zs, hcs, _, hl, hm, hz, hx, hcell, hwz⟩
  · simp [Value.cells] at hcs
    obtain ⟨rfl, rfl, rfl⟩ := hcs
    exact ⟨none, [], 0, rfl, by simp, by omega, .inl rfl, by simp⟩
  · simp [Value.cells] at hcs
    obtain ⟨rfl, rfl, rfl⟩ := hcs
    simp only [if_true] at hz
    have hlen : (zs.take len0).length = len0 := by simp; omega
    obtain rfl : d = _ := congrArg Prod.fst hx
    have hs := sized_slice hsz hts hds ht
    rw [hbE] at hs
    have hm : cap0 ≤ 17592186043904 := by
      have e : (lits .i64 (zs.take len0) : List (DataW H)).length + (lits .i64 (zs.drop len0) : List (DataW H)).length = cap0 := by
        simp [lits]; omega
      rw [e] at hs
      unfold reachBytes at hs
      omega
    refine ⟨some x, zs.take len0, cap0, by rw [hlen], by rw [hlen]; exact hl, hm, ?_, fun z hz => by simpa [Lit.wf, IntKind.min, IntKind.max, IntKind.bits, IntKind.signed] using hwz z (List.mem_of_mem_take hz)⟩
    rcases Nat.eq_zero_or_pos len0 with h0 | h0
    · subst h0; exact .inl (by simp)
    · obtain ⟨b, off, spot⟩ := x
      have hc0 := hcell 0 (by omega)
      obtain rfl : spot = none := by simpa [Addr.add] using World.cell?_spot hc0
      have hlt := World.block_lt_of_cell? _ _ hc0
      refine .inr ⟨b, off, rfl, by simpa [Addr.add_lit] using hlt, fun i z hiz => ?_⟩
      have hi : i < len0 := by
        have := (List.getElem?_eq_some_iff.1 hiz).1
        rw [hlen] at this
        exact this
      have hci := hcell i (by omega)
      rw [Addr.add_lit] at hci
      rw [hci]
      rw [List.getElem?_take_of_lt hi] at hiz
      rw [List.getD_eq_getElem?_getD, hiz]
      rfl
end
end Go.Proofs.YtjnjnccfojfghaaGreatDoor

/-! What the listed variables give of the library's tables; how much a bounded reading holds. No condition. -/
namespace Go.Proofs.YtjnjnccfojfghaaGreatDoor
open Go.RowKit
set_option linter.unusedVariables false
def u8ren : Go.Shelf.Ren := ⟨fun n => n, fun | 5 => 5 | 119 => 204 | 138 => 206 | 139 => 207 | n => n, fun | 3 => 1 | 4 => 2 | n => n⟩
theorem u8types : U8Types Tryz.prog u8ren := { t5 := Tryz.underlying5, t119 := Tryz.underlying204, t138 := Tryz.underlying206, t139 := Tryz.underlying207 }
theorem u8extra : U8Extra Tryz.prog u8ren := { n3 := by kernel_rfl, n4 := by kernel_rfl, y3 := by kernel_rfl, y4 := by kernel_rfl, c5 := by kernel_rfl, c119 := by kernel_rfl, c138 := by kernel_rfl }
theorem tabsL_of {W : World} {laid : List (String × DataW Unit)} (h : laidMet Tryz.prog laid W) (hsh : W.ShapedOpen Tryz.prog)
    (e3 : laid.filter (fun x => x.1 == "unicode/utf8.first") = [("unicode/utf8.first", Lib.firstData)])
    (e4 : laid.filter (fun x => x.1 == "unicode/utf8.acceptRanges") = [("unicode/utf8.acceptRanges", Lib.acceptData)]) : TabsL W.heap.size W := by
  have h3 := h.filter (fun x => x.1 == "unicode/utf8.first")
  have h4 := h.filter (fun x => x.1 == "unicode/utf8.acceptRanges")
  rw [e3] at h3
  rw [e4] at h4
  have t3 : Lib.Utf8Tabs 1 2 W := utf8Tabs_of_readsT u8types u8extra (Lib.laidMet.reads h3 (List.mem_singleton.2 rfl)) (Lib.laidMet.reads h4 (List.mem_singleton.2 rfl))
  obtain ⟨m, hm⟩ := cell_of_shapedOpen_int hsh (g := 0) (t := 3) (zero := #[.int .i64 0]) (by decide) (by kernel_rfl) rfl (by kernel_rfl) (by kernel_rfl) Tryz.underlying3
  exact fun w' hb => ⟨Utf8Tabs_below t3 hb, m, (hb.cell (World.block_lt_of_cell? _ _ hm)).trans hm⟩
def TabsLW (w : World) : Prop := TabsL w.heap.size w
/-! ### how much a reading holds -/
theorem bulk_pos {H : Type} (d : DataW H) : 1 ≤ Rows.uptoBulk d := by
  cases d with
  | lit x => cases x <;> simp [Rows.uptoBulk]
  | _ => simp [Rows.uptoBulk]
theorem bulk_len {H : Type} : ∀ L : List (DataW H), L.length ≤ Rows.uptoBulkAll L
  | [] => by simp
  | d :: r => by
    have h1 := bulk_pos d
    have h2 := bulk_len r
    rw [Rows.uptoBulkAll, List.length_cons]
    omega
theorem bulk_slice {H : Type} {d : DataW H} {n c : Nat} (h : d = .nil ∧ c = 0 ∨ ∃ es ss : List (DataW H), d = .slice es ss ∧ es.length = n ∧ es.length + ss.length = c) : c ≤ Rows.uptoBulk d := by
  rcases h with ⟨rfl, rfl⟩ | ⟨es, ss, rfl, h1, h2⟩
  · simp
  · have h3 := bulk_len es
    have h4 := bulk_len ss
    rw [Rows.uptoBulk]
    omega
theorem bulk_mem {H : Type} {d : DataW H} : ∀ {L : List (DataW H)} {j : Nat}, L[j]? = some d → Rows.uptoBulk d ≤ Rows.uptoBulkAll L
  | [], _, h => by simp at h
  | x :: r, 0, h => by
    simp at h
    subst h
    rw [Rows.uptoBulkAll]
    omega
  | x :: r, j + 1, h => by
    rw [Rows.uptoBulkAll]
    have := bulk_mem (L := r) (j := j) (by simpa using h)
    omega
end Go.Proofs.YtjnjnccfojfghaaGreatDoor
