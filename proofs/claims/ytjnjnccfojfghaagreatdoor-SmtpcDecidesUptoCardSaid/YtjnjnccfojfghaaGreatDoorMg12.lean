/-
  Several texts in one: ScBeg, ScTick, AppU, ScBeg6, ScBeg4. Conditions: each part names its own.
-/
import Derived.Test.YtjnjnccfojfghaaGreatDoorMg10
import Derived.Test.YtjnjnccfojfghaaGreatDoorMg11
import Derived.Test.YtjnjnccfojfghaaGreatDoorMg9
import Derived.Test.YtjnjnccfojfghaaGreatDoorMg3
set_option linter.unusedSimpArgs false
/-! The walk of smtpc's begin where it says a line of its own. Condition: the lengths. -/
namespace Go.Proofs.YtjnjnccfojfghaaGreatDoor
open Go.RowKit
set_option linter.unusedVariables false
/-- a client's ten cells -/
def cliC (name frm : Tx) (pv bv : Value) (stage pos : Nat) (lv ov : Value) (idle : Nat) (well : Bool) : Array Value :=
  #[.string (bs name), .string (bs frm), pv, bv, .int .i64 (stage : Int), .int .i64 (pos : Int), lv, ov, .int .i64 (idle : Int), .bool well]
theorem rs_lit (w : World) (L : List Tx) (h : L ≠ []) : RS (w.alloc (.cells (strC L) 9)) (w.alloc (.cells (strC L) 9)).heap.size (some ⟨w.heap.size, 0, none⟩) (L.map bs) := by
  have hb := Blk.new w 9 (strC L)
  refine .inr ⟨_, _, rfl, by simp, fun i hi => ?_⟩
  rw [List.length_map] at hi
  rw [Nat.zero_add, hb.cell i, strC_at L (List.getElem?_eq_getElem hi), st_map (List.getElem?_eq_getElem hi)]
def BegPost (w : World) (cb : Nat) (name frm : Tx) (pv bv : Value) (stage pos : Nat) (lv : Value) (idle : Nat) (well : Bool) (B : Nat) (ob : Option Nat) (l : Tx) (e : Ending) (w' : World) : Prop :=
  e = .returned (.tuple #[]) ∧ ∃ v', Blk w' cb 72 (cliC name frm pv bv stage pos lv v' idle well) ∧ OwnB w' B 5 v' l ∧ NewOr w.heap.size ob v' ∧ Safe (Stay w.heap.size cb ob) w w'
/-- say, as begin calls it -/
theorem say_beg (w : World) (cb : Nat) (name frm : Tx) (pv bv : Value) (stage k pos : Nat) (lv ov : Value) (idle : Nat) (well : Bool) (hb : Blk w cb 72 (cliC name frm pv bv stage pos lv ov idle well)) (B : Nat) (hB : B ≤ w.heap.size) (l : Tx) (ho : OwnB w B 5 ov l) (hne : ov.ownBlock ≠ some cb)
    (L : List Tx) (hL : L ≠ []) (n : Nat) (hn : n = L.length) (hln : L.length ≤ 1000) (hlen : l.length + L.flatten.length ≤ 100000000000) (C : Array Value) (hC : C = strC L) :
    Calls Tryz.prog 129 #[.pointer (some ⟨cb, 0, none⟩), .slice (some ⟨w.heap.size, 0, none⟩) n n] ((w.setCell ⟨cb, 4, none⟩ (.int .i64 (k : Int))).alloc (.cells C 9)) (BegPost w cb name frm pv bv k pos lv idle well B ov.ownBlock (l ++ L.flatten ++ [13, 10])) := by
  subst hC
  have hs1 : (w.setCell ⟨cb, 4, none⟩ (.int .i64 (k : Int))).heap.size = w.heap.size := by simp
  have hb1 : Blk (w.setCell ⟨cb, 4, none⟩ (.int .i64 (k : Int))) cb 72 (cliC name frm pv bv k pos lv ov idle well) := hb.set_ 4 _
  have ho1 := ho.only ((Only.refl (g := cb) w).set_ 4 (.int .i64 (k : Int))) hne
  have hrs := rs_lit (w.setCell ⟨cb, 4, none⟩ (.int .i64 (k : Int))) L hL
  rw [hs1] at hrs
  have hgo : ov.ownBlock ≠ some w.heap.size := fun e => by
    have := (World.ownsRow.lt ho _ e).2
    omega
  have h := say_walk ((w.setCell ⟨cb, 4, none⟩ (.int .i64 (k : Int))).alloc (.cells (strC L) 9)) cb (cliC name frm pv bv k pos lv ov idle well) rfl ov rfl (hb1.alloc _) B (by simp; omega) l (ho1.alloc _) hne w.heap.size L n hn (by simp) (by have := hb.lt; omega) hgo hrs hln hlen
  refine h.mono fun e w' h2 => ?_
  obtain ⟨rfl, v', h3, h4, h5, h6⟩ := h2
  have hsz : ((w.setCell ⟨cb, 4, none⟩ (.int .i64 (k : Int))).alloc (.cells (strC L) 9)).heap.size = w.heap.size + 1 := by simp
  rw [hsz] at h5 h6
  refine ⟨rfl, v', h3, h4, ?_, ?_⟩
  · rcases h5 with h5 | ⟨q, h5, hq⟩
    · exact .inl h5
    · exact .inr ⟨q, h5, by omega⟩
  · have s1 : Safe (Stay w.heap.size cb ov.ownBlock) w (w.setCell ⟨cb, 4, none⟩ (.int .i64 (k : Int))) := (Safe.refl _ w).set_ (p := ⟨cb, 4, none⟩) (fun h => h.2.1 rfl) _
    have s2 : Safe (Stay w.heap.size cb ov.ownBlock) w ((w.setCell ⟨cb, 4, none⟩ (.int .i64 (k : Int))).alloc (.cells (strC L) 9)) := s1.below ((Below.refl _ _).alloc (Nat.le_refl _) _) (fun k hk => by rw [hs1]; exact hk.1)
    exact s2.trans (h6.mono fun k hk => ⟨by have := hk.1; omega, hk.2.1, hk.2.2⟩)
set_option maxRecDepth 4000 in
set_option maxHeartbeats 4000000 in
theorem begin_1 (w : World) (cb : Nat) (name frm : Tx) (pv bv : Value) (stage pos : Nat) (lv ov : Value) (idle : Nat) (well : Bool) (hb : Blk w cb 72 (cliC name frm pv bv stage pos lv ov idle well)) (B : Nat) (hB : B ≤ w.heap.size) (l : Tx) (ho : OwnB w B 5 ov l) (hne : ov.ownBlock ≠ some cb)
    (hlen : l.length + name.length + frm.length ≤ 10000000000) :
    Calls Tryz.prog 96 #[.pointer (some ⟨cb, 0, none⟩), .int .i64 1] w (BegPost w cb name frm pv bv 1 pos lv idle well B ov.ownBlock (l ++ ([69, 72, 76, 79, 32] ++ name) ++ [13, 10])) := by
  have K0 := say_beg w cb name frm pv bv stage 1 pos lv ov idle well hb B hB l ho hne [[69, 72, 76, 79, 32], name] (by simp) 2 rfl (by simp) (by simp; omega) #[.string ⟨#[69, 72, 76, 79, 32]⟩, .string (bs name)] rfl
  have k0 : w.cell? ⟨cb, 0, none⟩ = some (.string (bs name)) := hb.cell 0
  have k4 : w.cell? ⟨cb, 4, none⟩ = some (.int .i64 (stage : Int)) := hb.cell 4
  have kf := hb.frozen 4
  have hlt := hb.lt
  have hfl : ([[69, 72, 76, 79, 32], name] : List Tx).flatten = ([69, 72, 76, 79, 32] ++ name) := by simp
  rw [hfl] at K0
  have K1 := K0.mono (fun e w' (h : BegPost _ _ _ _ _ _ _ _ _ _ _ _ _ _ e w') => (⟨h.1, h⟩ : e = .returned (.tuple #[]) ∧ _))
  generalize BegPost w cb name frm pv bv 1 pos lv idle well B ov.ownBlock (l ++ ([69, 72, 76, 79, 32] ++ name) ++ [13, 10]) = Post at *
  have KK : Hid (Calls Tryz.prog 129 #[.pointer (some ⟨cb, 0, none⟩), .slice (some ⟨w.heap.size, 0, none⟩) 2 2] ((w.setCell ⟨cb, 4, none⟩ (.int .i64 1)).alloc (.cells #[.string ⟨#[69, 72, 76, 79, 32]⟩, .string (bs name)] 9)) fun e w' => e = .returned (.tuple #[]) ∧ Post e w') := Lib.hid K1
  clear K0 K1 hb ho hne hB hfl
  go_enter Tryz.func96, Tryz.ntmps96
  go_wp2_with fail
  refine KK.out.mono ?_
  rintro e w3 ⟨rfl, hp⟩
  have HP := Lib.hid hp
  clear hp
  go_wp2_with fail
  refine bodyPost_end (v := .tuple #[]) (by simp [results, show (Tryz.f96).results = #[] from rfl]) rfl ?_
  exact HP.out
set_option maxRecDepth 4000 in
set_option maxHeartbeats 4000000 in
theorem begin_2 (w : World) (cb : Nat) (name frm : Tx) (pv bv : Value) (stage pos : Nat) (lv ov : Value) (idle : Nat) (well : Bool) (hb : Blk w cb 72 (cliC name frm pv bv stage pos lv ov idle well)) (B : Nat) (hB : B ≤ w.heap.size) (l : Tx) (ho : OwnB w B 5 ov l) (hne : ov.ownBlock ≠ some cb)
    (hlen : l.length + name.length + frm.length ≤ 10000000000) :
    Calls Tryz.prog 96 #[.pointer (some ⟨cb, 0, none⟩), .int .i64 2] w (BegPost w cb name frm pv bv 2 pos lv idle well B ov.ownBlock (l ++ ([72, 69, 76, 79, 32] ++ name) ++ [13, 10])) := by
  have K0 := say_beg w cb name frm pv bv stage 2 pos lv ov idle well hb B hB l ho hne [[72, 69, 76, 79, 32], name] (by simp) 2 rfl (by simp) (by simp; omega) #[.string ⟨#[72, 69, 76, 79, 32]⟩, .string (bs name)] rfl
  have k0 : w.cell? ⟨cb, 0, none⟩ = some (.string (bs name)) := hb.cell 0
  have k4 : w.cell? ⟨cb, 4, none⟩ = some (.int .i64 (stage : Int)) := hb.cell 4
  have kf := hb.frozen 4
  have hlt := hb.lt
  have hfl : ([[72, 69, 76, 79, 32], name] : List Tx).flatten = ([72, 69, 76, 79, 32] ++ name) := by simp
  rw [hfl] at K0
  have K1 := K0.mono (fun e w' (h : BegPost _ _ _ _ _ _ _ _ _ _ _ _ _ _ e w') => (⟨h.1, h⟩ : e = .returned (.tuple #[]) ∧ _))
  generalize BegPost w cb name frm pv bv 2 pos lv idle well B ov.ownBlock (l ++ ([72, 69, 76, 79, 32] ++ name) ++ [13, 10]) = Post at *
  have KK : Hid (Calls Tryz.prog 129 #[.pointer (some ⟨cb, 0, none⟩), .slice (some ⟨w.heap.size, 0, none⟩) 2 2] ((w.setCell ⟨cb, 4, none⟩ (.int .i64 2)).alloc (.cells #[.string ⟨#[72, 69, 76, 79, 32]⟩, .string (bs name)] 9)) fun e w' => e = .returned (.tuple #[]) ∧ Post e w') := Lib.hid K1
  clear K0 K1 hb ho hne hB hfl
  go_enter Tryz.func96, Tryz.ntmps96
  go_wp2_with fail
  refine KK.out.mono ?_
  rintro e w3 ⟨rfl, hp⟩
  have HP := Lib.hid hp
  clear hp
  go_wp2_with fail
  refine bodyPost_end (v := .tuple #[]) (by simp [results, show (Tryz.f96).results = #[] from rfl]) rfl ?_
  exact HP.out
set_option maxRecDepth 4000 in
set_option maxHeartbeats 4000000 in
theorem begin_3 (w : World) (cb : Nat) (name frm : Tx) (pv bv : Value) (stage pos : Nat) (lv ov : Value) (idle : Nat) (well : Bool) (hb : Blk w cb 72 (cliC name frm pv bv stage pos lv ov idle well)) (B : Nat) (hB : B ≤ w.heap.size) (l : Tx) (ho : OwnB w B 5 ov l) (hne : ov.ownBlock ≠ some cb)
    (hlen : l.length + name.length + frm.length ≤ 10000000000) :
    Calls Tryz.prog 96 #[.pointer (some ⟨cb, 0, none⟩), .int .i64 3] w (BegPost w cb name frm pv bv 3 pos lv idle well B ov.ownBlock (l ++ ([77, 65, 73, 76, 32, 70, 82, 79, 77, 58] ++ frm) ++ [13, 10])) := by
  have K0 := say_beg w cb name frm pv bv stage 3 pos lv ov idle well hb B hB l ho hne [[77, 65, 73, 76, 32, 70, 82, 79, 77, 58], frm] (by simp) 2 rfl (by simp) (by simp; omega) #[.string ⟨#[77, 65, 73, 76, 32, 70, 82, 79, 77, 58]⟩, .string (bs frm)] rfl
  have k0 : w.cell? ⟨cb, 1, none⟩ = some (.string (bs frm)) := hb.cell 1
  have k4 : w.cell? ⟨cb, 4, none⟩ = some (.int .i64 (stage : Int)) := hb.cell 4
  have kf := hb.frozen 4
  have hlt := hb.lt
  have hfl : ([[77, 65, 73, 76, 32, 70, 82, 79, 77, 58], frm] : List Tx).flatten = ([77, 65, 73, 76, 32, 70, 82, 79, 77, 58] ++ frm) := by simp
  rw [hfl] at K0
  have K1 := K0.mono (fun e w' (h : BegPost _ _ _ _ _ _ _ _ _ _ _ _ _ _ e w') => (⟨h.1, h⟩ : e = .returned (.tuple #[]) ∧ _))
  generalize BegPost w cb name frm pv bv 3 pos lv idle well B ov.ownBlock (l ++ ([77, 65, 73, 76, 32, 70, 82, 79, 77, 58] ++ frm) ++ [13, 10]) = Post at *
  have KK : Hid (Calls Tryz.prog 129 #[.pointer (some ⟨cb, 0, none⟩), .slice (some ⟨w.heap.size, 0, none⟩) 2 2] ((w.setCell ⟨cb, 4, none⟩ (.int .i64 3)).alloc (.cells #[.string ⟨#[77, 65, 73, 76, 32, 70, 82, 79, 77, 58]⟩, .string (bs frm)] 9)) fun e w' => e = .returned (.tuple #[]) ∧ Post e w') := Lib.hid K1
  clear K0 K1 hb ho hne hB hfl
  go_enter Tryz.func96, Tryz.ntmps96
  go_wp2_with fail
  refine KK.out.mono ?_
  rintro e w3 ⟨rfl, hp⟩
  have HP := Lib.hid hp
  clear hp
  go_wp2_with fail
  refine bodyPost_end (v := .tuple #[]) (by simp [results, show (Tryz.f96).results = #[] from rfl]) rfl ?_
  exact HP.out
set_option maxRecDepth 4000 in
set_option maxHeartbeats 4000000 in
theorem begin_5 (w : World) (cb : Nat) (name frm : Tx) (pv bv : Value) (stage pos : Nat) (lv ov : Value) (idle : Nat) (well : Bool) (hb : Blk w cb 72 (cliC name frm pv bv stage pos lv ov idle well)) (B : Nat) (hB : B ≤ w.heap.size) (l : Tx) (ho : OwnB w B 5 ov l) (hne : ov.ownBlock ≠ some cb)
    (hlen : l.length + name.length + frm.length ≤ 10000000000) :
    Calls Tryz.prog 96 #[.pointer (some ⟨cb, 0, none⟩), .int .i64 5] w (BegPost w cb name frm pv bv 5 pos lv idle well B ov.ownBlock (l ++ [68, 65, 84, 65] ++ [13, 10])) := by
  have K0 := say_beg w cb name frm pv bv stage 5 pos lv ov idle well hb B hB l ho hne [[68, 65, 84, 65]] (by simp) 1 rfl (by simp) (by simp; omega) #[.string ⟨#[68, 65, 84, 65]⟩] rfl
  have k4 : w.cell? ⟨cb, 4, none⟩ = some (.int .i64 (stage : Int)) := hb.cell 4
  have kf := hb.frozen 4
  have hlt := hb.lt
  have hfl : ([[68, 65, 84, 65]] : List Tx).flatten = [68, 65, 84, 65] := by simp
  rw [hfl] at K0
  have K1 := K0.mono (fun e w' (h : BegPost _ _ _ _ _ _ _ _ _ _ _ _ _ _ e w') => (⟨h.1, h⟩ : e = .returned (.tuple #[]) ∧ _))
  generalize BegPost w cb name frm pv bv 5 pos lv idle well B ov.ownBlock (l ++ [68, 65, 84, 65] ++ [13, 10]) = Post at *
  have KK : Hid (Calls Tryz.prog 129 #[.pointer (some ⟨cb, 0, none⟩), .slice (some ⟨w.heap.size, 0, none⟩) 1 1] ((w.setCell ⟨cb, 4, none⟩ (.int .i64 5)).alloc (.cells #[.string ⟨#[68, 65, 84, 65]⟩] 9)) fun e w' => e = .returned (.tuple #[]) ∧ Post e w') := Lib.hid K1
  clear K0 K1 hb ho hne hB hfl
  go_enter Tryz.func96, Tryz.ntmps96
  go_wp2_with fail
  refine KK.out.mono ?_
  rintro e w3 ⟨rfl, hp⟩
  have HP := Lib.hid hp
  clear hp
  go_wp2_with fail
  refine bodyPost_end (v := .tuple #[]) (by simp [results, show (Tryz.f96).results = #[] from rfl]) rfl ?_
  exact HP.out
set_option maxRecDepth 4000 in
set_option maxHeartbeats 4000000 in
theorem begin_7 (w : World) (cb : Nat) (name frm : Tx) (pv bv : Value) (stage pos : Nat) (lv ov : Value) (idle : Nat) (well : Bool) (hb : Blk w cb 72 (cliC name frm pv bv stage pos lv ov idle well)) (B : Nat) (hB : B ≤ w.heap.size) (l : Tx) (ho : OwnB w B 5 ov l) (hne : ov.ownBlock ≠ some cb)
    (hlen : l.length + name.length + frm.length ≤ 10000000000) :
    Calls Tryz.prog 96 #[.pointer (some ⟨cb, 0, none⟩), .int .i64 7] w (BegPost w cb name frm pv bv 7 pos lv idle well B ov.ownBlock (l ++ [81, 85, 73, 84] ++ [13, 10])) := by
  have K0 := say_beg w cb name frm pv bv stage 7 pos lv ov idle well hb B hB l ho hne [[81, 85, 73, 84]] (by simp) 1 rfl (by simp) (by simp; omega) #[.string ⟨#[81, 85, 73, 84]⟩] rfl
  have k4 : w.cell? ⟨cb, 4, none⟩ = some (.int .i64 (stage : Int)) := hb.cell 4
  have kf := hb.frozen 4
  have hlt := hb.lt
  have hfl : ([[81, 85, 73, 84]] : List Tx).flatten = [81, 85, 73, 84] := by simp
  rw [hfl] at K0
  have K1 := K0.mono (fun e w' (h : BegPost _ _ _ _ _ _ _ _ _ _ _ _ _ _ e w') => (⟨h.1, h⟩ : e = .returned (.tuple #[]) ∧ _))
  generalize BegPost w cb name frm pv bv 7 pos lv idle well B ov.ownBlock (l ++ [81, 85, 73, 84] ++ [13, 10]) = Post at *
  have KK : Hid (Calls Tryz.prog 129 #[.pointer (some ⟨cb, 0, none⟩), .slice (some ⟨w.heap.size, 0, none⟩) 1 1] ((w.setCell ⟨cb, 4, none⟩ (.int .i64 7)).alloc (.cells #[.string ⟨#[81, 85, 73, 84]⟩] 9)) fun e w' => e = .returned (.tuple #[]) ∧ Post e w') := Lib.hid K1
  clear K0 K1 hb ho hne hB hfl
  go_enter Tryz.func96, Tryz.ntmps96
  go_wp2_with fail
  refine KK.out.mono ?_
  rintro e w3 ⟨rfl, hp⟩
  have HP := Lib.hid hp
  clear hp
  go_wp2_with fail
  refine bodyPost_end (v := .tuple #[]) (by simp [results, show (Tryz.f96).results = #[] from rfl]) rfl ?_
  exact HP.out
end Go.Proofs.YtjnjnccfojfghaaGreatDoor

/-! The walks of smtpc's state, Over, Well, Lost, Tick. Condition: the counts. -/
namespace Go.Proofs.YtjnjnccfojfghaaGreatDoor
open Go.RowKit
set_option linter.unusedVariables false
def stateM (c : Nat) : Nat := if c = 5 then 3 else 1
theorem state_walk (c : Nat) (w : World) : Calls Tryz.prog 97 #[.int .i64 (c : Int)] w fun e w' => w' = w ∧ e = .returned (.int .i64 (stateM c : Int)) := by
  have HF : Hid (stateM c = if c = 5 then 3 else 1) := Lib.hid rfl
  generalize stateM c = R at *
  by_cases h : c = 5
  · have hi : ((c : Int) == 5) = true := by rw [h]; rfl
    have HR : Hid (R = 3) := Lib.hid (by rw [HF.out, if_pos h])
    clear h
    go_enter Tryz.func97, Tryz.ntmps97
    go_wp2_with fail
    go_ret
    exact ⟨rfl, by rw [HR.out]; rfl⟩
  · have hi : ((c : Int) == 5) = false := beq_eq_false_iff_ne.2 (by omega)
    have HR : Hid (R = 1) := Lib.hid (by rw [HF.out, if_neg h])
    clear h
    go_enter Tryz.func97, Tryz.ntmps97
    go_wp2_with fail
    go_ret
    exact ⟨rfl, by rw [HR.out]; rfl⟩
section
variable (w : World) (cb : Nat) (name frm : Tx) (pv bv : Value) (stage pos : Nat) (lv ov : Value) (idle : Nat) (well : Bool) (hb : Blk w cb 72 (cliC name frm pv bv stage pos lv ov idle well))
include hb
theorem over_walk : Calls Tryz.prog 19 #[.pointer (some ⟨cb, 0, none⟩)] w fun e w' => w' = w ∧ e = .returned (.bool (decide (stage = 8))) := by
  have k4 : w.cell? ⟨cb, 4, none⟩ = some (.int .i64 (stage : Int)) := hb.cell 4
  have hd : ((stage : Int) == 8) = decide (stage = 8) := Bool.eq_iff_iff.2 (by rw [beq_iff_eq, decide_eq_true_iff]; omega)
  generalize decide (stage = 8) = D at *
  clear hb
  go_enter Tryz.func19, Tryz.ntmps19
  go_wp2_with fail
  go_ret
  exact ⟨rfl, by rw [← hd]; rfl⟩
theorem well_walk : Calls Tryz.prog 22 #[.pointer (some ⟨cb, 0, none⟩)] w fun e w' => w' = w ∧ e = .returned (.bool well) := by
  have k4 : w.cell? ⟨cb, 9, none⟩ = some (.bool well) := hb.cell 9
  clear hb
  go_enter Tryz.func22, Tryz.ntmps22
  go_wp2_with fail
  go_ret
  exact ⟨rfl, rfl⟩
theorem lost_walk : Calls Tryz.prog 24 #[.pointer (some ⟨cb, 0, none⟩)] w fun e w' => e = .returned (.tuple #[]) ∧ Blk w' cb 72 (cliC name frm pv bv 8 pos lv ov idle well) ∧ Only cb w w' := by
  have k4 : w.cell? ⟨cb, 4, none⟩ = some (.int .i64 (stage : Int)) := hb.cell 4
  have kf := hb.frozen 4
  have HB : Hid (Blk (w.setCell ⟨cb, 4, none⟩ (.int .i64 8)) cb 72 (cliC name frm pv bv 8 pos lv ov idle well)) := Lib.hid (hb.set_ 4 _)
  clear hb
  go_enter Tryz.func24, Tryz.ntmps24
  go_wp2_with fail
  refine bodyPost_end (v := .tuple #[]) (by simp [results, show (Tryz.f24).results = #[] from rfl]) rfl ?_
  exact ⟨rfl, HB.out, (Only.refl w).set_ 4 _⟩
end
def tickI (idle : Nat) (n : Int) : Nat := if n < 1 then idle else min 300 (idle + (min n 300).toNat)
def tickS (stage idle : Nat) (n : Int) : Nat := if n < 1 then stage else if 300 ≤ tickI idle n then 8 else stage
set_option maxRecDepth 4000 in
theorem tick_walk (w : World) (cb : Nat) (name frm : Tx) (pv bv : Value) (stage pos : Nat) (lv ov : Value) (idle : Nat) (well : Bool) (hb : Blk w cb 72 (cliC name frm pv bv stage pos lv ov idle well)) (hi : idle ≤ 300) (n : Int) :
    Calls Tryz.prog 26 #[.pointer (some ⟨cb, 0, none⟩), .int .i64 n] w fun e w' => e = .returned (.tuple #[]) ∧ Blk w' cb 72 (cliC name frm pv bv (tickS stage idle n) pos lv ov (tickI idle n) well) ∧ Only cb w w' := by
  have k4 : w.cell? ⟨cb, 4, none⟩ = some (.int .i64 (stage : Int)) := hb.cell 4
  have k8 : w.cell? ⟨cb, 8, none⟩ = some (.int .i64 (idle : Int)) := hb.cell 8
  have kf4 := hb.frozen 4
  have kf8 := hb.frozen 8
  have HB := Lib.hid hb
  by_cases hn : n < 1
  · have h1 : tickI idle n = idle := if_pos hn
    have h2 : tickS stage idle n = stage := if_pos hn
    rw [h1, h2]
    clear hb h1 h2
    go_enter Tryz.func26, Tryz.ntmps26
    go_wp2_with fail
    refine bodyPost_ret (v := .tuple #[]) (by simp [results, show (Tryz.f26).results = #[] from rfl]) rfl ?_
    exact ⟨rfl, HB.out, Only.refl w⟩
  · have h1 : tickI idle n = min 300 (idle + (min n 300).toNat) := if_neg hn
    have h2 : tickS stage idle n = if 300 ≤ tickI idle n then 8 else stage := if_neg hn
    obtain ⟨m, hm⟩ : ∃ m : Nat, min n 300 = (m : Int) := ⟨(min n 300).toNat, by omega⟩
    have hm2 : m ≤ 300 := by omega
    obtain ⟨q, hq⟩ : ∃ q : Nat, min (300 : Int) ((idle : Int) + (m : Int)) = (q : Int) := ⟨min 300 (idle + m), by omega⟩
    have hq2 : tickI idle n = q := by rw [h1, hm]; simp only [Int.toNat_natCast]; omega
    rw [hq2] at h2
    rw [hq2, h2]
    have HB8 : Hid (Blk (w.setCell ⟨cb, 8, none⟩ (.int .i64 (q : Int))) cb 72 (cliC name frm pv bv stage pos lv ov q well)) := Lib.hid (hb.set_ 8 _)
    have HB84 : Hid (Blk ((w.setCell ⟨cb, 8, none⟩ (.int .i64 (q : Int))).setCell ⟨cb, 4, none⟩ (.int .i64 8)) cb 72 (cliC name frm pv bv 8 pos lv ov q well)) := Lib.hid (HB8.out.set_ 4 _)
    have hwr : IntKind.i64.wrap ((idle : Int) + (m : Int)) = (idle : Int) + (m : Int) := IntWalk.i64_in _ (by omega)
    clear hb h1 h2 hq2
    by_cases h3 : 300 ≤ q
    · have h3i : (q : Int) ≥ 300 := by omega
      rw [if_pos h3]
      clear h3
      go_enter Tryz.func26, Tryz.ntmps26
      go_wp2_with fail
      refine bodyPost_end (v := .tuple #[]) (by simp [results, show (Tryz.f26).results = #[] from rfl]) rfl ?_
      exact ⟨rfl, HB84.out, ((Only.refl w).set_ 8 _).set_ 4 _⟩
    · have h3i : ¬ (q : Int) ≥ 300 := by omega
      rw [if_neg h3]
      clear h3
      go_enter Tryz.func26, Tryz.ntmps26
      go_wp2_with fail
      refine bodyPost_end (v := .tuple #[]) (by simp [results, show (Tryz.f26).results = #[] from rfl]) rfl ?_
      exact ⟨rfl, HB8.out, (Only.refl w).set_ 8 _⟩
end Go.Proofs.YtjnjnccfojfghaaGreatDoor

/-! append(b, c...) of bytes to owned bytes: the row stays where it is, or is the newest block; over any program. No condition. -/
namespace Go.Proofs.YtjnjnccfojfghaaGreatDoor
open Go.RowKit
set_option linter.unusedVariables false
section
variable {P : Program} {w : World}
theorem OwnB.toQ {base E : Nat} {v : Value} {l : List UInt8} (h : OwnB w base E v l) : OwnQ w base v.ownBlock v l := by
  have hxl : (Lib.byteCells l).length = l.length := by simp [Lib.byteCells]
  have hc := fun g => World.ownsRow.cells (g := g) h
  rcases h.2 with ⟨rfl, hn0⟩ | ⟨g, cap, cur, rfl, hbg, hg, hnc, hcm, hcs, htake⟩
  · obtain rfl : l = [] := List.eq_nil_of_length_eq_zero hn0
    exact OwnQ.nil w base none
  · have hb : Blk w g E cur := hg
    refine ⟨_, cap, rfl, hnc, hcm, .inr ⟨g, 0, rfl, rfl, hbg, hb.lt, fun i hi => ?_, fun i hi => ⟨?_, hb.frozen _⟩⟩⟩
    · have h2 := hc g rfl i (.int .u8 (bt l i)) (by rw [bt_getElem hi]; simp [Lib.byteCells, hi])
      rw [Addr.add_lit] at h2
      exact h2
    · rw [hb.cell, Nat.zero_add, Array.getElem?_eq_getElem (by omega)]
      rfl
theorem app_nothing {t E : TypeId} (hU : U8 P t E) (ty : TypeId) (Av : Option Addr) (n cv : Nat) (hle : n ≤ cv) (A : Option Addr) (c : Nat) : (Builtin.append_ #[t, t] ty #[.slice Av n cv, .slice A 0 c]).run P w = .ok (.slice Av n cv) w := by
  obtain ⟨i, hi, hz, h1, h2⟩ := hU.hi
  rcases A with _ | ad
  · cases Av <;> simp [Builtin.append_, run_underlying hU.ht, sizeOf, typeInfo, hi, Builtin.lenOf, Builtin.firstCells, hle, storeCells]
  · have hl := run_loadCells_list (P := P) w ad [] (fun j v hj => by simp at hj)
    simp at hl
    cases Av <;> simp [Builtin.append_, run_underlying hU.ht, sizeOf, typeInfo, hi, Builtin.lenOf, Builtin.firstCells, hle, storeCells, h1, hl]
theorem app_blockB {t E : TypeId} (hU : U8 P t E) (base : Nat) (ty : TypeId) {v : Value} {l k : List UInt8} (hown : OwnB w base E v l) {B : Nat} {A : Option Addr} (c : Nat) (hr : RB w B A k) (hbytes : l.length + k.length ≤ 140737488355328) (hbase : base ≤ w.heap.size)
    {v' : Value} {w' : World} (hrun : (Builtin.append_ #[t, t] ty #[v, .slice A k.length c]).run P w = .ok v' w') : v'.ownBlock = v.ownBlock ∨ v'.ownBlock = some w.heap.size := by
  have hq := hown.toQ
  rcases Nat.eq_zero_or_pos k.length with h0 | h0
  · obtain ⟨Av, cv, hv, hle, _⟩ := hq
    rw [hv, h0, app_nothing hU ty Av l.length cv hle A c] at hrun
    injection hrun with e1 e2
    exact .inl (by rw [← e1, hv])
  · obtain ⟨v1, own1, w1, hrun1, hq1, _, ho1⟩ := run_appQ (P := P) w hU base ty hq c hr hbytes hbase
    rw [hrun1] at hrun
    injection hrun with e1 e2
    subst e1 e2
    obtain ⟨A1, c1, rfl, hle1, _, hd⟩ := hq1
    rw [List.length_append] at hle1
    rcases hd with ⟨hc0, _⟩ | ⟨g, off, ho, rfl, _⟩
    · omega
    · rw [ho] at ho1
      exact ho1
theorem step_appBt {ops : Array Oper} {o : Oper} {a : Act} {K : Act → World → Prop} {Q : Exit → Act → World → Prop} {E' : Prop} (hgd : o.guard = none) {t E : TypeId} (hU : U8 P t E) (s x : Operand)
    (ho : o.op = .call { callee := .builtin .append, args := #[s, x], argTypes := #[t, t] })
    (base : Nat) {v : Value} {l k : List UInt8} (hs : a.eval s = v) (hown : OwnB w base E v l) {B : Nat} {A : Option Addr} (m c : Nat) (hx : a.eval x = .slice A m c) (hm : m = k.length) (hr : RB w B A k)
    (hbytes : l.length + k.length ≤ 140737488355328) (hbase : base ≤ w.heap.size)
    (h : ∀ v' w', OwnB w' base E v' (l ++ k) → w.grownBy w' v.ownBlock → (v'.ownBlock = v.ownBlock ∨ v'.ownBlock = some w.heap.size) → K (a.put o.dst v') w') :
    if Region.wanted o (yielded ops a.tmps) = true then Oper.wp P o a w K Q else E' := by
  subst hm
  have hw : Region.wanted o (yielded ops a.tmps) = true := by simp [Region.wanted, hgd]
  rw [if_pos hw]
  obtain ⟨v', w', hrun, h2, h3⟩ := run_appB (P := P) w hU base o.type hown c hr (by omega) hbase
  have h4 := app_blockB hU base o.type hown c hr hbytes hbase hrun
  unfold Oper.wp execOp
  simp only [ho, resolve, invoke, builtin, Sem.run_bind, Sem.run_pure, Result.andThen_ok, List.map_toArray, List.map_cons, List.map_nil, hs, hx, hrun]
  exact h v' w' h2 h3 h4
end
end Go.Proofs.YtjnjnccfojfghaaGreatDoor

/-! The walk of smtpc's begin where it sends the message. Condition: the lengths. -/
namespace Go.Proofs.YtjnjnccfojfghaaGreatDoor
open Go.RowKit
set_option linter.unusedVariables false
theorem rb_far {w : World} {B : Nat} {A : Option Addr} {l : Tx} (h : RB w B A l) (cb : Nat) (hne : ∀ a, A = some a → a.block ≠ cb) (i : Nat) (u : Value) : RB (w.setCell ⟨cb, i, none⟩ u) B A l := by
  rcases h with h | ⟨b, off, hA, hb, hc⟩
  · exact .inl h
  · refine .inr ⟨b, off, hA, hb, fun j hj => ?_⟩
    rw [World.cell?_setCell_far w _ _ u (fun e => hne _ hA e.symm)]
    exact hc j hj
set_option maxRecDepth 4000 in
set_option maxHeartbeats 4000000 in
theorem begin_6 (w : World) (cb : Nat) (name frm : Tx) (pv : Value) (Ab : Option Addr) (body : Tx) (nb cbb : Nat) (hnb : nb = body.length) (stage pos : Nat) (lv ov : Value) (idle : Nat) (well : Bool) (hb : Blk w cb 72 (cliC name frm pv (.slice Ab nb cbb) stage pos lv ov idle well)) (B : Nat) (hB : B ≤ w.heap.size) (l : Tx) (ho : OwnB w B 5 ov l) (hne : ov.ownBlock ≠ some cb)
    (hr : RB w w.heap.size Ab body) (hab : ∀ a, Ab = some a → a.block ≠ cb) (hlen : l.length + body.length ≤ 100000000000) :
    Calls Tryz.prog 96 #[.pointer (some ⟨cb, 0, none⟩), .int .i64 6] w (BegPost w cb name frm pv (.slice Ab nb cbb) 6 pos lv idle well B ov.ownBlock (l ++ body)) := by
  subst hnb
  obtain ⟨Ao, mo, co, rfl⟩ := ho.sl
  have hs1 : (w.setCell ⟨cb, 4, none⟩ (.int .i64 6)).heap.size = w.heap.size := by simp
  have hb1 : Blk (w.setCell ⟨cb, 4, none⟩ (.int .i64 6)) cb 72 (cliC name frm pv (.slice Ab body.length cbb) 6 pos lv (.slice Ao mo co) idle well) := hb.set_ 4 _
  have ho1 := ho.only ((Only.refl (g := cb) w).set_ 4 (.int .i64 6)) hne
  have hr1 := rb_far hr cb hab 4 (.int .i64 6)
  have hsafe : Safe (Stay w.heap.size cb (Value.slice Ao mo co).ownBlock) w (w.setCell ⟨cb, 4, none⟩ (.int .i64 6)) := (Safe.refl _ w).set_ (p := ⟨cb, 4, none⟩) (fun h => h.2.1 rfl) _
  have k4 : w.cell? ⟨cb, 4, none⟩ = some (.int .i64 (stage : Int)) := hb.cell 4
  have kf := hb.frozen 4
  have hlt := hb.lt
  have HB1 := Lib.hid hb1
  have HO1 := Lib.hid ho1
  have HR1 := Lib.hid hr1
  have HS1 := Lib.hid hsafe
  have HNE := Lib.hid hne
  have PO : Hid (∀ w' v', Blk w' cb 72 (cliC name frm pv (.slice Ab body.length cbb) 6 pos lv v' idle well) → OwnB w' B 5 v' (l ++ body) → NewOr w.heap.size (Value.slice Ao mo co).ownBlock v' → Safe (Stay w.heap.size cb (Value.slice Ao mo co).ownBlock) w w' → BegPost w cb name frm pv (.slice Ab body.length cbb) 6 pos lv idle well B (Value.slice Ao mo co).ownBlock (l ++ body) (.returned (.tuple #[])) w') := Lib.hid fun w' v' h1 h2 h3 h4 => ⟨rfl, v', h1, h2, h3, h4⟩
  generalize BegPost w cb name frm pv (.slice Ab body.length cbb) 6 pos lv idle well B (Value.slice Ao mo co).ownBlock (l ++ body) = Post at *
  clear hb ho hr hb1 ho1 hr1 hsafe hne
  go_enter Tryz.func96, Tryz.ntmps96
  go_upto_region 13 with fail
  obtain ⟨w1, hw1⟩ : ∃ w1, w.setCell ⟨cb, 4, none⟩ (.int .i64 6) = w1 := ⟨_, rfl⟩
  rw [hw1] at HB1 HO1 HR1 HS1 hs1 ⊢
  clear hw1 k4 kf
  have k3 : w1.cell? ⟨cb, 3, none⟩ = some (.slice Ab body.length cbb) := HB1.out.cell 3
  have k7 : w1.cell? ⟨cb, 7, none⟩ = some (.slice Ao mo co) := HB1.out.cell 7
  have kf7 := HB1.out.frozen 7
  have k3d : w1.drew.cell? ⟨cb, 3, none⟩ = some (.slice Ab body.length cbb) := k3
  have k7d : w1.drew.cell? ⟨cb, 7, none⟩ = some (.slice Ao mo co) := k7
  go_region_law (refine step_appBt (P := Tryz.prog) rfl u8c (.tmp 63) (.tmp 67) rfl B (by rfl) (show OwnB w1.drew B 5 (.slice Ao mo co) l from HO1.out) body.length cbb (by rfl) rfl (show RB w1.drew w.heap.size Ab body from HR1.out) (by omega) (by show B ≤ w1.heap.size; omega) ?_; intro v6 w6 ho6 hg6 hn6; obtain ⟨A6, m6, c6, rfl⟩ := ho6.sl; have hb6 : Blk w6 cb 72 _ := HB1.out.drew.grown hg6 HNE.out.symm; have k76 : w6.cell? ⟨cb, 7, none⟩ = some (.slice Ao mo co) := hb6.cell 7; have kf6 := hb6.frozen 7; have HB6 := Lib.hid hb6; have HO6 := Lib.hid ho6; have HG6 := Lib.hid hg6; have HN6 := Lib.hid hn6; clear hb6 ho6 hg6 hn6)
  all_goals
    have hz6 : w1.heap.size ≤ w6.heap.size := HG6.out.size
    have hV6 : (Value.slice A6 m6 c6).ownBlock ≠ some cb := by
      rcases HN6.out with h | h
      · rw [h]; exact HNE.out
      · rw [h]; intro e; injection e with e; have : w1.drew.heap.size = w1.heap.size := rfl; omega
    have hno : NewOr w.heap.size (Value.slice Ao mo co).ownBlock (Value.slice A6 m6 c6) := by
      rcases HN6.out with h | h
      · exact .inl h
      · exact .inr ⟨_, h, by show w.heap.size ≤ w1.heap.size; omega⟩
    have hbe := HB6.out.set_ 7 (Value.slice A6 m6 c6)
    have hoe := HO6.out.only ((Only.refl (g := cb) w6).set_ 7 (Value.slice A6 m6 c6)) hV6
    have hgo : ∀ k, Stay w.heap.size cb (Value.slice Ao mo co).ownBlock k → k < w1.drew.heap.size ∧ (Value.slice Ao mo co).ownBlock ≠ some k := fun k hk => ⟨by show k < w1.heap.size; rw [hs1]; exact hk.1, hk.2.2⟩
    have hse := (((HS1.out.drewN 1).grown (show (w1.drewN 1).grownBy w6 _ from HG6.out) hgo)).set_ (p := ⟨cb, 7, none⟩) (fun h => h.2.1 rfl) (Value.slice A6 m6 c6)
    go_wp2_with fail
    refine bodyPost_end (v := .tuple #[]) (by simp [results, show (Tryz.f96).results = #[] from rfl]) rfl ?_
    exact PO.out _ (Value.slice A6 m6 c6) hbe hoe hno hse
end Go.Proofs.YtjnjnccfojfghaaGreatDoor

/-! The walk of smtpc's begin where it names a recipient. Condition: the lengths. -/
namespace Go.Proofs.YtjnjnccfojfghaaGreatDoor
open Go.RowKit
set_option linter.unusedVariables false
/-- say, in a world with the client's stage set -/
theorem say_beg2 (w W1 : World) (cb : Nat) (name frm : Tx) (pv bv : Value) (k pos : Nat) (lv ov : Value) (idle : Nat) (well : Bool) (hb1 : Blk W1 cb 72 (cliC name frm pv bv k pos lv ov idle well)) (B : Nat) (hB : B ≤ w.heap.size) (l : Tx) (ho1 : OwnB W1 B 5 ov l) (hne : ov.ownBlock ≠ some cb)
    (hs1 : W1.heap.size = w.heap.size) (s1 : Safe (Stay w.heap.size cb ov.ownBlock) w W1)
    (L : List Tx) (hL : L ≠ []) (n : Nat) (hn : n = L.length) (hln : L.length ≤ 1000) (hlen : l.length + L.flatten.length ≤ 100000000000) (C : Array Value) (hC : C = strC L) :
    Calls Tryz.prog 129 #[.pointer (some ⟨cb, 0, none⟩), .slice (some ⟨w.heap.size, 0, none⟩) n n] (W1.alloc (.cells C 9)) (BegPost w cb name frm pv bv k pos lv idle well B ov.ownBlock (l ++ L.flatten ++ [13, 10])) := by
  subst hC
  have hrs := rs_lit W1 L hL
  rw [hs1] at hrs
  have hgo : ov.ownBlock ≠ some w.heap.size := fun e => by
    have := (World.ownsRow.lt ho1 _ e).2
    omega
  have h := say_walk (W1.alloc (.cells (strC L) 9)) cb (cliC name frm pv bv k pos lv ov idle well) rfl ov rfl (hb1.alloc _) B (by simp; omega) l (ho1.alloc _) hne w.heap.size L n hn (by simp; omega) (by have := hb1.lt; omega) hgo hrs hln hlen
  refine h.mono fun e w' h2 => ?_
  obtain ⟨rfl, v', h3, h4, h5, h6⟩ := h2
  have hsz : (W1.alloc (.cells (strC L) 9)).heap.size = w.heap.size + 1 := by simp; omega
  rw [hsz] at h5 h6
  refine ⟨rfl, v', h3, h4, ?_, ?_⟩
  · rcases h5 with h5 | ⟨q, h5, hq⟩
    · exact .inl h5
    · exact .inr ⟨q, h5, by omega⟩
  · have s2 : Safe (Stay w.heap.size cb ov.ownBlock) w (W1.alloc (.cells (strC L) 9)) := s1.below ((Below.refl _ _).alloc (Nat.le_refl _) _) (fun k hk => by rw [hs1]; exact hk.1)
    exact s2.trans (h6.mono fun k hk => ⟨by have := hk.1; omega, hk.2.1, hk.2.2⟩)
def rcptS : Tx := [82, 67, 80, 84, 32, 84, 79, 58]
set_option maxRecDepth 4000 in
set_option maxHeartbeats 4000000 in
theorem begin_4 (w : World) (cb : Nat) (name frm : Tx) (pb po np cp : Nat) (bv : Value) (stage pos : Nat) (lv ov : Value) (idle : Nat) (well : Bool) (hb : Blk w cb 72 (cliC name frm (.slice (some ⟨pb, po, none⟩) np cp) bv stage pos lv ov idle well)) (B : Nat) (hB : B ≤ w.heap.size) (l : Tx) (ho : OwnB w B 5 ov l) (hne : ov.ownBlock ≠ some cb)
    (ang : Tx) (hpos : pos < np) (hpc : pb ≠ cb) (ha : w.cell? ⟨pb, po + pos * 5, none⟩ = some (.string (bs ang))) (hlen : l.length + ang.length ≤ 10000000000) :
    Calls Tryz.prog 96 #[.pointer (some ⟨cb, 0, none⟩), .int .i64 4] w (BegPost w cb name frm (.slice (some ⟨pb, po, none⟩) np cp) bv 4 pos lv idle well B ov.ownBlock (l ++ (rcptS ++ ang) ++ [13, 10])) := by
  obtain ⟨w1, hw1⟩ : ∃ w1, w.setCell ⟨cb, 4, none⟩ (.int .i64 4) = w1 := ⟨_, rfl⟩
  have hs1 : w1.heap.size = w.heap.size := by rw [← hw1]; simp
  have hb1 : Blk w1 cb 72 (cliC name frm (.slice (some ⟨pb, po, none⟩) np cp) bv 4 pos lv ov idle well) := by rw [← hw1]; exact hb.set_ 4 _
  have ho1 : OwnB w1 B 5 ov l := by rw [← hw1]; exact ho.only ((Only.refl (g := cb) w).set_ 4 (.int .i64 4)) hne
  have hsafe : Safe (Stay w.heap.size cb ov.ownBlock) w w1 := by rw [← hw1]; exact (Safe.refl _ w).set_ (p := ⟨cb, 4, none⟩) (fun h => h.2.1 rfl) _
  have ka : w1.drew.cell? ⟨pb, po + pos * 5, none⟩ = some (.string (bs ang)) := by
    rw [← hw1]
    exact (World.cell?_setCell_far w ⟨cb, 4, none⟩ ⟨pb, po + pos * 5, none⟩ _ (fun e => hpc e.symm)).trans ha
  have K0 := say_beg2 w w1.drew cb name frm (.slice (some ⟨pb, po, none⟩) np cp) bv 4 pos lv ov idle well hb1 B hB l ho1 hne hs1 (hsafe.drewN 1) [rcptS, ang] (by simp) 2 rfl (by simp) (by simp [rcptS]; omega) #[.string ⟨#[82, 67, 80, 84, 32, 84, 79, 58]⟩, .string (bs ang)] rfl
  have hfl : ([rcptS, ang] : List Tx).flatten = rcptS ++ ang := by simp
  rw [hfl] at K0
  have K1 := K0.mono (fun e w' (h : BegPost _ _ _ _ _ _ _ _ _ _ _ _ _ _ e w') => (⟨h.1, h⟩ : e = .returned (.tuple #[]) ∧ _))
  generalize BegPost w cb name frm (.slice (some ⟨pb, po, none⟩) np cp) bv 4 pos lv idle well B ov.ownBlock (l ++ (rcptS ++ ang) ++ [13, 10]) = Post at *
  have KK : Hid (Calls Tryz.prog 129 #[.pointer (some ⟨cb, 0, none⟩), .slice (some ⟨w.heap.size, 0, none⟩) 2 2] (w1.alloc (.cells #[.string ⟨#[82, 67, 80, 84, 32, 84, 79, 58]⟩, .string (bs ang)] 9)).drew fun e w' => e = .returned (.tuple #[]) ∧ Post e w') := Lib.hid K1
  have k4 : w.cell? ⟨cb, 4, none⟩ = some (.int .i64 (stage : Int)) := hb.cell 4
  have kf := hb.frozen 4
  have k2d : w1.drew.cell? ⟨cb, 2, none⟩ = some (.slice (some ⟨pb, po, none⟩) np cp) := hb1.cell 2
  have k5d : w1.drew.cell? ⟨cb, 5, none⟩ = some (.int .i64 (pos : Int)) := hb1.cell 5
  have hpi : (pos : Int) < (np : Int) := by omega
  have hp0 : (0 : Int) ≤ (pos : Int) := by omega
  clear K0 K1 hb ho hne hB hfl hb1 ho1 hsafe ha
  go_enter Tryz.func96, Tryz.ntmps96
  go_upto_region 9 with fail
  try rw [hw1]
  clear hw1 k4 kf
  go_region_with (first | (go_at_call 129; refine KK.out.mono ?_; rintro e w3 ⟨rfl, hp⟩; have HP := Lib.hid hp; clear hp))
  all_goals
    go_wp2_with fail
    refine bodyPost_end (v := .tuple #[]) (by simp [results, show (Tryz.f96).results = #[] from rfl]) rfl ?_
    exact HP.out
end Go.Proofs.YtjnjnccfojfghaaGreatDoor
