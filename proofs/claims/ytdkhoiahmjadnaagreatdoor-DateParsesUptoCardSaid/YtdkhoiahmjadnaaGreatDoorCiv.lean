/-
  The walks of both Civils. No condition but the numbers' bounds.
-/
import Derived.Test.YtdkhoiahmjadnaaGreatDoorMon
import Derived.Deep.CutBlock
import Derived.Deep.DeepCutAuto
namespace Go.Proofs.YtdkhoiahmjadnaaGreatDoor
open Go.RowKit Go.Sort
set_option linter.unusedVariables false

def civA (t : Int) : Array Value := if t < 0 ∨ 253402300799 < t then #[.int .i64 0, .int .i64 0, .int .i64 0, .int .i64 0, .int .i64 0, .int .i64 0] else
  #[.int .i64 (civY (t / 86400)), .int .i64 (civM (t / 86400)), .int .i64 (civD (t / 86400)), .int .i64 (t % 86400 / 3600), .int .i64 (t % 86400 / 60 % 60), .int .i64 (t % 86400 % 60)]
theorem res_arr {fn : Func} (hfn : fn.results = #[.cell 2 23, .tmp 3]) {tm : Array Value} {W : World} {g : Nat} {a b c d e f x : Value} (hb : Blk W g 23 #[a, b, c, d, e, f]) (h2 : tm[2]?.getD undef = .pointer (some ⟨g, 0, none⟩)) (h3 : tm[3]?.getD undef = x) :
    (results fn tm).run Tryz.prog W = .ok (.tuple #[.agg #[a, b, c, d, e, f], x]) W := by
  have k0 : W.cell? ⟨g, 0, none⟩ = some a := hb.cell 0
  have k1 : W.cell? ⟨g, 1, none⟩ = some b := hb.cell 1
  have k2 : W.cell? ⟨g, 2, none⟩ = some c := hb.cell 2
  have k3 : W.cell? ⟨g, 3, none⟩ = some d := hb.cell 3
  have k4 : W.cell? ⟨g, 4, none⟩ = some e := hb.cell 4
  have k5 : W.cell? ⟨g, 5, none⟩ = some f := hb.cell 5
  simp [results, hfn, h2, h3, k0, k1, k2, k3, k4, k5, go_sem]
set_option maxHeartbeats 2000000 in
theorem civ_walk (t : Int) (w : World) (h0 : -9223372036854775808 ≤ t) (h1 : t ≤ 9223372036854775807) :
    Calls Tryz.prog 9 #[.int .i64 t] w fun e w' => Below w.heap.size w w' ∧ e = .returned (.tuple #[.agg (civA t), .int .i64 (dayE t)]) := by
  by_cases hb : t < 0 ∨ 253402300799 < t
  · have e1 : Hid (civA t = _) := Lib.hid (if_pos hb)
    have e2 : Hid (dayE t = 130) := Lib.hid (if_pos hb)
    rw [e1.out, e2.out]
    rcases hb with hb | hb
    · go_enter Tryz.func9, Tryz.ntmps9
      go_wp2
      exact bodyPost_ret (res_arr rfl (Blk.new w _ _) rfl rfl) rfl ⟨(Below.refl _ _).alloc (Nat.le_refl _) _, rfl⟩
    · have hb2 : 0 ≤ t := by omega
      go_enter Tryz.func9, Tryz.ntmps9
      go_wp2
      exact bodyPost_ret (res_arr rfl (Blk.new w _ _) rfl rfl) rfl ⟨(Below.refl _ _).alloc (Nat.le_refl _) _, rfl⟩
  · have e1 : Hid (civA t = _) := Lib.hid (if_neg hb)
    have e2 : Hid (dayE t = 0) := Lib.hid (if_neg hb)
    have hb2 : 0 ≤ t := by omega
    have hb3 : t ≤ 253402300799 := by omega
    rw [e2.out]
    generalize civA t = VA at *
    clear hb
    have n0 : 0 ≤ t / 86400 := by omega
    have n1 : t / 86400 ≤ 2932896 := by omega
    have r0 : 0 ≤ t % 86400 := by omega
    have r1 : t % 86400 < 86400 := by omega
    have hr : 0 ≤ cR (t / 86400) := by unfold cR; omega
    have hr2 : cR (t / 86400) < 146097 := by unfold cR; omega
    obtain ⟨y0, y1, y2, y3⟩ := cY_ok hr hr2
    have he : Hid ((t / 86400 + 719468) / 146097 = cE (t / 86400)) := Lib.hid rfl
    have hrr : Hid ((t / 86400 + 719468) % 146097 = cR (t / 86400)) := Lib.hid rfl
    have hyy : Hid (∀ r, (r - r / 1460 + r / 36524 - r / 146096) / 365 = cY r) := Lib.hid fun _ => rfl
    have hdd : Hid (∀ r, r - (365 * cY r + cY r / 4 - cY r / 100) = cD r) := Lib.hid fun _ => rfl
    have hmm : Hid (∀ r, (5 * cD r + 2) / 153 = cM r) := Lib.hid fun _ => rfl
    have ce0 : 0 ≤ cE (t / 86400) := by unfold cE; omega
    have ce1 : cE (t / 86400) ≤ 30 := by unfold cE; omega
    go_enter Tryz.func9, Tryz.ntmps9
    go_upto_region 6 with fail
    rw [he.out, hrr.out]
    go_upto_region 7 with fail
    rw [hyy.out]
    go_upto_region 8 with fail
    rw [hdd.out]
    have q4 : (cY (cR (t / 86400)) + 1) / 4 ≤ cY (cR (t / 86400)) / 4 + 1 := by omega
    have q100 : cY (cR (t / 86400)) / 100 ≤ (cY (cR (t / 86400)) + 1) / 100 := by omega
    have q400 : (cY (cR (t / 86400)) + 1) / 400 ≤ 1 := by omega
    have d0 : 0 ≤ cD (cR (t / 86400)) := by unfold cD; omega
    have d1 : cD (cR (t / 86400)) ≤ 400 := by unfold cD; omega
    clear q4 q100 q400 y2 y3 hr hr2
    go_upto_region 9 with fail
    rw [hmm.out]
    have m0 : 0 ≤ cM (cR (t / 86400)) := by unfold cM; omega
    have m1 : cM (cR (t / 86400)) ≤ 20 := by unfold cM; omega
    have HYV : Hid (civY (t / 86400) = if 12 < cM (cR (t / 86400)) + 3 then cY (cR (t / 86400)) + 400 * cE (t / 86400) + 1 else cY (cR (t / 86400)) + 400 * cE (t / 86400)) := Lib.hid rfl
    have HMV : Hid (civM (t / 86400) = if 12 < cM (cR (t / 86400)) + 3 then cM (cR (t / 86400)) + 3 - 12 else cM (cR (t / 86400)) + 3) := Lib.hid rfl
    have HDV : Hid (civD (t / 86400) = cD (cR (t / 86400)) - (153 * cM (cR (t / 86400)) + 2) / 5 + 1) := Lib.hid rfl
    clear he hrr hyy hdd hmm n0 n1
    generalize cD (cR (t / 86400)) = D at *
    generalize cM (cR (t / 86400)) = M at *
    generalize cY (cR (t / 86400)) = Y at *
    generalize cE (t / 86400) = E at *
    generalize civY (t / 86400) = VY at *
    generalize civM (t / 86400) = VM at *
    generalize civD (t / 86400) = VD at *
    generalize t % 86400 = R at *
    by_cases hm : 12 < M + 3
    · have e3 := HYV.out
      have e4 := HMV.out
      rw [if_pos hm] at e3 e4
      have E3 := Lib.hid e3
      have E4 := Lib.hid e4
      clear e3 e4
      go_wp2
      refine bodyPost_ret (res_arr rfl (Blk.new w _ _) rfl rfl) rfl ⟨(Below.refl _ _).alloc (Nat.le_refl _) _, ?_⟩
      rw [e1.out, E3.out, E4.out, HDV.out]
      rfl
    · have e3 := HYV.out
      have e4 := HMV.out
      rw [if_neg hm] at e3 e4
      have E3 := Lib.hid e3
      have E4 := Lib.hid e4
      clear e3 e4
      go_wp2
      refine bodyPost_ret (res_arr rfl (Blk.new w _ _) rfl rfl) rfl ⟨(Below.refl _ _).alloc (Nat.le_refl _) _, ?_⟩
      rw [e1.out, E3.out, E4.out, HDV.out]
      rfl
end Go.Proofs.YtdkhoiahmjadnaaGreatDoor
