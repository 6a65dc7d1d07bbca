/-
  The walks of both Hops. Conditions: the sizes.
-/
import Derived.Test.YtgbbadbffcjamaaDoorHdS0
namespace Go.Proofs.YtgbbadbffcjamaaDoor
open Go.RowKit
set_option linter.unusedVariables false
def recB (nm : List UInt8) : Bool := nm.map lowC == [114, 101, 99, 101, 105, 118, 101, 100]
/-- how many Received fields there are -/
def hops11 (L : List Fd) : Nat := (L.filter fun g => recB g.nm).length
def smallF (L : List Fd) : Prop := ∀ g ∈ L, g.nm.length ≤ 2000000 ∧ g.bd.length ≤ 2000000 ∧ g.fr ≤ 2000000 ∧ g.tt ≤ 2000000
theorem hops_take {L : List Fd} {j : Nat} {g : Fd} (h : L[j]? = some g) : hops11 (L.take (j + 1)) = hops11 (L.take j) + (if recB g.nm = true then 1 else 0) := by
  obtain ⟨hj, rfl⟩ := List.getElem?_eq_some_iff.1 h
  unfold hops11
  rw [List.take_succ_eq_append_getElem hj, List.filter_append, List.length_append]
  congr 1
  by_cases hb : recB L[j].nm = true
  · rw [if_pos hb]; simp [List.filter_cons, hb]
  · rw [if_neg hb]; simp [List.filter_cons, hb]
theorem hops_le (L : List Fd) : hops11 L ≤ L.length := List.length_filter_le _ _
theorem same_rec (nm : List UInt8) : sameB ⟨nm.toArray⟩ ⟨#[82, 101, 99, 101, 105, 118, 101, 100]⟩ = recB nm := rfl
theorem rsame_rec (nm : List UInt8) : sameB ⟨nm.toArray⟩ ⟨#[114, 101, 99, 101, 105, 118, 101, 100]⟩ = recB nm := rfl
set_option maxHeartbeats 1000000 in
theorem hops_walk (w : World) (A : Option Addr) (L : List Fd) (n c : Nat) (hn : n = L.length) (hr : RF w w.heap.size A L) (hL : smallF L) (hl : n ≤ 2000000) :
    Calls Tryd.prog 13 #[.slice A n c] w fun e w' => Below w.heap.size w w' ∧ e = .returned (.int .i64 (hops11 L : Int)) := by
  have HR := Lib.hid hr
  have HN := Lib.hid hn
  have HL := Lib.hid hL
  clear hr hn hL
  go_enter Tryd.func13, Tryd.ntmps13
  go_wp2_with fail
  go_loopg [3, 8] n (fun k s3 s8 wr => ∃ (j cn : Nat), j + k = n ∧ s8 = .int .i64 (j : Int) ∧ s3 = .int .i64 (cn : Int) ∧ cn ≤ j ∧ Hid (cn = hops11 (L.take j)) ∧ Hid (Below w.heap.size w wr))
  case atStart => exact ⟨0, 0, by omega, rfl, rfl, Nat.le_refl _, Lib.hid rfl, Lib.hid (Below.refl _ _)⟩
  case round =>
    obtain ⟨j, cn, hj, rfl, rfl, hcj, H, HB⟩ := hrel
    by_cases hlt : j < n
    · have hj1 : (j : Int) < (n : Int) := by omega
      obtain ⟨g, hg⟩ : ∃ g, L[j]? = some g := ⟨_, List.getElem?_eq_getElem (by rw [← HN.out]; exact hlt)⟩
      obtain ⟨b, off, rfl, hb, hc⟩ := (HR.out.below HB.out).at_ hg
      obtain ⟨c0, c1, c2, c3⟩ := rangeAt_cells hc
      unfold sv at c0 c1
      have hgl := HL.out g (List.mem_of_getElem? hg)
      have KS := Lib.hid fun w' => same_walk ⟨g.nm.toArray⟩ ⟨#[82, 101, 99, 101, 105, 118, 101, 100]⟩ w' (by rw [sv_size]; unfold maxLen; omega) (by decide)
      rw [same_rec] at KS
      have HT := Lib.hid (hops_take hg)
      have HBa := Lib.hid (HB.out.alloc HB.out.size (.cells #[.string ⟨g.nm.toArray⟩, .string ⟨g.bd.toArray⟩, .int .i64 (g.fr : Int), .int .i64 (g.tt : Int)] 29))
      obtain ⟨rb, hrb⟩ : ∃ rb, recB g.nm = rb := ⟨_, rfl⟩
      rw [hrb] at KS HT
      clear hc hg hgl hrb
      generalize (⟨g.nm.toArray⟩ : ByteArray) = sN at *
      generalize (⟨g.bd.toArray⟩ : ByteArray) = sB at *
      go_wp2_with fail
      with_reducible refine (KS.out _).mono ?_
      rintro e2 w2 ⟨hb2, rfl⟩
      have HB2 := Lib.hid (HBa.out.trans (hb2.mono HBa.out.size))
      clear hb2 KS HBa HB c0 c1 c2 c3
      cases rb
      · go_wp2
        go_roundg (gk - 1)
        case rel => exact ⟨j + 1, cn, by omega, by go_num, rfl, by omega, Lib.hid (by rw [HT.out, H.out]; rfl), HB2⟩
        case measure => omega
      · go_wp2
        go_roundg (gk - 1)
        case rel => exact ⟨j + 1, cn + 1, by omega, by go_num, by go_num, by omega, Lib.hid (by rw [HT.out, H.out]; rfl), HB2⟩
        case measure => omega
    · have hj1 : ¬ (j : Int) < (n : Int) := by omega
      have HE : Hid (cn = hops11 L) := Lib.hid (by rw [H.out, List.take_of_length_le (by rw [← HN.out]; omega)])
      clear H
      go_wp2
      go_ret
      exact ⟨HB.out, by rw [← HE.out]; rfl⟩
set_option maxHeartbeats 1000000 in
theorem rhops_walk (w : World) (A : Option Addr) (L : List Fd) (n c : Nat) (hn : n = L.length) (hr : RF w w.heap.size A L) (hL : smallF L) (hl : n ≤ 2000000) :
    Calls Tryd.prog 14 #[.slice A n c] w fun e w' => Below w.heap.size w w' ∧ e = .returned (.int .i64 (hops11 L : Int)) := by
  have HR := Lib.hid hr
  have HN := Lib.hid hn
  have HL := Lib.hid hL
  clear hr hn hL
  go_enter Tryd.func14, Tryd.ntmps14
  go_wp2_with fail
  go_loopg [3, 4] n (fun k s3 s8 wr => ∃ (j cn : Nat), j + k = n ∧ s8 = .int .i64 (j : Int) ∧ s3 = .int .i64 (cn : Int) ∧ cn ≤ j ∧ Hid (cn = hops11 (L.take j)) ∧ Hid (Below w.heap.size w wr))
  case atStart => exact ⟨0, 0, by omega, rfl, rfl, Nat.le_refl _, Lib.hid rfl, Lib.hid (Below.refl _ _)⟩
  case round =>
    obtain ⟨j, cn, hj, rfl, rfl, hcj, H, HB⟩ := hrel
    by_cases hlt : j < n
    · have hj1 : (j : Int) < (n : Int) := by omega
      obtain ⟨g, hg⟩ : ∃ g, L[j]? = some g := ⟨_, List.getElem?_eq_getElem (by rw [← HN.out]; exact hlt)⟩
      obtain ⟨b, off, rfl, hb, hc⟩ := (HR.out.below HB.out).at_ hg
      obtain ⟨c0, c1, c2, c3⟩ := rangeAt_cells hc
      unfold sv at c0 c1
      have hgl := HL.out g (List.mem_of_getElem? hg)
      have KS := Lib.hid fun w' => rsame_walk ⟨g.nm.toArray⟩ ⟨#[114, 101, 99, 101, 105, 118, 101, 100]⟩ w' (by rw [sv_size]; unfold maxLen; omega) (by decide)
      rw [rsame_rec] at KS
      have HT := Lib.hid (hops_take hg)
      obtain ⟨rb, hrb⟩ : ∃ rb, recB g.nm = rb := ⟨_, rfl⟩
      rw [hrb] at KS HT
      clear hc hg hgl hrb
      generalize (⟨g.nm.toArray⟩ : ByteArray) = sN at *
      go_wp2_with fail
      with_reducible refine (KS.out _).mono ?_
      rintro e2 w2 ⟨hb2, rfl⟩
      have HB2 := Lib.hid (HB.out.trans (hb2.mono HB.out.size))
      clear hb2 KS HB c0 c1 c2 c3
      cases rb
      · go_wp2
        go_roundg (gk - 1)
        case rel => exact ⟨j + 1, cn, by omega, by go_num, rfl, by omega, Lib.hid (by rw [HT.out, H.out]; rfl), HB2⟩
        case measure => omega
      · go_wp2
        go_roundg (gk - 1)
        case rel => exact ⟨j + 1, cn + 1, by omega, by go_num, by go_num, by omega, Lib.hid (by rw [HT.out, H.out]; rfl), HB2⟩
        case measure => omega
    · have hj1 : ¬ (j : Int) < (n : Int) := by omega
      have HE : Hid (cn = hops11 L) := Lib.hid (by rw [H.out, List.take_of_length_le (by rw [← HN.out]; omega)])
      clear H
      go_wp2
      go_ret
      exact ⟨HB.out, by rw [← HE.out]; rfl⟩
end Go.Proofs.YtgbbadbffcjamaaDoor
