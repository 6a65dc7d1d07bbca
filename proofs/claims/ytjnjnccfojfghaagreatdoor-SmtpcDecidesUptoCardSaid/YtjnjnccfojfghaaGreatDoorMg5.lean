/-
  Several texts in one: ScLow, Split, ScDom, ScDot, Feed. Conditions: each part names its own.
-/
import Derived.Test.YtjnjnccfojfghaaGreatDoorMg4
import Derived.Test.YtjnjnccfojfghaaGreatDoorMg1
import Derived.Lib.SplitLaws
import Derived.Test.YtjnjnccfojfghaaGreatDoorMg3
import Derived.Test.YtjnjnccfojfghaaGreatDoorProg
set_option linter.unusedSimpArgs false
/-! The walk of path.lower. Condition: the text's length. -/
namespace Go.Proofs.YtjnjnccfojfghaaGreatDoor
open Go.RowKit
set_option linter.unusedVariables false
set_option maxHeartbeats 1000000 in
theorem turned_walk (l : Tx) (w : World) (hs : l.length ≤ 1099511627776) :
    Calls Tryz.prog 76 #[.string (bs l), .string (bs uppS), .string (bs lowS)] w fun e w' => Below w.heap.size w w' ∧ e = .returned (.string (bs (l.map lowC))) := by
  have hcv := conv_sb6 w (bs l)
  have ho := OwnW.conv w 5 (bs l) w.heap.size (by rw [bs_size]; unfold maxLen; omega) (Nat.le_refl _)
  have hb := below_bytesWorld w 5 (bs l)
  rw [bs_size] at hcv ho
  rw [bs_list] at ho
  generalize grownCap w l.length 0 5 = cp at *
  have ho : OwnW (Lib.bytesWorld w 5 (bs l)) w.heap.size (.slice (some ⟨w.heap.size, 0, none⟩) l.length cp) (lowK l 0) := by rw [lowK_zero]; exact ho
  have hR : l.map lowC = lowK l l.length := (lowK_end l).symm
  rw [hR]
  have OW := Lib.hid ho
  have HB := Lib.hid hb
  have KI := Lib.hid (fun c W => idxB_walk uppS c W)
  have hcl := fun (W : World) (h : RB W W.heap.size (some ⟨w.heap.size, 0, none⟩) (lowK l l.length)) => run_convRB (P := Tryz.prog) 25 9 5 Tryz.underlying25 Tryz.underlying5 Tryz.underlying9 h l.length cp (lowK_len l _).symm
  have HCL := Lib.hid hcl
  have hlsz : (bs lowS).size = 26 := rfl
  clear ho hb hR hcl
  go_enter Tryz.func76, Tryz.ntmps76
  go_upto_region 2 with fail
  generalize hW : Lib.bytesWorld w 5 (bs l) = W at *
  clear hW hcv
  go_wp2_with fail
  go_loopg [8, 9, 10, 15] l.length (fun k s8 s9 s10 i wr => ∃ (j : Nat), j + k = l.length ∧ i = .int .i64 j ∧ Hid (Below w.heap.size w wr) ∧ Hid (OwnW wr w.heap.size (.slice (some ⟨w.heap.size, 0, none⟩) l.length cp) (lowK l j)))
  case atStart => exact ⟨0, by omega, rfl, HB, OW⟩
  case round =>
    obtain ⟨j, hj, rfl, HB2, OW2⟩ := hrel
    clear HB OW
    by_cases hlt : j < l.length
    · have hj1 : (j : Int) < (l.length : Int) := by omega
      obtain ⟨g, hg, -, hc, hf⟩ := OW2.out.byte (k := j) (by rw [lowK_len]; exact hlt)
      obtain rfl : w.heap.size = g := by injection hg with hg; injection hg
      rw [lowK_at l hlt] at hc
      have OS := fun (z : UInt8) => OW2.out.put (k := j) (by rw [lowK_len]; exact hlt) z
      have HST := Lib.hid (lowK_set l hlt)
      have HSM := Lib.hid (fun h => lowK_same l hlt h)
      have HLC : Hid (¬ (65 ≤ l[j].toNat ∧ l[j].toNat ≤ 90) → lowC l[j] = l[j]) := Lib.hid fun h => if_neg h
      have KI2 := Lib.hid (KI.out l[j])
      obtain ⟨hu1, hu2⟩ := upp_all l[j]
      generalize l[j] = x at *
      have HJ := Lib.hid hj
      have HLT := Lib.hid hlt
      clear hg
      by_cases h65 : 65 ≤ x.toNat ∧ x.toNat ≤ 90
      · obtain ⟨h1, h2⟩ := hu1 h65
        obtain ⟨m, hm⟩ : ∃ m, x.toNat - 65 = m := ⟨_, rfl⟩
        rw [hm] at h1 h2
        have hm26 : m < 26 := by omega
        have hm2 : m < (bs lowS).size := by rw [hlsz]; exact hm26
        have hmi : (m : Int) < ((bs lowS).size : Int) := by rw [hlsz]; omega
        have hgv : (bs lowS)[m]'hm2 = lowC x := by
          obtain ⟨h3, h4⟩ := List.getElem?_eq_some_iff.1 h2
          exact h4
        have hm0 : (0 : Int) ≤ (m : Int) := by omega
        rw [h1] at KI2
        have OP := OS (lowC x)
        rw [HST.out] at OP
        have OP2 := Lib.hid OP
        clear OS OP OW2 HLC HSM hu1 hu2 h65 h1 h2 hm hj hlt
        go_wp2_with fail
        refine (KI2.out _).mono ?_
        rintro e w2 ⟨rfl, rfl⟩
        go_wp2_with fail
        go_roundg (gk - 1)
        case rel => exact ⟨j + 1, by have := HJ.out; have := HLT.out; omega, by go_num, Lib.hid (HB2.out.setCell (Nat.le_refl _) _), OP2⟩
        case measure => have := HJ.out; have := HLT.out; omega
      · have h1 := hu2 h65
        rw [h1] at KI2
        have HE := Lib.hid (HSM.out (HLC.out h65))
        clear OS HLC HSM HST hu1 hu2 h65 h1 hj hlt
        go_wp2_with fail
        refine (KI2.out _).mono ?_
        rintro e w2 ⟨rfl, rfl⟩
        go_wp2_with fail
        go_roundg (gk - 1)
        case rel => exact ⟨j + 1, by have := HJ.out; have := HLT.out; omega, by go_num, HB2, Lib.hid (HE.out ▸ OW2.out)⟩
        case measure => have := HJ.out; have := HLT.out; omega
    · have hj1 : ¬ (j : Int) < (l.length : Int) := by omega
      obtain rfl : j = l.length := by omega
      obtain ⟨A, c, e, -, -, hr⟩ := OW2.out.out
      injection e with e1 e2 e3
      subst e1
      have hcl := HCL.out wr hr
      clear hr HCL hj hlt e2 e3
      go_wp2_with fail
      go_ret
      exact ⟨HB2.out, rfl⟩
theorem lower_walk (l : Tx) (w : World) (hs : l.length ≤ 1099511627776) :
    Calls Tryz.prog 45 #[.string (bs l)] w fun e w' => Below w.heap.size w w' ∧ e = .returned (.string (bs (l.map lowC))) := by
  have K := Lib.hid (turned_walk l w hs)
  unfold uppS lowS at K
  have hu : bs [65, 66, 67, 68, 69, 70, 71, 72, 73, 74, 75, 76, 77, 78, 79, 80, 81, 82, 83, 84, 85, 86, 87, 88, 89, 90] = ⟨#[65, 66, 67, 68, 69, 70, 71, 72, 73, 74, 75, 76, 77, 78, 79, 80, 81, 82, 83, 84, 85, 86, 87, 88, 89, 90]⟩ := rfl
  have hl : bs [97, 98, 99, 100, 101, 102, 103, 104, 105, 106, 107, 108, 109, 110, 111, 112, 113, 114, 115, 116, 117, 118, 119, 120, 121, 122] = ⟨#[97, 98, 99, 100, 101, 102, 103, 104, 105, 106, 107, 108, 109, 110, 111, 112, 113, 114, 115, 116, 117, 118, 119, 120, 121, 122]⟩ := rfl
  rw [hu, hl] at K
  generalize bs (l.map lowC) = R at *
  clear hu hl
  go_enter Tryz.func45, Tryz.ntmps45
  go_wp2_with fail
  refine K.out.mono ?_
  rintro e w2 ⟨hb, rfl⟩
  have HB := Lib.hid hb
  clear hb K
  go_wp2_with fail
  go_ret
  exact ⟨HB.out, rfl⟩
end Go.Proofs.YtjnjnccfojfghaaGreatDoor

/-! A text cut at one byte: what strings.Split makes of it, as a plain recursion. No program in sight. No condition. -/
namespace Go.Proofs.YtjnjnccfojfghaaGreatDoor
set_option linter.unusedVariables false

/-- the parts between the bytes c -/
def cutC (c : UInt8) : List UInt8 → List (List UInt8)
  | [] => [[]]
  | x :: r => if x = c then [] :: cutC c r else match cutC c r with
    | [] => [[x]]
    | h :: t => (x :: h) :: t
theorem cutC_eq (c : UInt8) (r : List UInt8) : cutC c (c :: r) = [] :: cutC c r := if_pos rfl
theorem cutC_some (c : UInt8) : ∀ l, ∃ h t, cutC c l = h :: t
  | [] => ⟨[], [], rfl⟩
  | x :: r => by
    obtain ⟨h, t, e⟩ := cutC_some c r
    by_cases hx : x = c
    · exact ⟨[], _, if_pos hx⟩
    · exact ⟨x :: h, t, by rw [cutC, if_neg hx, e]⟩
theorem cutC_ne {c x : UInt8} (hx : ¬ x = c) {r h : List UInt8} {t : List (List UInt8)} (e : cutC c r = h :: t) : cutC c (x :: r) = (x :: h) :: t := by
  rw [cutC, if_neg hx, e]
theorem idx_eq (c : UInt8) (r : List UInt8) : Lib.index (c :: r) [c] = 0 := by rw [Lib.index]; simp [List.isPrefixOf]
theorem idx_ne {c x : UInt8} (hx : ¬ x = c) (r : List UInt8) : Lib.index (x :: r) [c] = if Lib.index r [c] = -1 then -1 else Lib.index r [c] + 1 := by
  have hp : ([c] : List UInt8).isPrefixOf (x :: r) = false := by simp [List.isPrefixOf, Ne.symm hx]
  rw [Lib.index, hp]; simp
theorem idx_no {c : UInt8} : ∀ {r : List UInt8}, Lib.index r [c] = -1 → cutC c r = [r]
  | [], _ => rfl
  | x :: r, h => by
    by_cases hx : x = c
    · subst hx; rw [idx_eq] at h; exact absurd h (by decide)
    · rw [idx_ne hx] at h
      have hg := Lib.index_ge r [c]
      have h1 : Lib.index r [c] = -1 := by
        split at h
        · assumption
        · omega
      exact cutC_ne hx (idx_no h1)
theorem count_no {c : UInt8} {r : List UInt8} (h : Lib.index r [c] = -1) : Lib.count r [c] = 0 := Lib.count_miss h
theorem split_cutC (c : UInt8) : ∀ l : List UInt8, Lib.split l [c] = cutC c l
  | [] => rfl
  | x :: r => by
    have ih := split_cutC c r
    unfold Lib.split at ih ⊢
    by_cases hx : x = c
    · subst hx
      rw [Lib.count_cons_eq, Nat.add_comm, Lib.splitK, idx_eq, cutC_eq, ← ih]
      rfl
    · rw [Lib.count_cons_ne x c r hx]
      by_cases h1 : Lib.index r [c] = -1
      · rw [count_no h1, cutC_ne hx (idx_no h1)]
        rfl
      · have hg := Lib.index_ge r [c]
        obtain ⟨j, hj⟩ : ∃ j : Nat, Lib.index r [c] = j := ⟨(Lib.index r [c]).toNat, by omega⟩
        have hc := Lib.count_hit (sub := [c]) (s := r) (i := j) (by simp) hj
        rw [hc, Nat.add_comm] at ih ⊢
        rw [Lib.splitK] at ih ⊢
        rw [hj] at ih
        rw [idx_ne hx, if_neg h1, hj]
        have b1 : ((j : Int) == -1) = false := beq_eq_false_iff_ne.2 (by omega)
        have b2 : ((j : Int) + 1 == -1) = false := beq_eq_false_iff_ne.2 (by omega)
        rw [b1] at ih
        rw [b2]
        simp only [Bool.false_eq_true, if_false] at ih ⊢
        rw [cutC_ne hx ih.symm]
        have e1 : ((j : Int) + 1).toNat = j + 1 := by omega
        have e2 : (j : Int).toNat = j := by omega
        rw [e1, e2]
        simp [Nat.add_right_comm j 1 1]
theorem splitB_cutC (c : UInt8) (s : ByteArray) : (Lib.splitB ⟨#[c]⟩ 0 (Lib.countB s ⟨#[c]⟩) s).map (·.data.toList) = cutC c s.data.toList := by
  rw [Lib.splitB_data, ← split_cutC]
  rfl
/-- they join to the text, and hold no c -/
def joinC (c : UInt8) : List (List UInt8) → List UInt8
  | [] => []
  | h :: t => h ++ (match t with
    | [] => []
    | x :: y => c :: joinC c (x :: y))
theorem joinC_one (c : UInt8) (h : List UInt8) : joinC c [h] = h := by simp [joinC]
theorem joinC_two (c : UInt8) (h x : List UInt8) (y : List (List UInt8)) : joinC c (h :: x :: y) = h ++ c :: joinC c (x :: y) := by rw [joinC]
theorem joinC_cons (c x : UInt8) (h : List UInt8) (t : List (List UInt8)) : joinC c ((x :: h) :: t) = x :: joinC c (h :: t) := by
  cases t with
  | nil => rw [joinC_one, joinC_one]
  | cons a b => rw [joinC_two, joinC_two]; rfl
theorem join_cutC (c : UInt8) : ∀ l, joinC c (cutC c l) = l ∧ ∀ p ∈ cutC c l, c ∉ p
  | [] => ⟨rfl, by simp [cutC]⟩
  | x :: r => by
    obtain ⟨h1, h2⟩ := join_cutC c r
    obtain ⟨h, t, e⟩ := cutC_some c r
    rw [e] at h1 h2
    by_cases hx : x = c
    · subst hx
      rw [cutC_eq, e, joinC_two, h1]
      refine ⟨rfl, fun p hp => ?_⟩
      rcases List.mem_cons.1 hp with rfl | hp
      · simp
      · exact h2 p hp
    · rw [cutC_ne hx e, joinC_cons, h1]
      refine ⟨rfl, fun p hp => ?_⟩
      rcases List.mem_cons.1 hp with rfl | hp
      · intro hm
        rcases List.mem_cons.1 hm with rfl | hm
        · exact hx rfl
        · exact h2 h (by simp) hm
      · exact h2 p (by simp [hp])
end Go.Proofs.YtjnjnccfojfghaaGreatDoor

/-! The walks of strings.Split at one byte, path.named, path.dotted. Condition: the texts' lengths, the cell at block 0. -/
namespace Go.Proofs.YtjnjnccfojfghaaGreatDoor
open Go.RowKit
set_option linter.unusedVariables false
def splC (c : UInt8) (s : ByteArray) : List ByteArray := Lib.splitB ⟨#[c]⟩ 0 (Lib.countB s ⟨#[c]⟩) s
theorem splC_eq (c : UInt8) (l : Tx) : splC c (bs l) = (cutC c l).map bs := by
  have h := splitB_cutC c (bs l)
  rw [bs_list] at h
  rw [← h, List.map_map]
  unfold splC
  refine (List.map_id _).symm.trans (List.map_congr_left fun x _ => ?_)
  exact (bs_of x).symm
theorem splC_len (c : UInt8) (l : Tx) : Lib.countB (bs l) ⟨#[c]⟩ + 1 = (cutC c l).length := by
  have h : (splC c (bs l)).length = Lib.countB (bs l) ⟨#[c]⟩ + 1 := Lib.splitB_all ⟨#[c]⟩ (Nat.le_refl 1) 0 _ (bs l) rfl
  rw [← h, splC_eq, List.length_map]
theorem cutC_len_le (c : UInt8) : ∀ l : Tx, (cutC c l).length ≤ l.length + 1
  | [] => by simp [cutC]
  | x :: r => by
    have ih := cutC_len_le c r
    obtain ⟨h, t, e⟩ := cutC_some c r
    by_cases hx : x = c
    · subst hx; rw [cutC_eq, List.length_cons, List.length_cons]; omega
    · rw [cutC_ne hx e]; rw [e] at ih; simp only [List.length_cons] at ih ⊢; omega
theorem cutC_part_le (c : UInt8) : ∀ l : Tx, ∀ x ∈ cutC c l, x.length ≤ l.length
  | [], x, hx => by
    rw [cutC, List.mem_singleton] at hx
    subst hx
    exact Nat.le_refl _
  | y :: r, x, hx => by
    have ih := cutC_part_le c r
    obtain ⟨h, t, e⟩ := cutC_some c r
    by_cases hy : y = c
    · subst hy
      rw [cutC_eq] at hx
      rcases List.mem_cons.1 hx with rfl | hx
      · simp
      · have := ih x hx
        simp; omega
    · rw [cutC_ne hy e] at hx
      rw [e] at ih
      rcases List.mem_cons.1 hx with rfl | hx
      · have := ih h (by simp)
        simpa using this
      · have := ih x (by simp [hx])
        simp; omega
theorem splC_walk (c : UInt8) (l : Tx) (m : Int) (w : World) (hm : w.cell? ⟨0, 0, none⟩ = some (.int .i64 m)) (hs : l.length ≤ 1073741824) :
    Calls Tryz.prog 83 #[.string (bs l), .string (bs [c])] w fun e w' => Below w.heap.size w w' ∧ e = .returned (.slice (some ⟨w.heap.size, 0, none⟩) (cutC c l).length (cutC c l).length) ∧
      OwnS w' w.heap.size 9 (.slice (some ⟨w.heap.size, 0, none⟩) (cutC c l).length (cutC c l).length) ((cutC c l).map bs) := by
  have hsz : (bs l).size < 4294967281 := by rw [bs_size]; omega
  refine (Tryz.strings_Split (bs l) (bs [c]) m w hsz hm (by simp [bs_size])).mono ?_
  rintro e w2 ⟨rfl, rfl⟩
  have h1 := splC_len c l
  have h2 := splC_eq c l
  have h3 := cutC_len_le c l
  have hb : bs [c] = ⟨#[c]⟩ := rfl
  rw [hb]
  unfold splC at h2
  rw [h1, h2]
  refine ⟨(Below.refl _ _).alloc (Nat.le_refl _) _, rfl, ?_⟩
  have hle : ((cutC c l).map bs).length ≤ maxLen := by
    rw [List.length_map]
    simp only [maxLen]
    omega
  have h := World.ownsRow_lit (base := w.heap.size) (e := 9) (size := 1) w (((cutC c l).map bs).map Value.string).toArray ((cutC c l).map bs).length (Nat.le_refl _) hle (by simp)
  have h4 : ((cutC c l).map bs).length = (cutC c l).length := List.length_map _
  rw [h4] at h
  unfold OwnS
  rw [h4]
  exact h
/-! ### names of domains -/
def letS : Tx := [97, 98, 99, 100, 101, 102, 103, 104, 105, 106, 107, 108, 109, 110, 111, 112, 113, 114, 115, 116, 117, 118, 119, 120, 121, 122, 65, 66, 67, 68, 69, 70, 71, 72, 73, 74, 75, 76, 77, 78, 79, 80, 81, 82, 83, 84, 85, 86, 87, 88, 89, 90, 48, 49, 50, 51, 52, 53, 54, 55, 56, 57, 45]
def labelB (x : Tx) : Bool := !x.isEmpty && (decide (x.length ≤ 63) && (x.all (letS.contains ·) && (x.head? != some 45 && x.getLast? != some 45)))
theorem no45 {a : UInt8} (h : ¬ a = 45) : ((a.toNat : Int) == 45) = false := by
  rw [beq_eq_false_iff_ne]
  intro e
  have h2 : a.toNat = (45 : UInt8).toNat := by have : (45 : UInt8).toNat = 45 := rfl
                                               omega
  exact h (UInt8.toNat_inj.1 h2)
def namedM (l : Tx) : Bool := (cutC 46 l).all labelB
theorem all_stop {L : List Tx} {f : Tx → Bool} {j : Nat} {x : Tx} (hx : L[j]? = some x) (hf : f x = false) : L.all f = false := by
  rw [List.all_eq_false]
  exact ⟨x, List.mem_of_getElem? hx, by simp [hf]⟩
theorem all_all {L : List Tx} {f : Tx → Bool} (h : ∀ i x, i < L.length → L[i]? = some x → f x = true) : L.all f = true := by
  rw [List.all_eq_true]
  intro x hx
  obtain ⟨i, hi, rfl⟩ := List.getElem_of_mem hx
  exact h i _ hi (List.getElem?_eq_getElem hi)
theorem st_map {L : List Tx} {j : Nat} {x : Tx} (hx : L[j]? = some x) : st (L.map bs) j = bs x := by
  unfold st
  rw [List.getD_eq_getElem?_getD, List.getElem?_map, hx]
  rfl
set_option maxHeartbeats 4000000 in
theorem named_walk (l : Tx) (m : Int) (w : World) (hm : w.cell? ⟨0, 0, none⟩ = some (.int .i64 m)) (hs : l.length ≤ 1073741824) :
    Calls Tryz.prog 48 #[.string (bs l)] w fun e w' => Below w.heap.size w w' ∧ e = .returned (.bool (namedM l)) := by
  have KS := Lib.hid (splC_walk 46 l m w hm hs)
  have hF : namedM l = (cutC 46 l).all labelB := rfl
  have hP := Lib.hid (fun x hx => Nat.le_trans (cutC_part_le 46 l x hx) hs)
  have hln : (cutC 46 l).length ≤ 1073741825 := by have := cutC_len_le 46 l; omega
  have KO := Lib.hid (fun x hx W => only_walk x letS (Nat.le_trans (hP.out x hx) (by omega)) W)
  have hp : bs [46] = ⟨#[46]⟩ := rfl
  have hl : bs letS = ⟨#[97, 98, 99, 100, 101, 102, 103, 104, 105, 106, 107, 108, 109, 110, 111, 112, 113, 114, 115, 116, 117, 118, 119, 120, 121, 122, 65, 66, 67, 68, 69, 70, 71, 72, 73, 74, 75, 76, 77, 78, 79, 80, 81, 82, 83, 84, 85, 86, 87, 88, 89, 90, 48, 49, 50, 51, 52, 53, 54, 55, 56, 57, 45]⟩ := rfl
  rw [hl] at KO
  rw [hp] at KS
  obtain ⟨F, hF2⟩ : ∃ F, namedM l = F := ⟨_, rfl⟩
  rw [hF2] at hF ⊢
  have HF := Lib.hid hF
  generalize cutC 46 l = L at *
  clear hF hF2 hl hp
  go_enter Tryz.func48, Tryz.ntmps48
  go_wp2_with fail
  refine KS.out.mono ?_
  rintro e w2 ⟨hb2, rfl, own2⟩
  have HB := Lib.hid hb2
  have RSH := Lib.hid own2.rs
  clear hb2 own2 KS
  go_wp2_with fail
  go_loopg [4, 8] L.length (fun k s4 i wr => ∃ j : Nat, i = .int .i64 (j : Int) ∧ j + k = L.length ∧ Hid (∀ (n : Nat) (x : Tx), n < j → L[n]? = some x → labelB x = true) ∧ wr = w2)
  case atStart => exact ⟨0, rfl, by omega, Lib.hid (fun n x h => absurd h (by omega)), rfl⟩
  case round =>
    obtain ⟨j, rfl, hj, HA, rfl⟩ := hrel
    by_cases hlt : j < L.length
    · obtain ⟨b, off, hA, hB, hcell⟩ := RSH.out.at_ (by rw [List.length_map]; exact hlt)
      obtain ⟨rfl, rfl⟩ : w.heap.size = b ∧ 0 = off := by injection hA with h; injection h with h1 h2; exact ⟨h1, h2⟩
      have cj := hcell j (by rw [List.length_map]; exact hlt)
      obtain ⟨x, hx⟩ : ∃ x, L[j]? = some x := ⟨_, List.getElem?_eq_getElem hlt⟩
      rw [st_map hx, Nat.zero_add] at cj
      have hxl := hP.out x (List.mem_of_getElem? hx)
      have hj1 : (j : Int) < (L.length : Int) := by omega
      have KX := Lib.hid (KO.out x (List.mem_of_getElem? hx))
      have HJ := Lib.hid hj
      have HLT := Lib.hid hlt
      have HX := Lib.hid hx
      have hsz : ((bs x).size : Int) = (x.length : Int) := by rw [bs_size]
      have hsz2 := bs_size x
      clear hA hcell hx hj hlt
      have HFALSE : Hid (labelB x = false → F = false) := Lib.hid fun h => by rw [HF.out]; exact all_stop HX.out h
      cases x with
      | nil =>
        have HR : Hid (F = false) := Lib.hid (HFALSE.out rfl)
        have he : (bs ([] : Tx)).toList = [] := bs_nil []
        go_wp2_with fail
        go_ret
        exact ⟨HB.out, by rw [HR.out]; rfl⟩
      | cons a r =>
        obtain ⟨n, hn⟩ : ∃ n, r.length = n := ⟨_, rfl⟩
        have hne : (bs (a :: r)).toList.isEmpty = false := by rw [bs_nil]; rfl
        have hz1 : n < (a :: r).length := by rw [List.length_cons]; omega
        obtain ⟨z, hz⟩ : ∃ z, (a :: r)[n]'hz1 = z := ⟨_, rfl⟩
        have hlast : (a :: r).getLast? = some z := by
          rw [List.getLast?_eq_getElem?, List.getElem?_eq_some_iff]
          refine ⟨by rw [List.length_cons]; omega, ?_⟩
          rw [← hz]
          congr 1
        have hL : labelB (a :: r) = (decide (n + 1 ≤ 63) && ((a :: r).all (letS.contains ·) && (a != 45 && z != 45))) := by
          unfold labelB
          rw [hlast, List.length_cons, hn]
          rfl
        rw [List.length_cons, hn] at hsz hsz2
        have hg0 : (bs (a :: r))[0]'(by omega) = a := rfl
        have hgn : (bs (a :: r))[n]'(by omega) = z := hz
        have h0 : (0 : Int) < ((bs (a :: r)).size : Int) := by omega
        have hn1 : ((bs (a :: r)).size : Int) - 1 = (n : Int) := by omega
        have hn2 : n < (bs (a :: r)).size := by omega
        have hn3 : (n : Int) < ((bs (a :: r)).size : Int) := by omega
        obtain ⟨B, hB0⟩ : ∃ B, labelB (a :: r) = B := ⟨_, rfl⟩
        have HB1 := Lib.hid hB0
        rw [hB0] at hL HFALSE
        clear hB0
        generalize (a :: r).all (letS.contains ·) = O at *
        have HL := Lib.hid hL
        clear hL hlast hz
        by_cases h63 : n + 1 ≤ 63
        · have h63i : ¬ ((bs (a :: r)).size : Int) > 63 := by omega
          have HL2 : Hid (B = (O && (a != 45 && z != 45))) := Lib.hid (by rw [HL.out, decide_eq_true h63]; rfl)
          clear HL h63
          cases O with
          | false =>
            have HR : Hid (F = false) := Lib.hid (HFALSE.out (by rw [HL2.out]; rfl))
            go_wp2_with fail
            refine (KX.out _).mono ?_
            rintro e w2 ⟨rfl, rfl⟩
            go_wp2_with fail
            go_ret
            exact ⟨HB.out, by rw [HR.out]; rfl⟩
          | true =>
            by_cases ha : a = 45
            · have HR : Hid (F = false) := Lib.hid (HFALSE.out (by rw [HL2.out, ha]; rfl))
              have hai : ((a.toNat : Int) == 45) = true := by rw [ha]; rfl
              clear ha
              go_wp2_with fail
              refine (KX.out _).mono ?_
              rintro e w2 ⟨rfl, rfl⟩
              go_wp2_with fail
              go_ret
              exact ⟨HB.out, by rw [HR.out]; rfl⟩
            · have hai : ((a.toNat : Int) == 45) = false := no45 ha
              have hab : (a != 45) = true := by simpa using ha
              clear ha
              by_cases hz : z = 45
              · have HR : Hid (F = false) := Lib.hid (HFALSE.out (by rw [HL2.out, hab, hz]; rfl))
                have hzi : ((z.toNat : Int) == 45) = true := by rw [hz]; rfl
                clear hz hab
                go_wp2_with fail
                refine (KX.out _).mono ?_
                rintro e w2 ⟨rfl, rfl⟩
                go_wp2_with fail
                go_ret
                exact ⟨HB.out, by rw [HR.out]; rfl⟩
              · have hzi : ((z.toNat : Int) == 45) = false := no45 hz
                have hzb : (z != 45) = true := by simpa using hz
                have HT : Hid (B = true) := Lib.hid (by rw [HL2.out, hab, hzb]; rfl)
                clear hz hzb hab
                go_wp2_with fail
                refine (KX.out _).mono ?_
                rintro e w2 ⟨rfl, rfl⟩
                go_wp2_with fail
                go_roundg (gk - 1)
                case rel => exact ⟨j + 1, by go_num, by have := HJ.out; have := HLT.out; omega, Lib.hid (fun i d hi hd => by
                  by_cases hin : i < j
                  · exact HA.out i d hin hd
                  · obtain rfl : i = j := by omega
                    rw [HX.out] at hd
                    obtain rfl := Option.some.inj hd
                    exact HB1.out.trans HT.out), rfl⟩
                case measure => have := HJ.out; have := HLT.out; omega
        · have h63i : ((bs (a :: r)).size : Int) > 63 := by omega
          have HR : Hid (F = false) := Lib.hid (HFALSE.out (by rw [HL.out, decide_eq_false h63]; rfl))
          go_wp2_with fail
          go_ret
          exact ⟨HB.out, by rw [HR.out]; rfl⟩
    · have hj1 : ¬ (j : Int) < (L.length : Int) := by omega
      have HR : Hid (F = true) := Lib.hid (by rw [HF.out]; exact all_all (fun i x hi hx => HA.out i x (by omega) hx))
      go_wp2_with fail
      go_ret
      exact ⟨HB.out, by rw [HR.out]; rfl⟩
end Go.Proofs.YtjnjnccfojfghaaGreatDoor

/-! The walk of path.dotted. Condition: the text's length, the cell at block 0. -/
namespace Go.Proofs.YtjnjnccfojfghaaGreatDoor
open Go.RowKit
set_option linter.unusedVariables false
def atomS : Tx := ([97, 98, 99, 100, 101, 102, 103, 104, 105, 106, 107, 108, 109, 110, 111, 112, 113, 114, 115, 116, 117, 118, 119, 120, 121, 122, 65, 66, 67, 68, 69, 70, 71, 72, 73, 74, 75, 76, 77, 78].append [79, 80, 81, 82, 83, 84, 85, 86, 87, 88, 89, 90, 48, 49, 50, 51, 52, 53, 54, 55, 56, 57, 33, 35, 36, 37, 38, 39, 42, 43, 45, 47, 61, 63, 94, 95, 96, 123, 124, 125, 126])
def atomB (x : Tx) : Bool := !x.isEmpty && x.all (atomS.contains ·)
def dottedM (l : Tx) : Bool := (cutC 46 l).all atomB
set_option maxHeartbeats 4000000 in
theorem dotted_walk (l : Tx) (m : Int) (w : World) (hm : w.cell? ⟨0, 0, none⟩ = some (.int .i64 m)) (hs : l.length ≤ 1073741824) :
    Calls Tryz.prog 153 #[.string (bs l)] w fun e w' => Below w.heap.size w w' ∧ e = .returned (.bool (dottedM l)) := by
  have KS := Lib.hid (splC_walk 46 l m w hm hs)
  have hF : dottedM l = (cutC 46 l).all atomB := rfl
  have hP := Lib.hid (fun x hx => Nat.le_trans (cutC_part_le 46 l x hx) hs)
  have hln : (cutC 46 l).length ≤ 1073741825 := by have := cutC_len_le 46 l; omega
  have KO := Lib.hid (fun x hx W => only_walk x atomS (Nat.le_trans (hP.out x hx) (by omega)) W)
  have hp : bs [46] = ⟨#[46]⟩ := rfl
  have hl : bs atomS = ⟨([97, 98, 99, 100, 101, 102, 103, 104, 105, 106, 107, 108, 109, 110, 111, 112, 113, 114, 115, 116, 117, 118, 119, 120, 121, 122, 65, 66, 67, 68, 69, 70, 71, 72, 73, 74, 75, 76, 77, 78].append [79, 80, 81, 82, 83, 84, 85, 86, 87, 88, 89, 90, 48, 49, 50, 51, 52, 53, 54, 55, 56, 57, 33, 35, 36, 37, 38, 39, 42, 43, 45, 47, 61, 63, 94, 95, 96, 123, 124, 125, 126]).toArray⟩ := rfl
  rw [hl] at KO
  rw [hp] at KS
  obtain ⟨F, hF2⟩ : ∃ F, dottedM l = F := ⟨_, rfl⟩
  rw [hF2] at hF ⊢
  have HF := Lib.hid hF
  generalize cutC 46 l = L at *
  clear hF hF2 hl hp
  go_enter Tryz.func153, Tryz.ntmps153
  go_wp2_with fail
  refine KS.out.mono ?_
  rintro e w2 ⟨hb2, rfl, own2⟩
  have HB := Lib.hid hb2
  have RSH := Lib.hid own2.rs
  clear hb2 own2 KS
  go_wp2_with fail
  go_loopg [4, 8] L.length (fun k s4 i wr => ∃ j : Nat, i = .int .i64 (j : Int) ∧ j + k = L.length ∧ Hid (∀ (n : Nat) (x : Tx), n < j → L[n]? = some x → atomB x = true) ∧ wr = w2)
  case atStart => exact ⟨0, rfl, by omega, Lib.hid (fun n x h => absurd h (by omega)), rfl⟩
  case round =>
    obtain ⟨j, rfl, hj, HA, rfl⟩ := hrel
    by_cases hlt : j < L.length
    · obtain ⟨b, off, hA, hB, hcell⟩ := RSH.out.at_ (by rw [List.length_map]; exact hlt)
      obtain ⟨rfl, rfl⟩ : w.heap.size = b ∧ 0 = off := by injection hA with h; injection h with h1 h2; exact ⟨h1, h2⟩
      have cj := hcell j (by rw [List.length_map]; exact hlt)
      obtain ⟨x, hx⟩ : ∃ x, L[j]? = some x := ⟨_, List.getElem?_eq_getElem hlt⟩
      rw [st_map hx, Nat.zero_add] at cj
      have hj1 : (j : Int) < (L.length : Int) := by omega
      have KX := Lib.hid (KO.out x (List.mem_of_getElem? hx))
      have HJ := Lib.hid hj
      have HLT := Lib.hid hlt
      have HX := Lib.hid hx
      clear hA hcell hx hj hlt
      have HFALSE : Hid (atomB x = false → F = false) := Lib.hid fun h => by rw [HF.out]; exact all_stop HX.out h
      cases x with
      | nil =>
        have HR : Hid (F = false) := Lib.hid (HFALSE.out rfl)
        have he : (bs ([] : Tx)).toList = [] := bs_nil []
        go_wp2_with fail
        go_ret
        exact ⟨HB.out, by rw [HR.out]; rfl⟩
      | cons a r =>
        have hne : (bs (a :: r)).toList.isEmpty = false := by rw [bs_nil]; rfl
        have hL : atomB (a :: r) = (a :: r).all (atomS.contains ·) := rfl
        obtain ⟨B, hB0⟩ : ∃ B, atomB (a :: r) = B := ⟨_, rfl⟩
        have HB1 := Lib.hid hB0
        rw [hB0] at hL HFALSE
        clear hB0
        generalize (a :: r).all (atomS.contains ·) = O at *
        subst hL
        cases B with
        | false =>
          have HR : Hid (F = false) := Lib.hid (HFALSE.out rfl)
          go_wp2_with fail
          refine (KX.out _).mono ?_
          rintro e w2 ⟨rfl, rfl⟩
          go_wp2_with fail
          go_ret
          exact ⟨HB.out, by rw [HR.out]; rfl⟩
        | true =>
          go_wp2_with fail
          refine (KX.out _).mono ?_
          rintro e w2 ⟨rfl, rfl⟩
          go_wp2_with fail
          go_roundg (gk - 1)
          case rel => exact ⟨j + 1, by go_num, by have := HJ.out; have := HLT.out; omega, Lib.hid (fun i d hi hd => by
            by_cases hin : i < j
            · exact HA.out i d hin hd
            · obtain rfl : i = j := by omega
              rw [HX.out] at hd
              obtain rfl := Option.some.inj hd
              exact HB1.out), rfl⟩
          case measure => have := HJ.out; have := HLT.out; omega
    · have hj1 : ¬ (j : Int) < (L.length : Int) := by omega
      have HR : Hid (F = true) := Lib.hid (by rw [HF.out]; exact all_all (fun i x hi hx => HA.out i x (by omega) hx))
      go_wp2_with fail
      go_ret
      exact ⟨HB.out, by rw [HR.out]; rfl⟩
end Go.Proofs.YtjnjnccfojfghaaGreatDoor

/-! The walks of both readers' New, Feed and Left. Conditions: the sizes. -/
namespace Go.Proofs.YtjnjnccfojfghaaGreatDoor
open Go.RowKit
set_option linter.unusedVariables false

theorem u8L : U8 Tryz.prog 25 5 := by
  obtain ⟨i, h1, h2, h3, h4⟩ := info_parts (show (Tryz.prog.info? 5).map (fun i => (i.zero, i.size, i.bytes)) = some (some (.int .u8 0), 1, 1) by kernel_rfl)
  exact ⟨Tryz.underlying25, Tryz.underlying5, i, h1, h2, h3, h4⟩
def FeedPost (T : TypeId) (w : World) (base p : Nat) (own : Option Nat) (most : Nat) (l : List UInt8) (e : Ending) (w' : World) : Prop :=
  e = .returned (.tuple #[]) ∧ ∃ own', Rd w' T base p own' most l ∧ Chg p own w w' ∧ (own' = own ∨ own' = some w.heap.size)
/-! ### how many wait -/
/-! ### New -/
end Go.Proofs.YtjnjnccfojfghaaGreatDoor
