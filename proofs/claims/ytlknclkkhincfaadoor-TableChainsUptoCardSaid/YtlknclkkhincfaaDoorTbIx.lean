/-
  The walk of strings.IndexAny at the two blanks, whatever the text. Condition: its size.
-/
import Derived.Test.YtlknclkkhincfaaDoorTbLo
import Derived.Lib.OthersKept
import Derived.Test.YtlknclkkhincfaaDoorLibAll
namespace Go.Proofs.YtlknclkkhincfaaDoor
open Go.RowKit Go.Shelf
set_option linter.unusedVariables false
theorem decN_facts (n b0 b1 b2 b3 : Nat) (h0 : 128 ≤ b0) (h0' : b0 < 256) : (Lib.decodeN n b0 b1 b2 b3).1 = 65533 ∨
    (2 ≤ (Lib.decodeN n b0 b1 b2 b3).2 ∧ 128 ≤ (Lib.decodeN n b0 b1 b2 b3).1 ∧ ((Lib.decodeN n b0 b1 b2 b3).1 < 55296 ∨ (57344 ≤ (Lib.decodeN n b0 b1 b2 b3).1 ∧ (Lib.decodeN n b0 b1 b2 b3).1 ≤ 1114111)) ∧
      (((Lib.decodeN n b0 b1 b2 b3).2 = 2 ∧ (Lib.decodeN n b0 b1 b2 b3).1 < 2048) ∨ ((Lib.decodeN n b0 b1 b2 b3).2 = 3 ∧ 2048 ≤ (Lib.decodeN n b0 b1 b2 b3).1 ∧ (Lib.decodeN n b0 b1 b2 b3).1 < 65536) ∨ ((Lib.decodeN n b0 b1 b2 b3).2 = 4 ∧ 65536 ≤ (Lib.decodeN n b0 b1 b2 b3).1))) := by
  unfold Lib.decodeN
  split
  · omega
  split
  · split
    · exact .inr ⟨by simp, by simp only []; omega, by simp only []; omega, .inl ⟨rfl, by simp only []; omega⟩⟩
    · exact .inl rfl
  split
  · split
    · exact .inr ⟨by simp, by simp only []; omega, by simp only []; omega, .inr (.inl ⟨rfl, by simp only []; omega, by simp only []; omega⟩)⟩
    · exact .inl rfl
  split
  · split
    · exact .inr ⟨by simp, by simp only []; omega, by simp only []; omega, .inr (.inr ⟨rfl, by simp only []; omega⟩)⟩
    · exact .inl rfl
  · exact .inl rfl
theorem enc_valid (r : Nat) (h : r < 55296 ∨ (57344 ≤ r ∧ r ≤ 1114111)) : Utf8.valid (r : Int) = true := by
  unfold Utf8.valid
  simp
  omega
/-- what a rune of more than one byte says -/
theorem rune_hi (s : ByteArray) (pos : Nat) (h0 : pos < s.size) (hb : 128 ≤ (s.data.toList.getD pos 0).toNat) :
    128 ≤ (Utf8.decode s pos).1 ∧ ((Utf8.decode s pos).1 = 65533 ∨ ((Utf8.decode s pos).1 ≠ 65533 ∧ Utf8.valid ((Utf8.decode s pos).1 : Int) = true)) := by
  have hN := Lib.decode_N s pos
  have hlt : (s.data.toList.getD pos 0).toNat < 256 := UInt8.toNat_lt _
  have := decN_facts (s.data.toList.length - pos) (s.data.toList.getD pos 0).toNat (s.data.toList.getD (pos + 1) 0).toNat (s.data.toList.getD (pos + 2) 0).toNat (s.data.toList.getD (pos + 3) 0).toNat hb hlt
  rw [← hN] at this
  rcases this with h | ⟨h1, h2, h3, h4⟩
  · exact ⟨by omega, .inl h⟩
  · by_cases h5 : (Utf8.decode s pos).1 = 65533
    · exact ⟨h2, .inl h5⟩
    · exact ⟨h2, .inr ⟨h5, enc_valid _ h3⟩⟩
def bl2 : ByteArray := ⟨#[32, 9]⟩
theorem nb0 (w : World) (ty : TypeId) : (Instr.next (.pointer (some ⟨w.heap.size, 0, none⟩)) true ty).run Tryd.prog (w.iter bl2 0) = .ok (.tuple #[.bool true, .int .i64 0, .int .i32 32]) (w.iter bl2 1) := run_next_ascii w bl2 0 ty (by decide) (by decide)
theorem nb1 (w : World) (ty : TypeId) : (Instr.next (.pointer (some ⟨w.heap.size, 0, none⟩)) true ty).run Tryd.prog (w.iter bl2 1) = .ok (.tuple #[.bool true, .int .i64 1, .int .i32 9]) (w.iter bl2 2) := run_next_ascii w bl2 1 ty (by decide) (by decide)
theorem nb2 (w : World) (ty : TypeId) : (Instr.next (.pointer (some ⟨w.heap.size, 0, none⟩)) true ty).run Tryd.prog (w.iter bl2 2) = .ok (.tuple #[.bool false]) (w.iter bl2 2) := run_next_end w bl2 2 ty (by decide)
theorem below_iter (w : World) (s : ByteArray) (k : Nat) : Below w.heap.size w (w.iter s k) := (Below.refl _ _).alloc (Nat.le_refl _) _
set_option maxRecDepth 1000000 in
set_option maxHeartbeats 4000000 in
theorem irune_bad (w : World) : Calls Tryd.prog 70 #[.string bl2, .int .i32 65533] w fun e w' => Below w.heap.size w w' ∧ e = .returned (.int .i64 (-1)) := by
  have hsz : bl2.size = 2 := rfl
  have n0 := nb0 w
  have n1 := nb1 w
  have n2 := nb2 w
  have HB := Lib.hid (below_iter w bl2 2)
  generalize bl2 = C at *
  go_enter Tryd.func70, Tryd.ntmps70
  go_wp2
  go_loopg [] 2 (fun q wr => ∃ i, i + q = 2 ∧ wr = w.iter C i)
  case atStart => exact ⟨0, rfl, rfl⟩
  case round =>
    obtain ⟨i, hi, rfl⟩ := hrel
    have hi3 : i = 0 ∨ i = 1 ∨ i = 2 := by omega
    rcases hi3 with rfl | rfl | rfl
    · clear n1 n2
      go_wp2
      go_roundg 1
      case rel => exact ⟨1, by omega, rfl⟩
      case measure => omega
    · clear n0 n2
      go_wp2
      go_roundg 0
      case rel => exact ⟨2, by omega, rfl⟩
      case measure => omega
    · clear n1 n0
      go_wp2
      go_ret
      exact ⟨HB.out, rfl⟩
theorem enc_sz (r : Int) (hv : Utf8.valid r = true) (h : 128 ≤ r) : (Utf8.encode r).size = 2 ∨ (Utf8.encode r).size = 3 ∨ (Utf8.encode r).size = 4 := by
  obtain ⟨h1, h2, _⟩ := encode_facts r hv h
  omega
theorem two_of {E : ByteArray} (h : E.size = 2) : ∃ a b, E = ⟨#[a, b]⟩ := by
  obtain ⟨⟨l⟩⟩ := E
  match l, h with
  | [a, b], _ => exact ⟨a, b, rfl⟩
theorem validRune_of {r : Int} (h : Utf8.valid r = true) : Lib.validRune r = true := by
  unfold Utf8.valid at h
  unfold Lib.validRune
  simp at h ⊢
  omega
set_option maxRecDepth 1000000 in
set_option maxHeartbeats 4000000 in
theorem irune_ok (r : Nat) (w : World) (h1 : 128 ≤ r) (h2 : r ≠ 65533) (hv : Utf8.valid (r : Int) = true) : Calls Tryd.prog 70 #[.string bl2, .int .i32 r] w fun e w' => Below w.heap.size w w' ∧ e = .returned (.int .i64 (-1)) := by
  have hsz : bl2.size = 2 := rfl
  have hV := Tryd.utf8_ValidRune (r : Int)
  rw [validRune_of hv] at hV
  have HV := Lib.hid hV
  obtain ⟨E, hE⟩ : ∃ E, Utf8.encode (r : Int) = E := ⟨_, rfl⟩
  have hs := enc_sz (r : Int) hv (by omega)
  have hf := (encode_facts (r : Int) hv (by omega)).2.2
  rw [hE] at hs hf
  have c1 : ((r : Int) == 65533) = false := beq_eq_false_iff_ne.2 (by omega)
  have c2 : ¬ (r : Int) < 128 := by omega
  have c3 : (0 : Int) ≤ (r : Int) := by omega
  clear hV h1 h2
  have HB := Lib.hid (Below.refl w.heap.size w)
  have hcv : ∀ W : World, (convert 21 9 (.int .i32 (r : Int))).run Tryd.prog W = .ok (.string E) W := fun W => by
    rw [run_convert_int_string W _ _ _ _ (by rw [Tryd.underlying21]; rfl) Tryd.underlying9, hE]
  go_enter Tryd.func70, Tryd.ntmps70
  go_wp2_with fail
  refine (HV.out w).mono ?_
  rintro e w' ⟨rfl, rfl⟩
  clear HV
  rcases hs with h | h | h
  · go_wp2_with fail
    go_step3
    go_wp2_with fail
    go_loopg [9, 10] 0 (fun k s9 s10 wr => s9 = .int .i64 1 ∧ s10 = .int .i64 0 ∧ wr = w')
    case atStart => exact ⟨rfl, rfl, rfl⟩
    case round =>
      obtain ⟨rfl, rfl, rfl⟩ := hrel
      obtain ⟨a, b, rfl⟩ := two_of h
      have hb : 128 ≤ b.toNat := hf (show 1 < 2 by omega)
      have p1 : 1 < bl2.size := by decide
      have p2 : 1 < (⟨#[a, b]⟩ : ByteArray).size := show 1 < 2 by omega
      have d2 : (((bl2[1]'p1).toNat : Int) != (((⟨#[a, b]⟩ : ByteArray)[1]'p2).toNat : Int)) = true := by
        show ((9 : Int) != (b.toNat : Int)) = true
        simp; omega
      have hcI := fun (s : ByteArray) (c : Int) (w : World) => Tryd.strings_IndexByte s c w
      have HI := Lib.hid hcI
      clear hf h hb hE hv hcv hcI
      go_wp2_with fail
      go_step3
      go_wp2_with fail
      go_quiet (fail)
      go_wp2_with fail
      have HB1 : Hid (Below wr.heap.size wr (wr.drewN nq)) := Lib.hid (bdrewN (Below.refl _ _) nq)
      have e2 : IntKind.i64.wrap 2 = 2 := by decide
      clear d2 HB
      generalize wr.drewN nq = w1 at *
      have ke : ∀ x, Lib.indexByte [] x = -1 := fun _ => rfl
      go_quiet (((exact Calls.quiet_of_same (HI.out _ _ _))))
      have HB2 : Hid (Below wr.heap.size wr (w1.drewN nq)) := Lib.hid (bdrewN HB1.out nq)
      go_wp2_with fail
      rw [Exit.noGoto_ret]
      go_wp2_with fail
      rw [Exit.noGoto_ret]
      go_ret
      exact ⟨HB2.out, rfl⟩
  · go_wp2_with fail
    go_step3
    go_wp2_with fail
    go_loopg [9, 10] 0 (fun k s9 s10 wr => s9 = .int .i64 2 ∧ s10 = .int .i64 0 ∧ wr = w')
    case atStart => exact ⟨rfl, rfl, rfl⟩
    case round =>
      obtain ⟨rfl, rfl, rfl⟩ := hrel
      go_wp2_with fail
      rw [Exit.noGoto_ret]
      go_ret
      exact ⟨HB.out, rfl⟩
  · go_wp2_with fail
    go_step3
    go_wp2_with fail
    go_loopg [9, 10] 0 (fun k s9 s10 wr => s9 = .int .i64 3 ∧ s10 = .int .i64 0 ∧ wr = w')
    case atStart => exact ⟨rfl, rfl, rfl⟩
    case round =>
      obtain ⟨rfl, rfl, rfl⟩ := hrel
      go_wp2_with fail
      rw [Exit.noGoto_ret]
      go_ret
      exact ⟨HB.out, rfl⟩
theorem irune_hi (r : Nat) (w : World) (h1 : 128 ≤ r) (h : r = 65533 ∨ (r ≠ 65533 ∧ Utf8.valid (r : Int) = true)) : Calls Tryd.prog 70 #[.string bl2, .int .i32 r] w fun e w' => Below w.heap.size w w' ∧ e = .returned (.int .i64 (-1)) := by
  rcases h with rfl | ⟨h, hv⟩
  · exact irune_bad w
  · exact irune_ok r w h1 h hv
set_option maxRecDepth 1000000 in
set_option maxHeartbeats 8000000 in
/-- few bytes, whatever they are -/
theorem iany_short (s : ByteArray) (w : World) (h8 : s.size ≤ 8) : Calls Tryd.prog 48 #[.string s, .string bl2] w fun e w' => Below w.heap.size w w' ∧ e = .returned (.int .i64 (Lib.indexAny s.data.toList [32, 9])) := by
  have hemp : bl2.toList.isEmpty = false := by rw [Lib.toList_data]; rfl
  have hsz : bl2.size = 2 := rfl
  have h8z : decide ((8 : Int) < (s.size : Int)) = false := decide_eq_false (by omega)
  have KS := Tryd.strings_shouldUseASCIISet (s.size : Int)
  rw [h8z] at KS
  have HS := Lib.hid KS
  have HA := Lib.hid (fun (r : Int) (w : World) (h0 : 0 ≤ r) (h1 : r < 128) => Tryd.strings_IndexRune_ascii bl2 r w h0 h1)
  have HH := Lib.hid irune_hi
  have hbl : bl2.data.toList = [32, 9] := rfl
  rw [hbl] at HA
  clear KS h8z hbl
  generalize bl2 = C at *
  go_enter Tryd.func48, Tryd.ntmps48
  go_wp2_with fail
  refine (HS.out _).mono ?_
  rintro e w' ⟨rfl, rfl⟩
  clear HS
  go_wp2_with fail
  have H0 : Hid (Below w'.heap.size w' (w'.iter s 0)) := Lib.hid (below_iter w' s 0)
  have I0 : Hid ((w'.iter s 0).heap[w'.heap.size]? = some (.stringIter s 0)) := Lib.hid (World.iter_heap w' s 0)
  generalize w'.iter s 0 = w0 at *
  go_loopg [9, 10] s.size (fun g _ _ wx => ∃ i : Nat, i + g = s.size ∧ Hid (Below w'.heap.size w' wx) ∧ Hid (wx.heap[w'.heap.size]? = some (.stringIter s i)) ∧ Hid (Lib.NoAny s.data.toList [32, 9] i))
  case atStart => exact ⟨0, by omega, H0, I0, Lib.hid (Lib.NoAny.zero _ _)⟩
  case round =>
    obtain ⟨i, hig, HB, HI, HN⟩ := hrel
    clear H0 I0
    by_cases hi : i < s.size
    · have hnx : ∀ ty, (Instr.next (.pointer (some ⟨w'.heap.size, 0, none⟩)) true ty).run Tryd.prog wr = _ := fun ty => Lib.run_next_any_at wr w'.heap.size s i ty HI.out hi
      have hlt := (Array.getElem?_eq_some_iff.1 HI.out).1
      have HIa := fun pos => Lib.hid (Lib.iterAt_heap wr w'.heap.size s i pos HI.out)
      have HBa := fun pos => Lib.hid (Lib.below_iterAt HB.out (Nat.le_refl _) s pos)
      have HSa := fun pos => Lib.hid (Lib.iterAt_size wr w'.heap.size s pos)
      have hx : s.data.toList[i]? = some (s.data.toList.getD i 0) := by
        rw [List.getD_eq_getElem?_getD, List.getElem?_eq_getElem (by rw [← Lib.size_eq]; exact hi)]; rfl
      have hone := width_one s i
      have hcont := fun j a b => cont_hi s i j a b
      by_cases hlo : (s.data.toList.getD i 0).toNat < 128
      · have hd : Utf8.decode s i = ((s.data.toList.getD i 0).toNat, 1) := by rw [getD_at s hi] at hlo ⊢; exact dec_lo s hi hlo
        rw [hd] at hnx
        have hback : (((s.data.toList.getD i 0).toNat : Int)).toNat.toUInt8 = s.data.toList.getD i 0 := by simp
        have hA := HA.out ((s.data.toList.getD i 0).toNat : Int) (wr.iterAt w'.heap.size s (i + 1)) (by omega) (by omega)
        rw [hback] at hA
        have hcon := Lib.contains_iff_indexByte [32, 9] (s.data.toList.getD i 0)
        have HI1 := HIa (i + 1)
        have HB1 := HBa (i + 1)
        have HX := Lib.hid hx
        have HA1 := Lib.hid hA
        clear hd hback hone hcont hx HIa HBa HSa hA HA
        generalize s.data.toList.getD i 0 = x at *
        simp only [] at hnx
        generalize wr.iterAt w'.heap.size s (i + 1) = w1 at *
        cases hin : ([32, 9] : List UInt8).contains x
        · rw [hin] at hcon
          have hlt1 : ¬ ((0 : Int) ≤ Lib.indexByte [32, 9] x) := of_decide_eq_false hcon.symm
          have HN1 := Lib.hid (HN.out.succ HX.out hin)
          clear hcon hin
          generalize Lib.indexByte [32, 9] x = y at *
          go_wp2_with fail
          refine HA1.out.mono ?_
          rintro e2 w2 ⟨rfl, rfl⟩
          go_wp2_with fail
          go_roundg (gk - 1)
          case rel => exact ⟨i + 1, by omega, HB1, HI1, HN1⟩
          case measure => omega
        · rw [hin] at hcon
          have hge : (0 : Int) ≤ Lib.indexByte [32, 9] x := of_decide_eq_true hcon.symm
          have HE := Lib.hid (Lib.indexAny_hit HN.out HX.out hin)
          clear hcon hin
          generalize Lib.indexByte [32, 9] x = y at *
          go_wp2_with fail
          refine HA1.out.mono ?_
          rintro e2 w2 ⟨rfl, rfl⟩
          go_wp2_with fail
          go_ret
          exact ⟨HB1.out, by rw [HE.out]; rfl⟩
      · obtain ⟨hr1, hr2⟩ := rune_hi s i hi (by omega)
        obtain ⟨r, hr⟩ : ∃ r, (Utf8.decode s i).1 = r := ⟨_, rfl⟩
        obtain ⟨k, hk⟩ : ∃ k, (Utf8.decode s i).2 = k := ⟨_, rfl⟩
        rw [hr, hk] at hnx
        rw [hr] at hr1 hr2
        rw [hk] at hone hcont
        have hcon : ∀ x : UInt8, 128 ≤ x.toNat → ([32, 9] : List UInt8).contains x = false := fun x h => by
          have e : (fun b => ([32, 9] : List UInt8).contains b) x = isBl x := congrFun bl_set x
          have e2 : ([32, 9] : List UInt8).contains x = isBl x := e
          rw [e2]
          unfold isBl
          rw [Bool.or_eq_false_iff]
          exact ⟨beq_eq_false_iff_ne.2 (by rintro rfl; exact absurd h (by decide)), beq_eq_false_iff_ne.2 (by rintro rfl; exact absurd h (by decide))⟩
        have HN1 : Hid (Lib.NoAny s.data.toList [32, 9] (i + k)) := Lib.hid (by
          intro j b hj hb
          rcases Nat.lt_or_ge j i with h | h
          · exact HN.out j b h hb
          · have hb2 : s.data.toList.getD j 0 = b := by rw [List.getD_eq_getElem?_getD, hb]; rfl
            rcases Nat.eq_or_lt_of_le h with rfl | h
            · exact hcon b (by rw [← hb2]; omega)
            · have := (hcont (j - i) (by omega) (by omega)).2
              rw [show i + (j - i) = j by omega, hb2] at this
              exact hcon b this)
        have hik : i + k ≤ s.size := by
          rcases Nat.lt_or_ge 1 k with h | h
          · have := (hcont (k - 1) (by omega) (by omega)).1; omega
          · omega
        have hk1 := hone
        have HI1 := (HIa (i + k)).out
        have HB1 := (HBa (i + k)).out
        have hS1 := (HSa (i + k)).out
        have HR := Lib.hid (HH.out r (wr.iterAt w'.heap.size s (i + k)) hr1 hr2)
        clear hr hk hone hcont hx HIa HBa HSa hr2 HH hcon
        generalize wr.iterAt w'.heap.size s (i + k) = w1 at *
        have HI1 := Lib.hid HI1
        have HB1 := Lib.hid HB1
        have HS1 := Lib.hid hS1
        clear hS1 hlo
        go_wp2_with fail
        refine HR.out.mono ?_
        rintro e2 w2 ⟨hb2, rfl⟩
        have HB2 := Lib.hid (HB1.out.trans (hb2.mono HB1.out.size))
        have HI2 := Lib.hid ((hb2.block w'.heap.size (by rw [HS1.out]; exact hlt)).trans HI1.out)
        clear hb2
        go_wp2_with fail
        go_roundg (gk - k)
        case rel => exact ⟨i + k, by omega, HB2, HI2, HN1⟩
        case measure => omega
    · have hnx : ∀ ty, (Instr.next (.pointer (some ⟨w'.heap.size, 0, none⟩)) true ty).run Tryd.prog wr = _ := fun ty => Lib.run_next_end_at wr w'.heap.size s i ty HI.out hi
      have HE := Lib.hid (Lib.indexAny_none (show Lib.NoAny s.data.toList [32, 9] s.data.toList.length by rw [← Lib.size_eq, ← show i = s.size by omega]; exact HN.out))
      go_wp2_with fail
      go_ret
      exact ⟨HB.out, by rw [HE.out]; rfl⟩
theorem iany_walk (s : ByteArray) (w : World) (hs : s.size < 4294967281) : Calls Tryd.prog 48 #[.string s, .string bl2] w fun e w' => Below w.heap.size w w' ∧ e = .returned (.int .i64 (Lib.indexAny s.data.toList [32, 9])) := by
  by_cases h8 : s.size ≤ 8
  · exact iany_short s w h8
  · refine (Tryd.strings_IndexAny_long (zero_of_info (show (Tryd.prog.info? 114).map (fun i => (i.zero, i.size)) = some (some (.agg (Array.replicate 256 (.bool false))), 256) by kernel_rfl)).1 s bl2 w (by decide) (by omega) hs (by decide) (fun j b hb => of_decide_eq_true (List.all_eq_true.1 (show bl2.data.toList.all (fun b => decide (b.toNat < 128)) = true by decide) b (List.mem_of_getElem? hb)))).mono fun e w' ⟨h1, h2⟩ => ⟨?_, h1⟩
    · rw [h2]
      exact ((Below.refl _ _).alloc (Nat.le_refl _) _).alloc (by simp) _
end Go.Proofs.YtlknclkkhincfaaDoor
