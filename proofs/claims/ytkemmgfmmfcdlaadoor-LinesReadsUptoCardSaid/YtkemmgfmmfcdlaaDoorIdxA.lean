/-
  bytes.IndexAny and ContainsAny at CR and LF. Conditions: the library's tables, the sizes.
-/
import Derived.Test.YtkemmgfmmfcdlaaDoorLnB
import Derived.Test.YtkemmgfmmfcdlaaDoorUtf
import Derived.Test.YtkemmgfmmfcdlaaDoorRNext
import Derived.Laws.Runes
import Derived.Laws.RangeString
import Derived.Lib.IndexEntry
import Derived.Shelf.Bytes.SlTrimWalks
import Derived.Shelf.Spec.DecodeRune
namespace Go.Proofs.YtkemmgfmmfcdlaaDoor
open Go.RowKit
set_option linter.unusedVariables false
/-- the library's tables, whatever has been laid from block B on -/
def TabsL (B : Nat) (w : World) : Prop := ∀ w', Below B w w' → Lib.Utf8Tabs 1 2 w' ∧ ∃ m : Int, w'.cell? ⟨0, 0, none⟩ = some (.int .i64 m)
theorem TabsL.below {B : Nat} {w w' : World} (h : TabsL B w) (hb : Below B w w') : TabsL B w' := fun w2 hb2 => h w2 (hb.trans hb2)
def crlf : ByteArray := ⟨#[13, 10]⟩
theorem decN_facts (n b0 b1 b2 b3 : Nat) (h0 : 128 ≤ b0) (h0' : b0 < 256) : (Lib.decodeN n b0 b1 b2 b3).1 = 65533 ∨
    (2 ≤ (Lib.decodeN n b0 b1 b2 b3).2 ∧ 128 ≤ (Lib.decodeN n b0 b1 b2 b3).1 ∧ ((Lib.decodeN n b0 b1 b2 b3).1 < 55296 ∨ (57344 ≤ (Lib.decodeN n b0 b1 b2 b3).1 ∧ (Lib.decodeN n b0 b1 b2 b3).1 ≤ 1114111)) ∧
      (((Lib.decodeN n b0 b1 b2 b3).2 = 2 ∧ (Lib.decodeN n b0 b1 b2 b3).1 < 2048) ∨ ((Lib.decodeN n b0 b1 b2 b3).2 = 3 ∧ 2048 ≤ (Lib.decodeN n b0 b1 b2 b3).1 ∧ (Lib.decodeN n b0 b1 b2 b3).1 < 65536) ∨ ((Lib.decodeN n b0 b1 b2 b3).2 = 4 ∧ 65536 ≤ (Lib.decodeN n b0 b1 b2 b3).1))) := by
  unfold Lib.decodeN
  split
  · omega
  split
  · split
    · exact .inr ⟨by simp, by simp only []; omega, by simp only []; omega, .inl ⟨rfl, by simp only []; omega⟩⟩
    · exact .inl rfl
  split
  · split
    · exact .inr ⟨by simp, by simp only []; omega, by simp only []; omega, .inr (.inl ⟨rfl, by simp only []; omega, by simp only []; omega⟩)⟩
    · exact .inl rfl
  split
  · split
    · exact .inr ⟨by simp, by simp only []; omega, by simp only []; omega, .inr (.inr ⟨rfl, by simp only []; omega⟩)⟩
    · exact .inl rfl
  · exact .inl rfl
theorem enc_valid (r : Nat) (h : r < 55296 ∨ (57344 ≤ r ∧ r ≤ 1114111)) : Utf8.valid (r : Int) = true := by
  unfold Utf8.valid
  simp
  omega
theorem enc_size (r : Nat) (hv : Utf8.valid (r : Int) = true) (h : 128 ≤ r) : (Utf8.encode (r : Int)).size = if r < 2048 then 2 else if r < 65536 then 3 else 4 := by
  have hc : ¬ ((r : Int)).toNat < 128 := by omega
  have e : ((r : Int)).toNat = r := by omega
  unfold Utf8.encode
  simp only [hv, if_true, hc, if_false]
  rw [e]
  split
  · rfl
  · split <;> rfl
theorem enc_high (r : Nat) (hv : Utf8.valid (r : Int) = true) (h : 128 ≤ r) : crlf ≠ Utf8.encode (r : Int) := by
  intro e
  obtain ⟨h1, h2, h3⟩ := encode_facts (r : Int) hv (by omega)
  rw [← e] at h3
  have := h3 (by decide)
  exact absurd this (by decide)
/-- what a rune of more than one byte says -/
def RuneHi (l : List UInt8) (r k : Nat) : Prop := 1 ≤ k ∧ k ≤ l.length ∧ (∀ i, i < k → 128 ≤ (l.getD i 0).toNat) ∧
  (r = 65533 ∨ (r ≠ 65533 ∧ 2 ≤ k ∧ 128 ≤ r ∧ crlf ≠ Utf8.encode (r : Int) ∧ (Utf8.encode (r : Int)).size = k))
theorem runeHi (s : ByteArray) (h0 : 0 < s.size) (hb : 128 ≤ (s.data.toList.getD 0 0).toNat) : RuneHi s.data.toList (Lib.decodeGo s).1 (Lib.decodeGo s).2 := by
  have hd : Lib.decodeGo s = Utf8.decode s 0 := by unfold Lib.decodeGo; rw [if_neg (by omega)]
  rw [hd]
  have hw := width_one s 0
  have hc := fun j h1 h2 => cont_hi s 0 j h1 h2
  refine ⟨hw, ?_, ?_, ?_⟩
  · rw [← Lib.size_eq]
    rcases Nat.lt_or_ge 1 (Utf8.decode s 0).2 with h | h
    · have := (hc ((Utf8.decode s 0).2 - 1) (by omega) (by omega)).1; omega
    · omega
  · intro i hi
    rcases Nat.eq_zero_or_pos i with rfl | hp
    · exact hb
    · have := (hc i hp hi).2
      rwa [Nat.zero_add] at this
  · have hN := Lib.decode_N s 0
    rw [hN]
    have hlt : (s.data.toList.getD 0 0).toNat < 256 := UInt8.toNat_lt _
    have := decN_facts (s.data.toList.length - 0) (s.data.toList.getD 0 0).toNat (s.data.toList.getD (0 + 1) 0).toNat (s.data.toList.getD (0 + 2) 0).toNat (s.data.toList.getD (0 + 3) 0).toNat hb hlt
    by_cases h5 : (Lib.decodeN (s.data.toList.length - 0) (s.data.toList.getD 0 0).toNat (s.data.toList.getD (0 + 1) 0).toNat (s.data.toList.getD (0 + 2) 0).toNat (s.data.toList.getD (0 + 3) 0).toNat).1 = 65533
    · exact .inl h5
    · rcases this with h | ⟨h1, h2, h3, h4⟩
      · exact absurd h h5
      · have hv := enc_valid _ h3
        have hs := enc_size _ hv h2
        refine .inr ⟨h5, h1, h2, enc_high _ hv h2, ?_⟩
        rw [hs]
        rcases h4 with ⟨a, b⟩ | ⟨a, b, c⟩ | ⟨a, b⟩
        · rw [if_pos b, a]
        · rw [if_neg (by omega), if_pos c, a]
        · rw [if_neg (by omega), if_neg (by omega), a]
/-- utf8.DecodeRune at bytes of which the first is no ASCII -/
theorem decrune_walk (w : World) {B b off : Nat} {l : List UInt8} (hT : Lib.Utf8Tabs 1 2 w) (h : RB w B (some ⟨b, off, none⟩) l) (n cap : Nat) (hn : n = l.length) (h0 : 0 < n) (hb : 128 ≤ (l.getD 0 0).toNat) :
    Calls Tryd.prog 44 #[.slice (some ⟨b, off, none⟩) n cap] w fun e w' => Below w.heap.size w w' ∧ ∃ r k : Nat, e = .returned (.tuple #[.int .i32 r, .int .i64 k]) ∧ RuneHi l r k := by
  subst hn
  have hs : (⟨l.toArray⟩ : ByteArray).size = l.length := by rw [Lib.size_eq]
  have hl : (⟨l.toArray⟩ : ByteArray).data.toList = l := by simp
  have := Any7.utf8_DecodeRune Tryd.laysDR ⟨l.toArray⟩ b off cap w hT (fun j hj => by
    rw [hs] at hj
    obtain ⟨b', off', e, _, hc⟩ := h.at_ hj
    injection e with e
    injection e with e1 e2
    subst e1 e2
    rw [hc j hj]
    congr 2
    unfold bt
    have he : l[j]? = some l[j] := List.getElem?_eq_getElem hj
    simp [ByteArray.get!, List.getD_eq_getElem?_getD, he])
  rw [hs] at this
  refine this.mono ?_
  rintro e w' ⟨rfl, hbl⟩
  exact ⟨hbl, _, _, rfl, by have := runeHi ⟨l.toArray⟩ (by rw [hs]; exact h0) (by rw [hl]; exact hb); rwa [hl] at this⟩
theorem set_info : (Tryd.prog.info? 72).map (fun i => (i.zero, i.size)) = some (some (.agg (Array.replicate 256 (.bool false))), 256) := by kernel_rfl
theorem mk_walk (w : World) : Calls Tryd.prog 48 #[.string crlf] w fun e w' => e = .returned (.tuple #[.agg (Lib.setCells [13, 10]), .bool true]) ∧ w' = w.alloc (.cells (Lib.setCells [13, 10]) 72) :=
  Any.bytes_makeASCIISet Tryd.laysMk (zero_of_info set_info).1 (zero_of_info set_info).2 crlf w (by decide) (by
    intro j b hb
    match j, hb with
    | 0, hb => injection hb with hb; subst hb; decide
    | 1, hb => injection hb with hb; subst hb; decide
    | j + 2, hb => simp [crlf] at hb)
theorem should_walk (n : Int) (w : World) : Calls Tryd.prog 47 #[.int .i64 n] w fun e w' => w = w' ∧ e = .returned (.bool (decide (8 < n))) := by
  go_enter Tryd.func47, Tryd.ntmps47
  go_wp2
  go_ret
  exact ⟨rfl, rfl⟩
/-- IndexAny's answer -/
def AnyPost (w : World) (bo : Bool) (e : Ending) (w' : World) : Prop := Below w.heap.size w w' ∧ ∃ i : Int, e = .returned (.int .i64 i) ∧ decide (0 ≤ i) = bo
theorem ibs_crlf (x : UInt8) : decide (0 ≤ Lib.indexByte crlf.data.toList ((x.toNat : Int)).toNat.toUInt8) = decide (x = 13 ∨ x = 10) := by
  have : ((x.toNat : Int)).toNat.toUInt8 = x := by simp
  rw [Bool.eq_iff_iff, decide_eq_true_eq, decide_eq_true_eq, this, indexByte_mem]
  simp [crlf]
theorem ibs_run (x : UInt8) (w : World) (b : Bool) (hb : decide (x = 13 ∨ x = 10) = b) : ∃ i : Int, (Extern.BytealgIndexByte.indexByte #[.string crlf, .int .u8 (x.toNat : Int)]).run Tryd.prog w = .ok (.int .i64 i) w ∧ decide (0 ≤ i) = b :=
  ⟨_, Lib.run_indexByteString crlf (x.toNat : Int) w, by rw [ibs_crlf, hb]⟩
theorem nx0 (w : World) (ty : TypeId) : (Instr.next (.pointer (some ⟨w.heap.size, 0, none⟩)) true ty).run Tryd.prog (w.iter crlf 0) = .ok (.tuple #[.bool true, .int .i64 0, .int .i32 13]) (w.iter crlf 1) := run_next_ascii w crlf 0 ty (by decide) (by decide)
theorem nx1 (w : World) (ty : TypeId) : (Instr.next (.pointer (some ⟨w.heap.size, 0, none⟩)) true ty).run Tryd.prog (w.iter crlf 1) = .ok (.tuple #[.bool true, .int .i64 1, .int .i32 10]) (w.iter crlf 2) := run_next_ascii w crlf 1 ty (by decide) (by decide)
theorem nx2 (w : World) (ty : TypeId) : (Instr.next (.pointer (some ⟨w.heap.size, 0, none⟩)) true ty).run Tryd.prog (w.iter crlf 2) = .ok (.tuple #[.bool false]) (w.iter crlf 2) := run_next_end w crlf 2 ty (by decide)
theorem below_iter (w : World) (k : Nat) : Below w.heap.size w (w.iter crlf k) := (Below.refl _ _).alloc (Nat.le_refl _) _
set_option maxRecDepth 100000 in
set_option maxHeartbeats 2000000 in
theorem any_one (w : World) (b off c : Nat) (x : UInt8) (k0 : w.cell? ⟨b, off, none⟩ = some (.int .u8 x.toNat)) (bo : Bool) (hbo : decide (x = 13 ∨ x = 10) = bo) :
    Calls Tryd.prog 37 #[.slice (some ⟨b, off, none⟩) 1 c, .string crlf] w (AnyPost w bo) := by
  have hsz : crlf.size = 2 := rfl
  have hne : crlf.toList.isEmpty = false := by rw [Lib.toList_data]; rfl
  have hlt : (x.toNat : Int) < 256 := by have := UInt8.toNat_lt x; omega
  have e32 : wrap32 (x.toNat : Int) = (x.toNat : Int) := by
    first
    | (unfold wrap32; omega)
    | exact wrap32_in (by omega) (by omega)
  by_cases hx : 128 ≤ x.toNat
  · have hx2 : (128 : Int) ≤ (x.toNat : Int) := by omega
    have hb : bo = false := by
      rw [← hbo, decide_eq_false_iff_not]
      rintro (rfl | rfl) <;> exact absurd hx (by decide)
    subst hb
    have N0 := nx0 w
    have N1 := nx1 w
    have N2 := nx2 w
    have HB := Lib.hid (below_iter w)
    clear hbo hx
    generalize crlf = C at *
    go_enter Tryd.func37, Tryd.ntmps37
    go_wp2_with fail
    go_loopg [] 2 (fun k wr => ∃ i, i + k = 2 ∧ wr = w.iter C i)
    case atStart => exact ⟨0, rfl, rfl⟩
    case round =>
      obtain ⟨i, hi, rfl⟩ := hrel
      have hi3 : i = 0 ∨ i = 1 ∨ i = 2 := by omega
      rcases hi3 with rfl | rfl | rfl
      · clear N1 N2
        go_wp2
        go_roundg (gk - 1)
        case rel => exact ⟨1, by omega, rfl⟩
        case measure => omega
      · clear N0 N2
        go_wp2
        go_roundg (gk - 1)
        case rel => exact ⟨2, by omega, rfl⟩
        case measure => omega
      · clear N1 N0
        go_wp2
        go_ret
        exact ⟨HB.out 2, _, rfl, rfl⟩
  · have hx2 : ¬ (128 : Int) ≤ (x.toNat : Int) := by omega
    obtain ⟨i, hi, hib⟩ := ibs_run x w bo hbo
    have HI := Lib.hid hi
    clear hbo hi
    generalize crlf = C at *
    generalize (x.toNat : Int) = xv at *
    cases bo
    case' true =>
      have hi0 := of_decide_eq_true hib
      go_enter Tryd.func37, Tryd.ntmps37
      go_wp2_with fail
    case' false =>
      have hi0 := of_decide_eq_false hib
      go_enter Tryd.func37, Tryd.ntmps37
      go_wp2_with fail
    all_goals
      rw [run_callFunc_extern Tryd.func45 (by kernel_rfl) (by kernel_rfl) (by kernel_rfl) (e := Extern.BytealgIndexByte.indexByte) (by kernel_rfl), HI.out]
      simp only [Result.andThen]
      rw [Oper.upon_value]
      go_wp2
      go_ret
      exact ⟨Below.refl _ _, _, rfl, rfl⟩
theorem set_at (x : UInt8) : (Lib.setCells [13, 10])[x.toNat]? = some (.bool (decide (x = 13 ∨ x = 10))) := by
  rw [Lib.setCells_at]
  congr 2
  rw [Bool.eq_iff_iff]
  simp
theorem hit_drop {l : List UInt8} {j : Nat} {x : UInt8} {bo : Bool} (hx : l[j]? = some x) (h : decide ((13 : UInt8) ∈ l.drop j ∨ (10 : UInt8) ∈ l.drop j) = bo) :
    (decide (x = 13 ∨ x = 10) = true ∧ bo = true) ∨ (decide (x = 13 ∨ x = 10) = false ∧ decide ((13 : UInt8) ∈ l.drop (j + 1) ∨ (10 : UInt8) ∈ l.drop (j + 1)) = bo) := by
  obtain ⟨hj, rfl⟩ := List.getElem?_eq_some_iff.1 hx
  rw [List.drop_eq_getElem_cons hj] at h
  by_cases hc : l[j] = 13 ∨ l[j] = 10
  · refine .inl ⟨decide_eq_true hc, ?_⟩
    rw [← h, decide_eq_true_eq]
    rcases hc with hc | hc
    · exact .inl (by rw [hc]; simp)
    · exact .inr (by rw [hc]; simp)
  · refine .inr ⟨decide_eq_false hc, ?_⟩
    rw [← h, Bool.eq_iff_iff, decide_eq_true_eq, decide_eq_true_eq, List.mem_cons, List.mem_cons]
    constructor
    · exact fun h => h.imp .inr .inr
    · rintro ((h | h) | (h | h))
      · exact absurd (.inl h.symm) hc
      · exact .inl h
      · exact absurd (.inr h.symm) hc
      · exact .inr h
set_option maxRecDepth 1000000 in
set_option maxHeartbeats 8000000 in
theorem any_long (w : World) (b off c n : Nat) (l : List UInt8) (hn : n = l.length) (hr : RB w w.heap.size (some ⟨b, off, none⟩) l) (h8 : 8 < n) (hl : n ≤ 4611686018427387904) (bo : Bool) (hbo : decide ((13 : UInt8) ∈ l ∨ (10 : UInt8) ∈ l) = bo) :
    Calls Tryd.prog 37 #[.slice (some ⟨b, off, none⟩) n c, .string crlf] w (AnyPost w bo) := by
  have hsz : crlf.size = 2 := rfl
  have hne : crlf.toList.isEmpty = false := by rw [Lib.toList_data]; rfl
  have h81 : decide ((8 : Int) < (n : Int)) = true := decide_eq_true (by omega)
  have hn1 : ((n : Int) == 1) = false := beq_eq_false_iff_ne.2 (by omega)
  obtain ⟨S, hS⟩ : ∃ S, Lib.setCells [13, 10] = S := ⟨_, rfl⟩
  have hSz : S.size = 256 := by rw [← hS]; exact Lib.setCells_size _
  have hsc : (storeCells ⟨w.heap.size + 1, 0, none⟩ S.toList 0).run Tryd.prog ((w.alloc (.cells S 72)).alloc (.cells (Array.replicate 256 (.bool false)) 72)) = .ok () ((w.alloc (.cells S 72)).alloc (.cells S 72)) := by
    have := run_storeCells_new (P := Tryd.prog) (w.alloc (.cells S 72)) 72 (Array.replicate 256 (.bool false)) S (by rw [hSz]; exact (zero_of_info set_info).2) (by rw [hSz, Array.size_replicate]) (by rw [← hS]; exact Lib.setCells_one _)
    simpa using this
  have hB2 : Below w.heap.size w ((w.alloc (.cells S 72)).alloc (.cells S 72)) := ((Below.refl _ _).alloc (Nat.le_refl _) _).alloc (by simp) _
  have HC : Hid (∀ x : UInt8, ((w.alloc (.cells S 72)).alloc (.cells S 72)).cell? ⟨w.heap.size + 1, x.toNat, none⟩ = some (.bool (decide (x = 13 ∨ x = 10)))) := Lib.hid fun x => by
    rw [World.cell?_alloc_at _ _ _ _ (by simp), ← hS, set_at]
  have HB2 := Lib.hid hB2
  have hat : Hid (∀ (j : Nat) (x : UInt8), l[j]? = some x → ((w.alloc (.cells S 72)).alloc (.cells S 72)).cell? ⟨b, off + j, none⟩ = some (.int .u8 x.toNat)) := Lib.hid (by
    intro j x hx
    obtain ⟨hj, rfl⟩ := List.getElem?_eq_some_iff.1 hx
    obtain ⟨b1, off1, e, _, hcl⟩ := (hr.below hB2).at_ hj
    injection e with e
    injection e with e1 e2
    subst e1 e2
    rw [hcl j hj, bt_getElem hj])
  have HN := Lib.hid hn
  have hM := mk_walk w
  rw [hS] at hM
  have HM := Lib.hid hM
  have KS := Lib.hid (should_walk (n : Int) w)
  rw [h81] at KS
  have H0 : Hid (decide ((13 : UInt8) ∈ l.drop 0 ∨ (10 : UInt8) ∈ l.drop 0) = bo) := Lib.hid (by rw [List.drop_zero]; exact hbo)
  clear hr hB2 hn hM hbo h81
  generalize crlf = C at *
  go_enter Tryd.func37, Tryd.ntmps37
  go_wp2_with fail
  refine KS.out.mono ?_
  rintro e5 w5 ⟨rfl, rfl⟩
  go_wp2_with fail
  refine HM.out.mono ?_
  rintro e5 w5 ⟨rfl, hw5⟩
  rw [hw5]
  clear hw5
  have hv27 := (zero_of_info set_info).1
  go_wp2
  clear HM KS hsc hv27
  generalize (w.alloc (.cells S 72)).alloc (.cells S 72) = W2 at *
  go_loopg [62] n (fun k s wr => wr = W2 ∧ ∃ j : Nat, j + k = n ∧ s = .int .i64 j ∧ Hid (decide ((13 : UInt8) ∈ l.drop j ∨ (10 : UInt8) ∈ l.drop j) = bo))
  case atStart => exact ⟨rfl, 0, by omega, rfl, H0⟩
  case round =>
    obtain ⟨rfl, j, hj, rfl, H⟩ := hrel
    clear H0
    by_cases hlt : j < n
    · have hj1 : (j : Int) < (n : Int) := by omega
      have e1 : IntKind.i64.wrap ((j : Int) + 1) = (j : Int) + 1 := IntWalk.i64_in _ (by omega)
      have hlt2 : j < l.length := by rw [← HN.out]; exact hlt
      obtain ⟨x, hx⟩ : ∃ x, l[j]? = some x := ⟨_, List.getElem?_eq_getElem hlt2⟩
      have kx := hat.out j x hx
      have ks := HC.out x
      have hd := hit_drop hx H.out
      clear hx H hlt2
      rcases hd with ⟨h1, h2⟩ | ⟨h1, h2⟩
      · rw [h1] at ks
        have KC := Lib.hid (Any.bytes_asciiSet_contains Tryd.laysCt (w.heap.size + 1) x true wr ks)
        subst h2
        clear ks h1 hat HC
        generalize (x.toNat : Int) = xv at *
        go_wp2_with (refine KC.out.mono ?_; rintro e6 w6 ⟨rfl, hw6⟩; rw [hw6]; clear hw6)
        go_ret
        exact ⟨HB2.out, _, rfl, by simp⟩
      · rw [h1] at ks
        have KC := Lib.hid (Any.bytes_asciiSet_contains Tryd.laysCt (w.heap.size + 1) x false wr ks)
        have H2 := Lib.hid h2
        clear ks h1 h2 hat HC
        generalize (x.toNat : Int) = xv at *
        go_wp2_with (refine KC.out.mono ?_; rintro e6 w6 ⟨rfl, hw6⟩; rw [hw6]; clear hw6)
        go_roundg (gk - 1)
        case rel => exact ⟨rfl, j + 1, by omega, by go_num, H2⟩
        case measure => omega
    · have hj1 : ¬ (j : Int) < (n : Int) := by omega
      have hb : bo = false := by
        rw [← H.out, List.drop_eq_nil_of_le (by rw [← HN.out]; omega)]
        rfl
      subst hb
      clear H hat HC
      go_wp2
      go_ret
      exact ⟨HB2.out, _, rfl, rfl⟩
end Go.Proofs.YtkemmgfmmfcdlaaDoor
