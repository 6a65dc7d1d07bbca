/-
  The walk of the program's add. Conditions: the sizes.
-/
import Derived.Test.YtlknclkkhincfaaDoorTbLo
import Derived.Test.YtlknclkkhincfaaDoorTbIx
import Derived.Test.YtlknclkkhincfaaDoorLibAll
import Derived.Shelf.Strings.SlTrimAscii
namespace Go.Proofs.YtlknclkkhincfaaDoor
open Go.RowKit Go.Shelf
set_option linter.unusedVariables false
def bs (l : List UInt8) : ByteArray := ⟨l.toArray⟩
theorem bs_list (l : List UInt8) : (bs l).data.toList = l := by simp [bs]
theorem bs_size (l : List UInt8) : (bs l).size = l.length := by simp [bs, ByteArray.size]
theorem bs_of (s : ByteArray) : bs s.data.toList = s := by cases s; rfl
theorem bs_inj {a b : List UInt8} (h : bs a = bs b) : a = b := by rw [← bs_list a, h, bs_list]
theorem bs_nil (l : List UInt8) : (bs l).toList = l := by rw [Lib.toList_data, bs_list]
theorem uxS : UX Tryd.prog 48 9 1 := by
  obtain ⟨i, h1, h2, h3, h4⟩ := info_parts (show (Tryd.prog.info? 9).map (fun i => (i.zero, i.size, i.bytes)) = some (some (.string ⟨#[]⟩), 1, 16) by kernel_rfl)
  exact ⟨Tryd.underlying48, ⟨i, _, h1, h2, rfl, h3, by omega⟩, by omega⟩
theorem trim_call (s : ByteArray) (hs : s.size ≤ 9223372036854775807) (w : World) : Calls Tryd.prog 47 #[.string s, .string ⟨#[32, 9]⟩] w fun e w' => e = .returned (.string (bs (trimB s.data.toList))) ∧ Below w.heap.size w w' := by
  have h := Any.strings_Trim_laid Tryd.lays160 (by kernel_rfl) s bl2 w hs (by decide) (fun j b hb => of_decide_eq_true (List.all_eq_true.1 (show bl2.data.toList.all (fun b => decide (b.toNat < 128)) = true by decide) b (List.mem_of_getElem? hb)))
  have e : Lib.trimS s.data.toList bl2.data.toList = trimB s.data.toList := trimB_lib _
  rw [e] at h
  exact h
theorem one_str (s : ByteArray) : ∀ u ∈ ([.string s] : List Value), u.oneCell' = true := fun u hu => by
  obtain rfl : u = _ := List.mem_singleton.1 hu
  rfl
/-- what add leaves of the pieces, in the cell at o + 2 of block b -/
def AddPost (w : World) (b o : Nat) (L : List (List UInt8)) (g : Option Nat) (s : List UInt8) (e : Ending) (w' : World) : Prop :=
  e = .returned (.tuple #[]) ∧ ((trimB s = [] ∧ Below w.heap.size w w') ∨ (trimB s ≠ [] ∧ ∃ v' g' w2, OwnX 1 w2 g' v' ((L ++ [trimB s]).map fun l => Value.string (bs l)) ∧ w.grownBy w2 g ∧ (g' = g ∨ ∃ k, g' = some k ∧ w.heap.size ≤ k) ∧ w' = w2.setCell ⟨b, o + 2, none⟩ v'))
theorem grown_below {w w1 w2 : World} {g : Option Nat} (hb : Below w.heap.size w w1) (hg : w1.grownBy w2 g) : w.grownBy w2 g :=
  ⟨hg.os.trans hb.os, hg.tape.trans hb.tape, hg.output.trans hb.output, Nat.le_trans hb.size hg.size, fun i hi h => (hg.block i (Nat.lt_of_lt_of_le hi hb.size) h).trans (hb.block i hi)⟩
set_option maxRecDepth 100000 in
set_option maxHeartbeats 1000000 in
theorem add_walk (w : World) (b o : Nat) (A : Option Addr) (n c : Nat) (g : Option Nat) (L : List (List UInt8)) (s : ByteArray) (hs : s.size ≤ 1000000) (hc : w.cell? ⟨b, o + 2, none⟩ = some (.slice A n c)) (hf : w.frozen? ⟨b, o + 2, none⟩ = false) (hX : OwnX 1 w g (.slice A n c) (L.map fun l => Value.string (bs l))) (hg : g ≠ some b) (hL : L.length ≤ 1000000) :
    Calls Tryd.prog 49 #[.pointer (some ⟨b, o, none⟩), .string s] w (AddPost w b o L g s.data.toList) := by
  have hb0 : b < w.heap.size := World.block_lt_of_cell? _ _ hc
  have HT := Lib.hid (trim_call s (by omega))
  have HC := Lib.hid hc
  have HF := Lib.hid hf
  have HX := Lib.hid hX
  have HG := Lib.hid hg
  obtain ⟨t, ht⟩ : ∃ t, trimB s.data.toList = t := ⟨_, rfl⟩
  have HE : Hid (trimB s.data.toList = t) := Lib.hid ht
  rw [ht] at HT
  clear hc hf hX hg ht
  by_cases h0 : t = []
  · subst h0
    go_enter Tryd.func49, Tryd.ntmps49
    go_wp2_with fail
    refine (HT.out w).mono ?_
    rintro e w1 ⟨rfl, hb1⟩
    have HB1 := Lib.hid hb1
    have hn : (bs []).toList = [] := bs_nil []
    clear hb1
    go_wp2_with fail
    go_end0
    exact ⟨rfl, .inl ⟨HE.out, HB1.out⟩⟩
  · go_enter Tryd.func49, Tryd.ntmps49
    go_wp2_with fail
    refine (HT.out w).mono ?_
    rintro e w1 ⟨rfl, hb1⟩
    have HB1 := Lib.hid hb1
    have H0 := Lib.hid h0
    have hn : ((bs t).toList == []) = false := by rw [bs_nil]; exact beq_eq_false_iff_ne.2 h0
    have hn1 : (!(bs t).toList.isEmpty) = true := by rw [bs_nil]; cases t with | nil => exact absurd rfl h0 | cons _ _ => rfl
    have hn2 : ¬ (bs t).toList = [] := by rw [bs_nil]; exact h0
    have c1 : w1.cell? ⟨b, o + 2, none⟩ = some (.slice A n c) := (hb1.cell (p := ⟨b, o + 2, none⟩) hb0).trans HC.out
    have HX1 := Lib.hid (HX.out.below hb1 fun k hk => HX.out.lt hk)
    have hb2 := hb1.alloc hb1.size (.cells #[.string (bs t)] 9)
    have HX2 := Lib.hid (HX.out.below hb2 fun k hk => HX.out.lt hk)
    have HB2 := Lib.hid hb2
    have c2 : (w1.alloc (.cells #[.string (bs t)] 9)).cell? ⟨b, o + 2, none⟩ = some (.slice A n c) := (hb2.cell (p := ⟨b, o + 2, none⟩) hb0).trans HC.out
    have f2 := (hb2.frozen (p := ⟨b, o + 2, none⟩) hb0).trans HF.out
    have HC2 := Lib.hid c2
    have HF2 := Lib.hid f2
    clear hb1 h0 hb2 c2 f2 HT
    go_wp2_with (at_builtin; refine wpList_appX _ uxS (.tmp 12) (.tmp 14) rfl rfl rfl HX2.out (some ⟨w1.heap.size, 0, none⟩) 1 1 rfl [.string (bs t)] rfl (fun h => by cases h) (one_newS w1 9 _) (one_str _) (by rw [List.length_map]; omega) ?_; intro v3 g3 w3 hX3 hG3 ho3; obtain ⟨A3, n3, c3', rfl, -⟩ := hX3.sl; have HX3 := Lib.hid hX3; have HG3 := Lib.hid hG3; have HO3 := Lib.hid ho3; have c3 : w3.cell? ⟨b, o + 2, none⟩ = some (.slice A n c) := (World.cell?_of_block (w := w1.alloc (.cells #[.string (bs t)] 9)) (hG3.block b (by have := HB2.out.size; omega) (fun e => HG.out e.symm))).trans HC2.out; have f3 : w3.frozen? ⟨b, o + 2, none⟩ = false := (World.frozen?_of_block (w := w1.alloc (.cells #[.string (bs t)] 9)) (hG3.block b (by have := HB2.out.size; omega) (fun e => HG.out e.symm))).trans HF2.out; clear hX3 hG3 ho3)
    go_end0
    refine ⟨rfl, .inr ⟨by rw [HE.out]; exact H0.out, _, g3, w3, ?_, grown_below HB2.out HG3.out, ?_, rfl⟩⟩
    · rw [HE.out, List.map_append]; exact HX3.out
    · rcases HO3.out with h | h
      · exact .inl h
      · exact .inr ⟨_, h, by have := HB2.out.size; omega⟩
end Go.Proofs.YtlknclkkhincfaaDoor
