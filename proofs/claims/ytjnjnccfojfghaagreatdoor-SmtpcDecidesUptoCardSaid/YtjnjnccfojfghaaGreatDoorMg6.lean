/-
  Several texts in one: LnSt, RNext, IdxA, Text. Conditions: each part names its own.
-/
import Derived.Test.YtjnjnccfojfghaaGreatDoorMg3
import Derived.Test.YtjnjnccfojfghaaGreatDoorMg5
import Derived.Test.YtjnjnccfojfghaaGreatDoorMg4
import Derived.Test.YtjnjnccfojfghaaGreatDoorMg2
import Derived.Laws.Runes
import Derived.Laws.RangeString
import Derived.Lib.IndexEntry
import Derived.Shelf.Bytes.SlTrimWalks
import Derived.Shelf.Spec.DecodeRune
import Derived.Test.YtjnjnccfojfghaaGreatDoorProg
import Derived.Test.YtjnjnccfojfghaaGreatDoorMg1
import Derived.Laws.RangeAny
import Derived.Lib.Strings
import Derived.PlainAid
set_option linter.unusedSimpArgs false
/-! How a content is sent, and that its lines come back, in plain words. No program in sight. No condition. -/
namespace Go.Proofs.YtjnjnccfojfghaaGreatDoor
set_option linter.unusedVariables false

/-- a content of lines -/
def joinL : List (List UInt8) → List UInt8
  | [] => []
  | x :: r => x ++ 13 :: 10 :: joinL r
def cleanL (x : List UInt8) : Prop := (0 : UInt8) ∉ x ∧ (13 : UInt8) ∉ x ∧ (10 : UInt8) ∉ x
theorem contF_lines : ∀ (n : Nat) (d : List UInt8) (long : Bool), d.length < n → (0 : UInt8) ∉ d → contF n d long = 0 → long = false ∧ ∃ L, d = joinL L ∧ ∀ x ∈ L, cleanL x ∧ x.length ≤ 998
  | 0, d, long, hn, _, _ => by omega
  | n + 1, d, long, hn, h0, h => by
    rw [contF] at h
    by_cases hd : d = []
    · rw [if_pos hd] at h
      cases long
      · exact ⟨rfl, [], hd, by simp⟩
      · exact absurd h (by decide)
    · rw [if_neg hd] at h
      cases e : cutCR d with
      | none => rw [e] at h; simp at h
      | some xy =>
        obtain ⟨x, y⟩ := xy
        rw [e] at h
        simp only [] at h
        obtain ⟨h1, h2⟩ := cutCR_some e
        have hl : d.length = x.length + (y.length + 2) := by rw [h1]; simp
        by_cases hc : (13 : UInt8) ∈ x ∨ (10 : UInt8) ∈ x
        · rw [if_pos hc] at h; exact absurd h (by decide)
        · rw [if_neg hc] at h
          obtain ⟨hlg, L, hL, hx⟩ := contF_lines n y _ (by omega) (fun hm => h0 (by rw [h1]; simp [hm])) h
          simp only [Bool.or_eq_false_iff, decide_eq_false_iff_not] at hlg
          refine ⟨hlg.1, x :: L, by rw [h1, hL]; rfl, fun z hz => ?_⟩
          rcases List.mem_cons.1 hz with rfl | hz
          · exact ⟨⟨fun hm => h0 (by rw [h1]; simp [hm]), fun hm => hc (.inl hm), fun hm => hc (.inr hm)⟩, by omega⟩
          · exact hx z hz
theorem cont_lines {d : List UInt8} (h : contP d = 0) : ∃ L, d = joinL L ∧ ∀ x ∈ L, cleanL x ∧ x.length ≤ 998 := by
  unfold contP at h
  by_cases h0 : (0 : UInt8) ∈ d
  · rw [if_pos h0] at h; exact absurd h (by decide)
  · rw [if_neg h0] at h
    exact (contF_lines _ d false (by omega) h0 h).2
/-- one line as it is sent -/
def stuffLn (x : List UInt8) : List UInt8 := if x.head? = some 46 then 46 :: x else x
/-- the document's way -/
def rS (prev : UInt8) : List UInt8 → List UInt8
  | [] => []
  | c :: r => if c = 46 ∧ prev = 10 then 46 :: c :: rS c r else c :: rS c r
theorem rS_run : ∀ (x y : List UInt8) (p : UInt8), p ≠ 10 → (10 : UInt8) ∉ x → rS p (x ++ 13 :: 10 :: y) = x ++ 13 :: 10 :: rS 10 y
  | [], y, p, hp, _ => by
    rw [List.nil_append, rS, if_neg (fun e => absurd e.1 (by decide)), rS, if_neg (by decide)]
    rfl
  | c :: x, y, p, hp, h => by
    rw [List.cons_append, rS, if_neg (fun e => hp e.2), rS_run x y c (fun e => h (by simp [e])) (fun e => h (by simp [e]))]
    rfl
theorem rS_line (x y : List UInt8) (h : (10 : UInt8) ∉ x) : rS 10 (x ++ 13 :: 10 :: y) = stuffLn x ++ 13 :: 10 :: rS 10 y := by
  cases x with
  | nil =>
    rw [List.nil_append, rS, if_neg (by decide), rS, if_neg (by decide)]
    rfl
  | cons c x =>
    have hc : c ≠ 10 := fun e => h (by simp [e])
    rw [List.cons_append, rS, rS_run x y c hc (fun e => h (by simp [e]))]
    unfold stuffLn
    by_cases h46 : c = 46
    · rw [if_pos ⟨h46, rfl⟩, if_pos (by rw [h46]; rfl)]; subst h46; rfl
    · rw [if_neg (fun e => h46 e.1), if_neg (by simpa using h46)]; rfl
theorem rS_lines : ∀ L : List (List UInt8), (∀ x ∈ L, cleanL x) → rS 10 (joinL L) = joinL (L.map stuffLn)
  | [], _ => rfl
  | x :: L, h => by
    rw [joinL, rS_line x _ (h x (by simp)).2.2, rS_lines L (fun y hy => h y (by simp [hy]))]
    rfl
/-- old, replaced everywhere -/
def replS (old new : List UInt8) : Nat → List UInt8 → List UInt8
  | 0, s => s
  | k + 1, s => if Lib.index s old = -1 then s else s.take (Lib.index s old).toNat ++ new ++ replS old new k (s.drop ((Lib.index s old).toNat + old.length))
def dots : List UInt8 := [13, 10, 46]
theorem idx_dot_hit (r : List UInt8) : Lib.index (13 :: 10 :: 46 :: r) dots = 0 := by rw [Lib.index]; simp [dots, List.isPrefixOf]
theorem idx_dot_miss {c : UInt8} {r : List UInt8} (h : dots.isPrefixOf (c :: r) = false) : Lib.index (c :: r) dots = if Lib.index r dots = -1 then -1 else Lib.index r dots + 1 := by
  rw [Lib.index, h]; simp
theorem count_dot_hit (r : List UInt8) : Lib.count (13 :: 10 :: 46 :: r) dots = 1 + Lib.count r dots := by
  have := Lib.count_hit (sub := dots) (s := 13 :: 10 :: 46 :: r) (i := 0) (by simp [dots]) (idx_dot_hit r)
  simpa [dots] using this
theorem count_dot_miss {c : UInt8} {r : List UInt8} (h : dots.isPrefixOf (c :: r) = false) : Lib.count (c :: r) dots = Lib.count r dots := by
  have hx := idx_dot_miss h
  by_cases hm : Lib.index r dots = -1
  · rw [Lib.count_miss hm, Lib.count_miss (by rw [hx, if_pos hm])]
  · have hge := Lib.index_ge r dots
    obtain ⟨j, hj⟩ : ∃ j : Nat, Lib.index r dots = j := ⟨(Lib.index r dots).toNat, by omega⟩
    have hx' : Lib.index (c :: r) dots = ((j + 1 : Nat) : Int) := by rw [hx, if_neg hm, hj]; omega
    rw [Lib.count_hit (by simp [dots]) hj, Lib.count_hit (by simp [dots]) hx']
    simp [dots]
/-- what ReplaceAll makes of a content -/
def repl (s : List UInt8) : List UInt8 := replS dots [13, 10, 46, 46] (Lib.count s dots) s
theorem repl_miss {c : UInt8} {r : List UInt8} (h : dots.isPrefixOf (c :: r) = false) : repl (c :: r) = c :: repl r := by
  unfold repl
  rw [count_dot_miss h]
  cases hk : Lib.count r dots with
  | zero => rfl
  | succ k =>
    have hx := idx_dot_miss h
    by_cases hm : Lib.index r dots = -1
    · rw [Lib.count_miss hm] at hk; omega
    · have hge := Lib.index_ge r dots
      obtain ⟨j, hj⟩ : ∃ j : Nat, Lib.index r dots = j := ⟨(Lib.index r dots).toNat, by omega⟩
      rw [replS, replS, hx, if_neg hm, if_neg hm, hj, if_neg (by omega)]
      have e1 : ((j : Int) + 1).toNat = j + 1 := by omega
      have e2 : (j : Int).toNat = j := by omega
      rw [e1, e2]
      simp [Nat.add_right_comm j 1]
theorem repl_hit (r : List UInt8) : repl (13 :: 10 :: 46 :: r) = 13 :: 10 :: 46 :: 46 :: repl r := by
  unfold repl
  rw [count_dot_hit, Nat.add_comm, replS, idx_dot_hit, if_neg (by decide)]
  rfl
theorem repl_nil : repl [] = [] := rfl
theorem pre_ne {c : UInt8} {r : List UInt8} (h : c ≠ 13) : dots.isPrefixOf (c :: r) = false := by simp [dots, List.isPrefixOf, Ne.symm h]
theorem repl_run : ∀ (x t : List UInt8), (13 : UInt8) ∉ x → repl (x ++ t) = x ++ repl t
  | [], t, _ => rfl
  | c :: x, t, h => by
    rw [List.cons_append, repl_miss (pre_ne (fun e => h (by simp [e]))), repl_run x t (fun e => h (by simp [e]))]
    rfl
theorem repl_lines : ∀ (L : List (List UInt8)) (x : List UInt8), cleanL x → (∀ y ∈ L, cleanL y) → repl (joinL (x :: L)) = x ++ 13 :: 10 :: joinL (L.map stuffLn)
  | [], x, hx, _ => by
    have e : repl [13, 10] = [13, 10] := by
      rw [repl_miss (by decide), repl_miss (by decide), repl_nil]
    rw [joinL, repl_run x _ hx.2.1]
    show x ++ repl [13, 10] = _
    rw [e]
    rfl
  | z :: L, x, hx, h => by
    have hz := h z (by simp)
    have hL := fun y hy => h y (List.mem_cons_of_mem _ hy)
    rw [joinL, repl_run x _ hx.2.1]
    congr 1
    cases z with
    | nil =>
      have ih := repl_lines L [] hz hL
      rw [repl_miss (by simp [joinL, dots, List.isPrefixOf]), repl_miss (pre_ne (by decide)), ih]
      rfl
    | cons c z =>
      by_cases hc : c = 46
      · subst hc
        have ih := repl_lines L z ⟨fun e => hz.1 (by simp [e]), fun e => hz.2.1 (by simp [e]), fun e => hz.2.2 (by simp [e])⟩ hL
        show repl (13 :: 10 :: 46 :: joinL (z :: L)) = _
        rw [repl_hit, ih]
        rfl
      · have ih := repl_lines L (c :: z) hz hL
        rw [repl_miss (by simp [joinL, dots, List.isPrefixOf, Ne.symm hc]), repl_miss (pre_ne (by decide)), ih]
        rw [List.map_cons, joinL, stuffLn, if_neg (by simpa using hc)]
/-- with the first line's dot -/
def lead (l : List UInt8) : List UInt8 := if l.head? = some 46 then 46 :: l else l
theorem lead_lines (L : List (List UInt8)) (h : ∀ y ∈ L, cleanL y) : lead (repl (joinL L)) = joinL (L.map stuffLn) := by
  cases L with
  | nil => rfl
  | cons x L =>
    rw [repl_lines L x (h x (by simp)) (fun y hy => h y (by simp [hy]))]
    rw [List.map_cons, joinL]
    unfold lead stuffLn
    cases x with
    | nil => rfl
    | cons c x =>
      by_cases hc : c = 46
      · subst hc; rfl
      · rw [if_neg (by simpa using hc), if_neg (by simpa using hc)]
/-- a content as it is sent -/
def stuffP (d : List UInt8) : List UInt8 := lead (repl d) ++ [46, 13, 10]
def rstuffP (d : List UInt8) : List UInt8 := rS 10 d ++ [46, 13, 10]
theorem stuff_eq {d : List UInt8} (h : contP d = 0) : rstuffP d = stuffP d := by
  obtain ⟨L, rfl, hL⟩ := cont_lines h
  unfold rstuffP stuffP
  rw [rS_lines L (fun x hx => (hL x hx).1), lead_lines L (fun x hx => (hL x hx).1)]
theorem stuff_lines {L : List (List UInt8)} (hL : ∀ x ∈ L, cleanL x) : stuffP (joinL L) = joinL (L.map stuffLn) ++ [46, 13, 10] := by
  unfold stuffP
  rw [lead_lines L hL]
/-! ### a line that was sent, as content -/
def dotP (l : List UInt8) : List UInt8 × Bool := if l = [46] then ([], true) else match l with
  | [] => ([], false)
  | c :: r => if c = 46 then (r, false) else (c :: r, false)
theorem dot_stuff (x : List UInt8) : dotP (stuffLn x) = (x, false) := by
  unfold stuffLn
  cases x with
  | nil => rfl
  | cons c x =>
    by_cases hc : c = 46
    · subst hc
      rw [if_pos (show (46 :: x : List UInt8).head? = some 46 from rfl)]
      unfold dotP
      rw [if_neg (by simp)]
      rfl
    · rw [if_neg (by simpa using hc)]
      unfold dotP
      rw [if_neg (by simp [hc])]
      show (if c = 46 then _ else _) = _
      rw [if_neg hc]
theorem stuffLn_clean {x : List UInt8} (h : cleanL x) : cleanL (stuffLn x) := by
  unfold stuffLn
  split
  · exact ⟨fun e => by rcases List.mem_cons.1 e with e | e; exact absurd e (by decide); exact h.1 e, fun e => by rcases List.mem_cons.1 e with e | e; exact absurd e (by decide); exact h.2.1 e, fun e => by rcases List.mem_cons.1 e with e | e; exact absurd e (by decide); exact h.2.2 e⟩
  · exact h
theorem stuffLn_len (x : List UInt8) : (stuffLn x).length ≤ x.length + 1 := by unfold stuffLn; split <;> simp
theorem suf_13 (x : List UInt8) : Lib.hasSuffix (x ++ [13]) [13] = true ∧ Lib.trimSuffix (x ++ [13]) [13] = x := by
  have h : Lib.hasSuffix (x ++ [13]) [13] = true := by simp [Lib.hasSuffix]
  refine ⟨h, ?_⟩
  unfold Lib.trimSuffix
  rw [if_pos h]
  simp
theorem next_line {most : Nat} {x : List UInt8} (y : List UInt8) (h : cleanL x) (hl : x.length ≤ most) : nextP most (x ++ 13 :: 10 :: y) = some ((x, 0), y) := by
  unfold nextP
  have e : x ++ 13 :: 10 :: y = (x ++ [13]) ++ 10 :: y := by simp
  rw [e, cutAt_app y (by
    intro hm
    rcases List.mem_append.1 hm with hm | hm
    · exact h.2.2 hm
    · simp at hm)]
  obtain ⟨h1, h2⟩ := suf_13 x
  show some (nxLine most (x ++ [13]), y) = _
  unfold nxLine
  rw [h2, h1, if_neg (by omega), if_neg h.1, if_neg (by simp [h.2.1])]
end Go.Proofs.YtjnjnccfojfghaaGreatDoor

/-! The walks of waybillref12's has and Next. Conditions: the sizes. -/
namespace Go.Proofs.YtjnjnccfojfghaaGreatDoor
open Go.RowKit
set_option linter.unusedVariables false

theorem byte_beq (a b : UInt8) : ((a.toNat : Int) == (b.toNat : Int)) = decide (a = b) := by
  rw [Bool.eq_iff_iff, beq_iff_eq, decide_eq_true_eq]
  constructor
  · intro h; exact UInt8.toNat_inj.1 (by omega)
  · intro h; rw [h]
/-- what Next answers, and what it leaves -/
def NextPost (T : TypeId) (w : World) (base p : Nat) (own : Option Nat) (most : Nat) (l : List UInt8) (e : Ending) (w' : World) : Prop :=
  (nextP most l = none ∧ e = .returned (.tuple #[.slice none 0 0, .int .i64 0, .bool false]) ∧ Below w.heap.size w w' ∧ Rd w' T base p own most l) ∨
  ∃ r y v own', nextP most l = some (r, y) ∧ e = .returned (.tuple #[v, .int .i64 r.2, .bool true]) ∧ OwnV w' w.heap.size v r.1 ∧ Chg p none w w' ∧ Rd w' T base p own' most y ∧ (own' = own ∨ own' = none ∨ ∃ g, own' = some g ∧ w.heap.size ≤ g)
theorem take_cut {l x y : List UInt8} (h : l = x ++ 10 :: y) : l.take x.length = x ∧ l.drop (x.length + 1) = y := by
  subst h
  refine ⟨by simp, ?_⟩
  rw [show x.length + 1 = (x ++ [10]).length by simp, show x ++ 10 :: y = (x ++ [10]) ++ y by simp, List.drop_left]
theorem Chg.own {p : Nat} {w w' w2 : World} (h : Chg p none w w') {own : Option Nat} (hg : w'.grownBy w2 own) (ho : own = none ∨ ∃ g, own = some g ∧ w.heap.size ≤ g) : Chg p none w w2 :=
  ⟨hg.os.trans h.os, hg.tape.trans h.tape, hg.output.trans h.output, Nat.le_trans h.size hg.size, fun i hi h1 h2 => (hg.block i (Nat.lt_of_lt_of_le hi h.size) (fun e => by
    rcases ho with rfl | ⟨g, rfl, hg⟩
    · cases e
    · injection e with e; omega)).trans (h.block i hi h1 h2)⟩
theorem hasSuf13 (x : List UInt8) (h : x ≠ []) : Lib.hasSuffix x [13] = decide (x.getLast? = some 13) := by
  rw [Bool.eq_iff_iff, decide_eq_true_eq]
  constructor
  · intro hs
    have : [13] <:+ x := by simpa [Lib.hasSuffix] using hs
    obtain ⟨m, rfl⟩ := this
    simp
  · intro hl
    rw [List.getLast?_eq_some_iff] at hl
    obtain ⟨m, rfl⟩ := hl
    exact (suf_13 m).1
end Go.Proofs.YtjnjnccfojfghaaGreatDoor

/-! bytes.IndexAny and ContainsAny at CR and LF. Conditions: the library's tables, the sizes. -/
namespace Go.Proofs.YtjnjnccfojfghaaGreatDoor
open Go.RowKit
set_option linter.unusedVariables false
/-- the library's tables, whatever has been laid from block B on -/
def TabsL (B : Nat) (w : World) : Prop := ∀ w', Below B w w' → Lib.Utf8Tabs 1 2 w' ∧ ∃ m : Int, w'.cell? ⟨0, 0, none⟩ = some (.int .i64 m)
theorem TabsL.below {B : Nat} {w w' : World} (h : TabsL B w) (hb : Below B w w') : TabsL B w' := fun w2 hb2 => h w2 (hb.trans hb2)
def crlf : ByteArray := ⟨#[13, 10]⟩
theorem decN_facts (n b0 b1 b2 b3 : Nat) (h0 : 128 ≤ b0) (h0' : b0 < 256) : (Lib.decodeN n b0 b1 b2 b3).1 = 65533 ∨
    (2 ≤ (Lib.decodeN n b0 b1 b2 b3).2 ∧ 128 ≤ (Lib.decodeN n b0 b1 b2 b3).1 ∧ ((Lib.decodeN n b0 b1 b2 b3).1 < 55296 ∨ (57344 ≤ (Lib.decodeN n b0 b1 b2 b3).1 ∧ (Lib.decodeN n b0 b1 b2 b3).1 ≤ 1114111)) ∧
      (((Lib.decodeN n b0 b1 b2 b3).2 = 2 ∧ (Lib.decodeN n b0 b1 b2 b3).1 < 2048) ∨ ((Lib.decodeN n b0 b1 b2 b3).2 = 3 ∧ 2048 ≤ (Lib.decodeN n b0 b1 b2 b3).1 ∧ (Lib.decodeN n b0 b1 b2 b3).1 < 65536) ∨ ((Lib.decodeN n b0 b1 b2 b3).2 = 4 ∧ 65536 ≤ (Lib.decodeN n b0 b1 b2 b3).1))) := by
  unfold Lib.decodeN
  split
  · omega
  split
  · split
    · exact .inr ⟨by simp, by simp only []; omega, by simp only []; omega, .inl ⟨rfl, by simp only []; omega⟩⟩
    · exact .inl rfl
  split
  · split
    · exact .inr ⟨by simp, by simp only []; omega, by simp only []; omega, .inr (.inl ⟨rfl, by simp only []; omega, by simp only []; omega⟩)⟩
    · exact .inl rfl
  split
  · split
    · exact .inr ⟨by simp, by simp only []; omega, by simp only []; omega, .inr (.inr ⟨rfl, by simp only []; omega⟩)⟩
    · exact .inl rfl
  · exact .inl rfl
theorem enc_valid (r : Nat) (h : r < 55296 ∨ (57344 ≤ r ∧ r ≤ 1114111)) : Utf8.valid (r : Int) = true := by
  unfold Utf8.valid
  simp
  omega
theorem enc_size (r : Nat) (hv : Utf8.valid (r : Int) = true) (h : 128 ≤ r) : (Utf8.encode (r : Int)).size = if r < 2048 then 2 else if r < 65536 then 3 else 4 := by
  have hc : ¬ ((r : Int)).toNat < 128 := by omega
  have e : ((r : Int)).toNat = r := by omega
  unfold Utf8.encode
  simp only [hv, if_true, hc, if_false]
  rw [e]
  split
  · rfl
  · split <;> rfl
theorem enc_high (r : Nat) (hv : Utf8.valid (r : Int) = true) (h : 128 ≤ r) : crlf ≠ Utf8.encode (r : Int) := by
  intro e
  obtain ⟨h1, h2, h3⟩ := encode_facts (r : Int) hv (by omega)
  rw [← e] at h3
  have := h3 (by decide)
  exact absurd this (by decide)
/-- what a rune of more than one byte says -/
def RuneHi (l : List UInt8) (r k : Nat) : Prop := 1 ≤ k ∧ k ≤ l.length ∧ (∀ i, i < k → 128 ≤ (l.getD i 0).toNat) ∧
  (r = 65533 ∨ (r ≠ 65533 ∧ 2 ≤ k ∧ 128 ≤ r ∧ crlf ≠ Utf8.encode (r : Int) ∧ (Utf8.encode (r : Int)).size = k))
theorem runeHi (s : ByteArray) (h0 : 0 < s.size) (hb : 128 ≤ (s.data.toList.getD 0 0).toNat) : RuneHi s.data.toList (Lib.decodeGo s).1 (Lib.decodeGo s).2 := by
  have hd : Lib.decodeGo s = Utf8.decode s 0 := by unfold Lib.decodeGo; rw [if_neg (by omega)]
  rw [hd]
  have hw := width_one s 0
  have hc := fun j h1 h2 => cont_hi s 0 j h1 h2
  refine ⟨hw, ?_, ?_, ?_⟩
  · rw [← Lib.size_eq]
    rcases Nat.lt_or_ge 1 (Utf8.decode s 0).2 with h | h
    · have := (hc ((Utf8.decode s 0).2 - 1) (by omega) (by omega)).1; omega
    · omega
  · intro i hi
    rcases Nat.eq_zero_or_pos i with rfl | hp
    · exact hb
    · have := (hc i hp hi).2
      rwa [Nat.zero_add] at this
  · have hN := Lib.decode_N s 0
    rw [hN]
    have hlt : (s.data.toList.getD 0 0).toNat < 256 := UInt8.toNat_lt _
    have := decN_facts (s.data.toList.length - 0) (s.data.toList.getD 0 0).toNat (s.data.toList.getD (0 + 1) 0).toNat (s.data.toList.getD (0 + 2) 0).toNat (s.data.toList.getD (0 + 3) 0).toNat hb hlt
    by_cases h5 : (Lib.decodeN (s.data.toList.length - 0) (s.data.toList.getD 0 0).toNat (s.data.toList.getD (0 + 1) 0).toNat (s.data.toList.getD (0 + 2) 0).toNat (s.data.toList.getD (0 + 3) 0).toNat).1 = 65533
    · exact .inl h5
    · rcases this with h | ⟨h1, h2, h3, h4⟩
      · exact absurd h h5
      · have hv := enc_valid _ h3
        have hs := enc_size _ hv h2
        refine .inr ⟨h5, h1, h2, enc_high _ hv h2, ?_⟩
        rw [hs]
        rcases h4 with ⟨a, b⟩ | ⟨a, b, c⟩ | ⟨a, b⟩
        · rw [if_pos b, a]
        · rw [if_neg (by omega), if_pos c, a]
        · rw [if_neg (by omega), if_neg (by omega), a]
/-- utf8.DecodeRune at bytes of which the first is no ASCII -/
theorem decrune_walk (w : World) {B b off : Nat} {l : List UInt8} (hT : Lib.Utf8Tabs 1 2 w) (h : RB w B (some ⟨b, off, none⟩) l) (n cap : Nat) (hn : n = l.length) (h0 : 0 < n) (hb : 128 ≤ (l.getD 0 0).toNat) :
    Calls Tryz.prog 125 #[.slice (some ⟨b, off, none⟩) n cap] w fun e w' => Below w.heap.size w w' ∧ ∃ r k : Nat, e = .returned (.tuple #[.int .i32 r, .int .i64 k]) ∧ RuneHi l r k := by
  subst hn
  have hs : (⟨l.toArray⟩ : ByteArray).size = l.length := by rw [Lib.size_eq]
  have hl : (⟨l.toArray⟩ : ByteArray).data.toList = l := by simp
  have := Any7.utf8_DecodeRune Tryz.laysDR ⟨l.toArray⟩ b off cap w hT (fun j hj => by
    rw [hs] at hj
    obtain ⟨b', off', e, _, hc⟩ := h.at_ hj
    injection e with e
    injection e with e1 e2
    subst e1 e2
    rw [hc j hj]
    congr 2
    unfold bt
    have he : l[j]? = some l[j] := List.getElem?_eq_getElem hj
    simp [ByteArray.get!, List.getD_eq_getElem?_getD, he])
  rw [hs] at this
  refine this.mono ?_
  rintro e w' ⟨rfl, hbl⟩
  exact ⟨hbl, _, _, rfl, by have := runeHi ⟨l.toArray⟩ (by rw [hs]; exact h0) (by rw [hl]; exact hb); rwa [hl] at this⟩
theorem set_info : (Tryz.prog.info? 174).map (fun i => (i.zero, i.size)) = some (some (.agg (Array.replicate 256 (.bool false))), 256) := by kernel_rfl
theorem mk_walk (w : World) : Calls Tryz.prog 162 #[.string crlf] w fun e w' => e = .returned (.tuple #[.agg (Lib.setCells [13, 10]), .bool true]) ∧ w' = w.alloc (.cells (Lib.setCells [13, 10]) 174) :=
  Any.bytes_makeASCIISet Tryz.laysMk (zero_of_info set_info).1 (zero_of_info set_info).2 crlf w (by decide) (by
    intro j b hb
    match j, hb with
    | 0, hb => injection hb with hb; subst hb; decide
    | 1, hb => injection hb with hb; subst hb; decide
    | j + 2, hb => simp [crlf] at hb)
theorem should_walk (n : Int) (w : World) : Calls Tryz.prog 161 #[.int .i64 n] w fun e w' => w = w' ∧ e = .returned (.bool (decide (8 < n))) := by
  go_enter Tryz.func161, Tryz.ntmps161
  go_wp2
  go_ret
  exact ⟨rfl, rfl⟩
/-- IndexAny's answer -/
def AnyPost (w : World) (bo : Bool) (e : Ending) (w' : World) : Prop := Below w.heap.size w w' ∧ ∃ i : Int, e = .returned (.int .i64 i) ∧ decide (0 ≤ i) = bo
theorem ibs_crlf (x : UInt8) : decide (0 ≤ Lib.indexByte crlf.data.toList ((x.toNat : Int)).toNat.toUInt8) = decide (x = 13 ∨ x = 10) := by
  have : ((x.toNat : Int)).toNat.toUInt8 = x := by simp
  rw [Bool.eq_iff_iff, decide_eq_true_eq, decide_eq_true_eq, this, indexByte_mem]
  simp [crlf]
theorem ibs_run (x : UInt8) (w : World) (b : Bool) (hb : decide (x = 13 ∨ x = 10) = b) : ∃ i : Int, (Extern.BytealgIndexByte.indexByte #[.string crlf, .int .u8 (x.toNat : Int)]).run Tryz.prog w = .ok (.int .i64 i) w ∧ decide (0 ≤ i) = b :=
  ⟨_, Lib.run_indexByteString crlf (x.toNat : Int) w, by rw [ibs_crlf, hb]⟩
theorem nx0 (w : World) (ty : TypeId) : (Instr.next (.pointer (some ⟨w.heap.size, 0, none⟩)) true ty).run Tryz.prog (w.iter crlf 0) = .ok (.tuple #[.bool true, .int .i64 0, .int .i32 13]) (w.iter crlf 1) := run_next_ascii w crlf 0 ty (by decide) (by decide)
theorem nx1 (w : World) (ty : TypeId) : (Instr.next (.pointer (some ⟨w.heap.size, 0, none⟩)) true ty).run Tryz.prog (w.iter crlf 1) = .ok (.tuple #[.bool true, .int .i64 1, .int .i32 10]) (w.iter crlf 2) := run_next_ascii w crlf 1 ty (by decide) (by decide)
theorem nx2 (w : World) (ty : TypeId) : (Instr.next (.pointer (some ⟨w.heap.size, 0, none⟩)) true ty).run Tryz.prog (w.iter crlf 2) = .ok (.tuple #[.bool false]) (w.iter crlf 2) := run_next_end w crlf 2 ty (by decide)
theorem below_iter (w : World) (k : Nat) : Below w.heap.size w (w.iter crlf k) := (Below.refl _ _).alloc (Nat.le_refl _) _
set_option maxRecDepth 100000 in
set_option maxHeartbeats 2000000 in
theorem any_one (w : World) (b off c : Nat) (x : UInt8) (k0 : w.cell? ⟨b, off, none⟩ = some (.int .u8 x.toNat)) (bo : Bool) (hbo : decide (x = 13 ∨ x = 10) = bo) :
    Calls Tryz.prog 123 #[.slice (some ⟨b, off, none⟩) 1 c, .string crlf] w (AnyPost w bo) := by
  have hsz : crlf.size = 2 := rfl
  have hne : crlf.toList.isEmpty = false := by rw [Lib.toList_data]; rfl
  have hlt : (x.toNat : Int) < 256 := by have := UInt8.toNat_lt x; omega
  have e32 : wrap32 (x.toNat : Int) = (x.toNat : Int) := by
    first
    | (unfold wrap32; omega)
    | exact wrap32_in (by omega) (by omega)
  by_cases hx : 128 ≤ x.toNat
  · have hx2 : (128 : Int) ≤ (x.toNat : Int) := by omega
    have hb : bo = false := by
      rw [← hbo, decide_eq_false_iff_not]
      rintro (rfl | rfl) <;> exact absurd hx (by decide)
    subst hb
    have N0 := nx0 w
    have N1 := nx1 w
    have N2 := nx2 w
    have HB := Lib.hid (below_iter w)
    clear hbo hx
    generalize crlf = C at *
    go_enter Tryz.func123, Tryz.ntmps123
    go_wp2_with fail
    go_loopg [] 2 (fun k wr => ∃ i, i + k = 2 ∧ wr = w.iter C i)
    case atStart => exact ⟨0, rfl, rfl⟩
    case round =>
      obtain ⟨i, hi, rfl⟩ := hrel
      have hi3 : i = 0 ∨ i = 1 ∨ i = 2 := by omega
      rcases hi3 with rfl | rfl | rfl
      · clear N1 N2
        go_wp2
        go_roundg (gk - 1)
        case rel => exact ⟨1, by omega, rfl⟩
        case measure => omega
      · clear N0 N2
        go_wp2
        go_roundg (gk - 1)
        case rel => exact ⟨2, by omega, rfl⟩
        case measure => omega
      · clear N1 N0
        go_wp2
        go_ret
        exact ⟨HB.out 2, _, rfl, rfl⟩
  · have hx2 : ¬ (128 : Int) ≤ (x.toNat : Int) := by omega
    obtain ⟨i, hi, hib⟩ := ibs_run x w bo hbo
    have HI := Lib.hid hi
    clear hbo hi
    generalize crlf = C at *
    generalize (x.toNat : Int) = xv at *
    cases bo
    case' true =>
      have hi0 := of_decide_eq_true hib
      go_enter Tryz.func123, Tryz.ntmps123
      go_wp2_with fail
    case' false =>
      have hi0 := of_decide_eq_false hib
      go_enter Tryz.func123, Tryz.ntmps123
      go_wp2_with fail
    all_goals
      rw [run_callFunc_extern Tryz.func159 (by kernel_rfl) (by kernel_rfl) (by kernel_rfl) (e := Extern.BytealgIndexByte.indexByte) (by kernel_rfl), HI.out]
      simp only [Result.andThen]
      rw [Oper.upon_value]
      go_wp2
      go_ret
      exact ⟨Below.refl _ _, _, rfl, rfl⟩
theorem set_at (x : UInt8) : (Lib.setCells [13, 10])[x.toNat]? = some (.bool (decide (x = 13 ∨ x = 10))) := by
  rw [Lib.setCells_at]
  congr 2
  rw [Bool.eq_iff_iff]
  simp
theorem hit_drop {l : List UInt8} {j : Nat} {x : UInt8} {bo : Bool} (hx : l[j]? = some x) (h : decide ((13 : UInt8) ∈ l.drop j ∨ (10 : UInt8) ∈ l.drop j) = bo) :
    (decide (x = 13 ∨ x = 10) = true ∧ bo = true) ∨ (decide (x = 13 ∨ x = 10) = false ∧ decide ((13 : UInt8) ∈ l.drop (j + 1) ∨ (10 : UInt8) ∈ l.drop (j + 1)) = bo) := by
  obtain ⟨hj, rfl⟩ := List.getElem?_eq_some_iff.1 hx
  rw [List.drop_eq_getElem_cons hj] at h
  by_cases hc : l[j] = 13 ∨ l[j] = 10
  · refine .inl ⟨decide_eq_true hc, ?_⟩
    rw [← h, decide_eq_true_eq]
    rcases hc with hc | hc
    · exact .inl (by rw [hc]; simp)
    · exact .inr (by rw [hc]; simp)
  · refine .inr ⟨decide_eq_false hc, ?_⟩
    rw [← h, Bool.eq_iff_iff, decide_eq_true_eq, decide_eq_true_eq, List.mem_cons, List.mem_cons]
    constructor
    · exact fun h => h.imp .inr .inr
    · rintro ((h | h) | (h | h))
      · exact absurd (.inl h.symm) hc
      · exact .inl h
      · exact absurd (.inr h.symm) hc
      · exact .inr h
set_option maxRecDepth 1000000 in
set_option maxHeartbeats 8000000 in
theorem any_long (w : World) (b off c n : Nat) (l : List UInt8) (hn : n = l.length) (hr : RB w w.heap.size (some ⟨b, off, none⟩) l) (h8 : 8 < n) (hl : n ≤ 4611686018427387904) (bo : Bool) (hbo : decide ((13 : UInt8) ∈ l ∨ (10 : UInt8) ∈ l) = bo) :
    Calls Tryz.prog 123 #[.slice (some ⟨b, off, none⟩) n c, .string crlf] w (AnyPost w bo) := by
  have hsz : crlf.size = 2 := rfl
  have hne : crlf.toList.isEmpty = false := by rw [Lib.toList_data]; rfl
  have h81 : decide ((8 : Int) < (n : Int)) = true := decide_eq_true (by omega)
  have hn1 : ((n : Int) == 1) = false := beq_eq_false_iff_ne.2 (by omega)
  obtain ⟨S, hS⟩ : ∃ S, Lib.setCells [13, 10] = S := ⟨_, rfl⟩
  have hSz : S.size = 256 := by rw [← hS]; exact Lib.setCells_size _
  have hsc : (storeCells ⟨w.heap.size + 1, 0, none⟩ S.toList 0).run Tryz.prog ((w.alloc (.cells S 174)).alloc (.cells (Array.replicate 256 (.bool false)) 174)) = .ok () ((w.alloc (.cells S 174)).alloc (.cells S 174)) := by
    have := run_storeCells_new (P := Tryz.prog) (w.alloc (.cells S 174)) 174 (Array.replicate 256 (.bool false)) S (by rw [hSz]; exact (zero_of_info set_info).2) (by rw [hSz, Array.size_replicate]) (by rw [← hS]; exact Lib.setCells_one _)
    simpa using this
  have hB2 : Below w.heap.size w ((w.alloc (.cells S 174)).alloc (.cells S 174)) := ((Below.refl _ _).alloc (Nat.le_refl _) _).alloc (by simp) _
  have HC : Hid (∀ x : UInt8, ((w.alloc (.cells S 174)).alloc (.cells S 174)).cell? ⟨w.heap.size + 1, x.toNat, none⟩ = some (.bool (decide (x = 13 ∨ x = 10)))) := Lib.hid fun x => by
    rw [World.cell?_alloc_at _ _ _ _ (by simp), ← hS, set_at]
  have HB2 := Lib.hid hB2
  have hat : Hid (∀ (j : Nat) (x : UInt8), l[j]? = some x → ((w.alloc (.cells S 174)).alloc (.cells S 174)).cell? ⟨b, off + j, none⟩ = some (.int .u8 x.toNat)) := Lib.hid (by
    intro j x hx
    obtain ⟨hj, rfl⟩ := List.getElem?_eq_some_iff.1 hx
    obtain ⟨b1, off1, e, _, hcl⟩ := (hr.below hB2).at_ hj
    injection e with e
    injection e with e1 e2
    subst e1 e2
    rw [hcl j hj, bt_getElem hj])
  have HN := Lib.hid hn
  have hM := mk_walk w
  rw [hS] at hM
  have HM := Lib.hid hM
  have KS := Lib.hid (should_walk (n : Int) w)
  rw [h81] at KS
  have H0 : Hid (decide ((13 : UInt8) ∈ l.drop 0 ∨ (10 : UInt8) ∈ l.drop 0) = bo) := Lib.hid (by rw [List.drop_zero]; exact hbo)
  clear hr hB2 hn hM hbo h81
  generalize crlf = C at *
  go_enter Tryz.func123, Tryz.ntmps123
  go_wp2_with fail
  refine KS.out.mono ?_
  rintro e5 w5 ⟨rfl, rfl⟩
  go_wp2_with fail
  refine HM.out.mono ?_
  rintro e5 w5 ⟨rfl, hw5⟩
  rw [hw5]
  clear hw5
  have hv27 := (zero_of_info set_info).1
  go_wp2
  clear HM KS hsc hv27
  generalize (w.alloc (.cells S 174)).alloc (.cells S 174) = W2 at *
  go_loopg [62] n (fun k s wr => wr = W2 ∧ ∃ j : Nat, j + k = n ∧ s = .int .i64 j ∧ Hid (decide ((13 : UInt8) ∈ l.drop j ∨ (10 : UInt8) ∈ l.drop j) = bo))
  case atStart => exact ⟨rfl, 0, by omega, rfl, H0⟩
  case round =>
    obtain ⟨rfl, j, hj, rfl, H⟩ := hrel
    clear H0
    by_cases hlt : j < n
    · have hj1 : (j : Int) < (n : Int) := by omega
      have e1 : IntKind.i64.wrap ((j : Int) + 1) = (j : Int) + 1 := IntWalk.i64_in _ (by omega)
      have hlt2 : j < l.length := by rw [← HN.out]; exact hlt
      obtain ⟨x, hx⟩ : ∃ x, l[j]? = some x := ⟨_, List.getElem?_eq_getElem hlt2⟩
      have kx := hat.out j x hx
      have ks := HC.out x
      have hd := hit_drop hx H.out
      clear hx H hlt2
      rcases hd with ⟨h1, h2⟩ | ⟨h1, h2⟩
      · rw [h1] at ks
        have KC := Lib.hid (Any.bytes_asciiSet_contains Tryz.laysCt (w.heap.size + 1) x true wr ks)
        subst h2
        clear ks h1 hat HC
        generalize (x.toNat : Int) = xv at *
        go_wp2_with (refine KC.out.mono ?_; rintro e6 w6 ⟨rfl, hw6⟩; rw [hw6]; clear hw6)
        go_ret
        exact ⟨HB2.out, _, rfl, by simp⟩
      · rw [h1] at ks
        have KC := Lib.hid (Any.bytes_asciiSet_contains Tryz.laysCt (w.heap.size + 1) x false wr ks)
        have H2 := Lib.hid h2
        clear ks h1 h2 hat HC
        generalize (x.toNat : Int) = xv at *
        go_wp2_with (refine KC.out.mono ?_; rintro e6 w6 ⟨rfl, hw6⟩; rw [hw6]; clear hw6)
        go_roundg (gk - 1)
        case rel => exact ⟨rfl, j + 1, by omega, by go_num, H2⟩
        case measure => omega
    · have hj1 : ¬ (j : Int) < (n : Int) := by omega
      have hb : bo = false := by
        rw [← H.out, List.drop_eq_nil_of_le (by rw [← HN.out]; omega)]
        rfl
      subst hb
      clear H hat HC
      go_wp2
      go_ret
      exact ⟨HB2.out, _, rfl, rfl⟩
end Go.Proofs.YtjnjnccfojfghaaGreatDoor

/-! The walks of reply.text, waybillref14.Text, reply.code, waybillref14.Code. No condition but the sizes that the form gives. -/
namespace Go.Proofs.YtjnjnccfojfghaaGreatDoor
open Go.RowKit
set_option linter.unusedVariables false

/-- may a text have this byte? -/
def okC (x : Int) : Bool := decide (x = 9 ∨ (32 ≤ x ∧ x ≤ 126))
def okB (c : UInt8) : Bool := okC (c.toNat : Int)
def textOk (l : List UInt8) : Bool := l.all okB && decide (l.length ≤ 506)
/-- may a code be? -/
def codeOk (n : Int) : Bool := decide (200 ≤ n ∧ n ≤ 599 ∧ n / 10 % 10 ≤ 5)

theorem get_list (s : ByteArray) (j : Nat) (h : j < s.size) : ((s[j]'h).toNat : Int) = bt s.data.toList j := by
  rw [bt_getElem (by rw [← size_len]; exact h)]; rfl

set_option maxHeartbeats 1000000 in
theorem text_walk (s : ByteArray) (w : World) (hs : s.size ≤ maxLen) :
    Calls Tryz.prog 94 #[.string s] w fun e w' => Below w.heap.size w w' ∧ e = .returned (.bool (textOk s.data.toList)) := by
  unfold maxLen at hs
  obtain ⟨T, hT⟩ : ∃ T, textOk s.data.toList = T := ⟨_, rfl⟩
  have HT := Lib.hid hT
  rw [hT]; clear hT
  go_enter Tryz.func94, Tryz.ntmps94
  go_wp2
  go_loopg [7] s.size (fun k _ wr => ∃ (j : Nat), j + k = s.size ∧ w.iter s j = wr ∧ Hid (((s.data.toList.drop j).all okB && decide (s.data.toList.length ≤ 506)) = T))
  case atStart => exact ⟨0, by omega, rfl, Lib.hid HT.out⟩
  case round =>
    obtain ⟨j, hj, rfl, H⟩ := hrel
    have hbl : Below w.heap.size w (w.iter s j) := (Below.refl _ _).alloc (Nat.le_refl _) _
    by_cases hlt : j < s.size
    · obtain ⟨c, hc1, hc2⟩ := drop_bt (l := s.data.toList) (j := j) (by rw [← size_len]; exact hlt)
      have hg := get_list s j hlt
      have hb0 := bt_lo s.data.toList j
      have hb1 := bt_hi s.data.toList j
      rw [hc1, List.all_cons] at H
      by_cases ha : (s[j]'hlt).toNat < 128
      · have hn := run_next_ascii (P := Tryz.prog) w s j 0 hlt ha
        rw [hg] at hn
        have hxb : Hid (okB c = okC (bt s.data.toList j)) := Lib.hid (by unfold okB; rw [hc2])
        have hx7 : bt s.data.toList j < 128 := by omega
        clear hc1 hc2 ha hg
        generalize bt s.data.toList j = x at *
        refine on_ne x 9 (fun X1 X2 => ?_) (fun X1 X2 => ?_) <;> obtain ⟨X3, X5⟩ := X2.out <;> clear X2
        all_goals go_wp2
        all_goals first
          | (go_ret
             refine ⟨(Below.refl _ _).alloc (Nat.le_refl _) _, ?_⟩
             go_light
             have X4 := X1.out
             try simp only [Bool.or_eq_false_iff, decide_eq_false_iff_not, Bool.or_eq_true, decide_eq_true_eq] at *
             have e1 : okC x = false := by unfold okC; rw [decide_eq_false_iff_not]; omega
             rw [← H.out, hxb.out, e1]
             rfl)
          | (go_roundg (gk - 1)
             case rel =>
               go_light
               have X4 := X1.out
               try simp only [Bool.or_eq_false_iff, decide_eq_false_iff_not, Bool.or_eq_true, decide_eq_true_eq] at *
               have e1 : okC x = true := by unfold okC; rw [decide_eq_true_eq]; omega
               rw [hxb.out, e1, Bool.true_and] at H
               exact ⟨j + 1, by omega, rfl, H⟩
             case measure => omega)
      · have hn := run_next_any (P := Tryz.prog) w s j 0 hlt
        have hh := decode_high s j hlt (Nat.le_of_not_lt ha)
        have hh2 := decode_le s j
        have h128 := Nat.le_of_not_lt ha
        have hxb : Hid (okB c = false) := Lib.hid (by unfold okB okC; rw [decide_eq_false_iff_not, hc2, ← hg]; omega)
        obtain ⟨r, hr⟩ : ∃ r : Int, ((Utf8.decode s j).1 : Int) = r := ⟨_, rfl⟩
        have hr1 : 128 ≤ r := by have := hh.1; omega
        have hr3 : r ≤ 2147483647 := by omega
        rw [hr] at hn
        generalize (Utf8.decode s j).2 = n at *
        clear hc1 hc2 ha hg hb0 hb1 h128 hh hh2 hr
        have hr2 : (r == 9) = false := beq_eq_false_iff_ne.2 (by omega)
        have hr4 : (r != 9) = true := bne_iff_ne.2 (by omega)
        go_wp2
        go_ret
        refine ⟨(Below.refl _ _).alloc (Nat.le_refl _) _, ?_⟩
        go_light
        rw [← H.out, hxb.out]
        rfl
    · have hn := run_next_end (P := Tryz.prog) w s j 0 hlt
      rw [List.drop_eq_nil_of_le (by rw [← size_len]; omega)] at H
      have hd : Hid (decide (s.data.toList.length ≤ 506) = decide ((s.size : Int) ≤ 506)) := Lib.hid (by rw [← size_len, decide_eq_decide]; omega)
      clear hlt
      go_wp2
      go_ret
      refine ⟨(Below.refl _ _).alloc (Nat.le_refl _) _, ?_⟩
      go_light
      have e := H.out
      rw [List.all_nil, Bool.true_and, hd.out] at e
      rw [← e]
      rfl

theorem rtext_walk (s : ByteArray) (w : World) (hs : s.size ≤ maxLen) :
    Calls Tryz.prog 70 #[.string s] w fun e w' => w = w' ∧ e = .returned (.bool (textOk s.data.toList)) := by
  unfold maxLen at hs
  have hE : textOk s.data.toList = if 506 < s.size then false else s.data.toList.all okB := by
    unfold textOk
    rw [← size_len]
    split
    · rw [decide_eq_false (by omega), Bool.and_false]
    · rw [decide_eq_true (by omega), Bool.and_true]
  by_cases h5 : 506 < s.size
  · rw [hE, if_pos h5]
    have h5' : (506 : Int) < (s.size : Int) := by omega
    clear hE
    go_enter Tryz.func70, Tryz.ntmps70
    go_wp2
    go_ret
    exact ⟨rfl, rfl⟩
  · rw [hE, if_neg h5]
    have h5' : (s.size : Int) ≤ 506 := by omega
    clear hE h5
    obtain ⟨T, hT⟩ : ∃ T, s.data.toList.all okB = T := ⟨_, rfl⟩
    have HT := Lib.hid hT
    rw [hT]; clear hT
    go_enter Tryz.func70, Tryz.ntmps70
    go_wp2
    go_loopg [3] s.size (fun k i wr => w = wr ∧ ∃ (j : Nat), j + k = s.size ∧ i = .int .i64 j ∧ Hid ((s.data.toList.drop j).all okB = T))
    case atStart => exact ⟨rfl, 0, by omega, rfl, HT⟩
    case round =>
      obtain ⟨rfl, j, hj, rfl, H⟩ := hrel
      by_cases hlt : j < s.size
      · obtain ⟨c, hc1, hc2⟩ := drop_bt (l := s.data.toList) (j := j) (by rw [← size_len]; exact hlt)
        have hg := get_list s j hlt
        have hb0 := bt_lo s.data.toList j
        have hb1 := bt_hi s.data.toList j
        rw [hc1, List.all_cons] at H
        have hxb : Hid (okB c = okC (bt s.data.toList j)) := Lib.hid (by unfold okB; rw [hc2])
        have hj2 : (j : Int) < (s.size : Int) := by omega
        clear hc1 hc2
        generalize bt s.data.toList j = x at *
        refine on_ne x 9 (fun X1 X2 => ?_) (fun X1 X2 => ?_) <;> obtain ⟨X3, X5⟩ := X2.out <;> clear X2
        all_goals go_wp2
        all_goals first
          | (go_ret
             refine ⟨rfl, ?_⟩
             go_light
             have X4 := X1.out
             try simp only [Bool.or_eq_false_iff, decide_eq_false_iff_not, Bool.or_eq_true, decide_eq_true_eq] at *
             have e1 : okC x = false := by unfold okC; rw [decide_eq_false_iff_not]; omega
             rw [← H.out, hxb.out, e1]
             rfl)
          | (go_roundg (gk - 1)
             case rel =>
               go_light
               have X4 := X1.out
               try simp only [Bool.or_eq_false_iff, decide_eq_false_iff_not, Bool.or_eq_true, decide_eq_true_eq] at *
               have e1 : okC x = true := by unfold okC; rw [decide_eq_true_eq]; omega
               rw [hxb.out, e1, Bool.true_and] at H
               exact ⟨by trivial, j + 1, by omega, by go_num, H⟩
             case measure => omega)
      · have hj2 : (s.size : Int) ≤ (j : Int) := by omega
        rw [List.drop_eq_nil_of_le (by rw [← size_len]; omega)] at H
        go_wp2
        go_ret
        refine ⟨rfl, ?_⟩
        rw [← H.out]
        rfl

theorem code_walk (n : Int) (w : World) : 
    Calls Tryz.prog 55 #[.int .i64 n] w fun e w' => w = w' ∧ e = .returned (.bool (codeOk n)) := by
  obtain ⟨T, hT⟩ : ∃ T, codeOk n = T := ⟨_, rfl⟩
  have HT := Lib.hid hT
  rw [hT]; clear hT
  go_enter Tryz.func55, Tryz.ntmps55
  go_wp2
  all_goals
    go_ret
    refine ⟨rfl, ?_⟩
    rw [← HT.out]
    unfold codeOk
    refine congrArg (fun b => Ending.returned (.bool b)) (?_ : _ = _)
    first
    | (rw [decide_eq_decide]; omega)
    | (symm; rw [decide_eq_false_iff_not]; omega)
theorem rcode_walk (n : Int) (w : World) : 
    Calls Tryz.prog 42 #[.int .i64 n] w fun e w' => w = w' ∧ e = .returned (.bool (codeOk n)) := by
  obtain ⟨T, hT⟩ : ∃ T, codeOk n = T := ⟨_, rfl⟩
  have HT := Lib.hid hT
  rw [hT]; clear hT
  go_enter Tryz.func42, Tryz.ntmps42
  go_wp2
  all_goals
    go_ret
    refine ⟨rfl, ?_⟩
    rw [← HT.out]
    unfold codeOk
    refine congrArg (fun b => Ending.returned (.bool b)) (?_ : _ = _)
    first
    | (rw [decide_eq_decide]; omega)
    | (symm; rw [decide_eq_false_iff_not]; omega)
end Go.Proofs.YtjnjnccfojfghaaGreatDoor
