/-
  Several texts in one: ScOpr, ScDcP, ScDc0. Conditions: each part names its own.
-/
import Derived.Test.YtjnjnccfojfghaaGreatDoorMg20
import Derived.Test.YtjnjnccfojfghaaGreatDoorMg19
import Derived.Test.YtjnjnccfojfghaaGreatDoorMg27
import Derived.Test.YtjnjnccfojfghaaGreatDoorMg17
import Derived.Test.YtjnjnccfojfghaaGreatDoorMg30
import Derived.Test.YtjnjnccfojfghaaGreatDoorMg7
set_option linter.unusedSimpArgs false
/-! Opening an argument that is a row of replies. No condition. -/
namespace Go.Proofs.YtjnjnccfojfghaaGreatDoor
open Go.ChangeShapes Go.WideShapes Go.ChangeAt Go.RowKit Go.Deep
set_option linter.unusedVariables false
/-- a reply as it lies -/
structure RpM where
  c : Int
  L : List ByteArray
  A : Option Addr
  cp : Nat
def rpV (r : RpM) : List Value := [.int .i64 r.c, .slice r.A r.L.length r.cp]
structure RpR (w : World) (B : Nat) (r : RpM) : Prop where
  rs : RS w B r.A r.L
  hl : r.L.length ≤ r.cp
  hc : r.cp ≤ maxLen
  hs : ∀ s ∈ r.L, s.size ≤ maxLen
theorem RpR.below {w w' : World} {B : Nat} {r : RpM} (h : RpR w B r) (hb : Below B w w') : RpR w' B r := ⟨h.rs.below hb, h.hl, h.hc, h.hs⟩
/-- a row of replies -/
def RRs (w : World) (B : Nat) (A : Option Addr) (R : List RpM) : Prop :=
  R = [] ∨ ∃ b off, A = some ⟨b, off, none⟩ ∧ b < B ∧ ∀ i r, R[i]? = some r → w.cell? ⟨b, off + i * 2, none⟩ = some (.int .i64 r.c) ∧ w.cell? ⟨b, off + i * 2 + 1, none⟩ = some (.slice r.A r.L.length r.cp) ∧ RpR w B r
theorem RRs.below {w w' : World} {B : Nat} {A : Option Addr} {R : List RpM} (h : RRs w B A R) (hb : Below B w w') : RRs w' B A R := by
  rcases h with h | ⟨b, off, rfl, hlt, hc⟩
  · exact .inl h
  · refine .inr ⟨b, off, rfl, hlt, fun i r hr => ?_⟩
    obtain ⟨q1, q2, q3⟩ := hc i r hr
    exact ⟨by rw [hb.cell (show b < B from hlt)]; exact q1, by rw [hb.cell (show b < B from hlt)]; exact q2, q3.below hb⟩
section
variable {H : Type} {enc : TypeId × Value → H} {P : Program}
theorem trodS2 {w : World} {base : Nat} {spare : Nat → Bool} {held : Bool} {t : TypeId} {f0 f1 : Field} {fuel : Nat} {cs : List Value} {x : DataW H × List MemPlace} (ht : P.underlying t = some (.struct #[f0, f1])) (h : DataW.trod enc P w base spare held fuel t cs = some x) :
    ∃ y0 y1 n, x = (.agg [y0.1, y1.1], y0.2 ++ y1.2) ∧ cs.length = P.cellsOf t ∧ DataW.trod enc P w base spare held n f0.type ((cs.drop f0.offset).take (P.cellsOf f0.type)) = some y0 ∧
      DataW.trod enc P w base spare held n f1.type ((cs.drop f1.offset).take (P.cellsOf f1.type)) = some y1 := by
  obtain ⟨xs, n, _, rfl, hl, hlen, hf⟩ := DataW.trod_struct ht h
  match xs, hlen with
  | [y0, y1], _ => exact ⟨y0, y1, n, by simp, hl, by simpa using hf 0 f0 rfl, by simpa using hf 1 f1 rfl⟩
end
section
variable {H : Type} {enc : TypeId × Value → H}
set_option maxRecDepth 100000 in
theorem open_replyC {W : World} {fuel : Nat} {cs : List Value} {y : DataW H × List MemPlace} (h : DataW.trod enc Tryz.prog W 0 (fun _ => true) true fuel 57 cs = some y) :
    ∃ r : RpM, cs = rpV r ∧ RpR W W.heap.size r := by
  obtain ⟨y0, y1, n, rfl, hl, h0, h1⟩ := trodS2 Tryz.underlying57 h
  rw [show Tryz.prog.cellsOf 57 = 2 by kernel_rfl] at hl
  match cs, hl with
  | [x0, x1], _ =>
    have ki : Tryz.prog.cellsOf 3 = 1 := by kernel_rfl
    have ks : Tryz.prog.cellsOf 41 = 1 := by kernel_rfl
    have e0 : (([x0, x1] : List Value).drop 0).take (Tryz.prog.cellsOf 3) = [x0] := by rw [ki]; rfl
    have e1 : (([x0, x1] : List Value).drop 1).take (Tryz.prog.cellsOf 41) = [x1] := by rw [ks]; rfl
    have g0 := (congrArg (fun z => DataW.trod enc Tryz.prog W 0 (fun _ => true) true n 3 z) e0).symm.trans h0
    have g1 := (congrArg (fun z => DataW.trod enc Tryz.prog W 0 (fun _ => true) true n 41 z) e1).symm.trans h1
    obtain ⟨z, r0, -, -⟩ := DataW.trod_int Tryz.underlying3 g0
    obtain rfl : x0 = _ := by simpa using r0
    obtain ⟨A, L, cp, rfl, q1, q2, q3, q4⟩ := open_strs Tryz.underlying41 Tryz.underlying9 (by kernel_rfl) g1
    exact ⟨⟨z, L, A, cp⟩, rfl, ⟨q3, q1, q2, q4⟩⟩
set_option maxRecDepth 100000 in
theorem open_replies {W : World} {r : Reach} {b0 : Nat} {v : Value} {d : DataW H} {p : List MemPlace} (hv : Value.okWide Tryz.prog W r b0 54 v) (h : DataW.Trod enc Tryz.prog W 0 (fun _ => true) true 54 v d p) :
    ∃ A R cp, v = .slice A R.length cp ∧ R.length ≤ cp ∧ cp ≤ maxLen ∧ RRs W W.heap.size A R := by
  obtain ⟨a0, len0, cap0, rfl⟩ := okWide_slice Tryz.underlying54 hv
  obtain ⟨fuel, hf⟩ := Joins.field_of_Trod h rfl
  rcases open_slice Tryz.underlying54 hf with ⟨hcs, hy⟩ | ⟨a, len, cap, m, n', D, Pl, hcs, hb, hl, hm, hmm, hx, hi⟩
  · have hcs : Value.slice a0 len0 cap0 = .slice none 0 0 := by simpa using hcs
    rw [hcs]
    exact ⟨none, [], 0, rfl, by simp, by simp [maxLen], .inl rfl⟩
  · have hcs : Value.slice a0 len0 cap0 = .slice (some a) len cap := by simpa using hcs
    rw [hcs]
    simp only [if_true] at hmm
    subst hmm
    have hC : Tryz.prog.cellsOf 57 = 2 := by kernel_rfl
    have key : ∀ i, ∃ r : RpM, i < m → W.cell? (a.add (i * 2)) = some (.int .i64 r.c) ∧ W.cell? (a.add (i * 2 + 1)) = some (.slice r.A r.L.length r.cp) ∧ RpR W W.heap.size r := by
      intro i
      by_cases him : i < m
      · obtain ⟨cs', hc, ht'⟩ := hi i him
        rw [hC] at hc
        obtain ⟨_, hcl, hat⟩ := World.cells?_some hc
        obtain ⟨r, rfl, h1⟩ := open_replyC ht'
        have c0 := hat 0 (by decide)
        have c1 := hat 1 (by decide)
        rw [Go.Deep.add_add] at c0 c1
        exact ⟨r, fun _ => ⟨c0, c1, h1⟩⟩
      · exact ⟨⟨0, [], none, 0⟩, fun h => absurd h him⟩
    obtain ⟨f, hf⟩ := Classical.skolem.1 key
    have hlen : ((List.range len).map f).length = len := by simp
    refine ⟨some a, (List.range len).map f, m, by rw [hlen], by rw [hlen]; exact hl, hm, ?_⟩
    rcases Nat.eq_zero_or_pos len with h0 | h0
    · subst h0; exact .inl (by simp)
    · obtain ⟨b, off, spot⟩ := a
      have hc0 := (hf 0 (by omega)).1
      obtain rfl : spot = none := by simpa [Addr.add] using World.cell?_spot hc0
      have hlt := World.block_lt_of_cell? _ _ hc0
      refine .inr ⟨b, off, rfl, by simpa [Addr.add_lit] using hlt, fun i r hr => ?_⟩
      have hi := (List.getElem?_eq_some_iff.1 hr).1
      rw [hlen] at hi
      have hp2 : f i = r := by
        have := (List.getElem?_eq_some_iff.1 hr).2
        simpa using this
      obtain ⟨q0, q1, q2⟩ := hf i (by omega)
      rw [hp2, Addr.add_lit] at q0 q1
      rw [hp2] at q2
      exact ⟨q0, by rw [Nat.add_assoc]; exact q1, q2⟩
end
end Go.Proofs.YtjnjnccfojfghaaGreatDoor

/-! Who is delivered, bounced, pending, by which reply: the plain law. No condition. -/
namespace Go.Proofs.YtjnjnccfojfghaaGreatDoor
set_option linter.unusedVariables false
def fits (st cl : Nat) : Prop := (st = 2 ∧ cl = 2) ∨ (st = 3 ∧ cl = 5) ∨ (st = 1 ∧ cl = 4)
/-- what is known of a recipient: nothing became of it, or what one of the replies in S says -/
def DsI (S : List (Int × Tx)) (p : Pers) : Prop :=
  (p.st = 0 ∧ p.code = 0 ∧ p.text = []) ∨ (codeOk p.code = true ∧ (p.code, p.text) ∈ S ∧ fits p.st (clsN p.code))
def DsA (S : List (Int × Tx)) (c : ClM) : Prop := ∀ p ∈ c.ppl, DsI S p
theorem DsA.mono {S S' : List (Int × Tx)} {c : ClM} (h : DsA S c) (hs : ∀ x ∈ S, x ∈ S') : DsA S' c := fun p hp => by
  rcases h p hp with h1 | ⟨h1, h2, h3⟩
  · exact .inl h1
  · exact .inr ⟨h1, hs _ h2, h3⟩
theorem cls_of {n : Int} (h : codeOk n = true) : clsN n = 2 ∨ clsN n = 3 ∨ clsN n = 4 ∨ clsN n = 5 := by
  have h1 : classP n = n / 100 := by unfold classP; rw [if_pos h]
  have h2 := classP_nat n
  unfold codeOk at h
  rw [decide_eq_true_eq] at h
  omega
section
variable {S : List (Int × Tx)} {c : ClM} {r : Rep} (hr : codeOk r.code = true) (hS : (r.code, r.text) ∈ S)
include hr hS
theorem DsI.dec {p : Pers} (h : DsI S p) (f : Bool) {st : Nat} (hf : fits st (clsN r.code)) : DsI S (decP f st r.code r.text p) := by
  unfold decP
  split
  · exact .inr ⟨hr, hS, hf⟩
  · exact h
theorem DsA.all (h : DsA S c) (f : Bool) {st : Nat} (hf : fits st (clsN r.code)) : DsA S (allC c f st r.code r.text) := fun p hp => by
  obtain ⟨p0, h0, rfl⟩ := List.mem_map.1 (show p ∈ c.ppl.map _ from hp)
  exact DsI.dec hr hS (h p0 h0) f hf
omit hr hS in
theorem state_fits {cl : Nat} (h : cl = 4 ∨ cl = 5) : fits (stateM cl) cl := by
  rcases h with rfl | rfl
  · exact .inr (.inr ⟨rfl, rfl⟩)
  · exact .inr (.inl ⟨rfl, rfl⟩)
theorem DsA.to_ (h : DsA S c) (k : Nat) (h3 : clsN r.code ≠ 3) : DsA S (toC c k (clsN r.code) r) := by
  unfold toC
  split
  · exact h
  · rename_i h2
    exact DsA.all hr hS h _ (state_fits (by have := cls_of hr; omega))
theorem DsA.heard (h : DsA S c) (hst : ¬ (clsN r.code = 3 ∧ c.stage ≠ 7 ∧ (c.stage ≠ 5 ∨ r.code ≠ 354))) : DsA S (heardC c (clsN r.code) r) := by
  have hc := cls_of hr
  unfold heardC
  by_cases h0 : c.stage = 0
  · rw [if_pos h0]; exact DsA.to_ hr hS h 1 (fun e => hst ⟨e, by omega, .inl (by omega)⟩)
  rw [if_neg h0]
  by_cases h3 : c.stage = 3
  · rw [if_pos h3]; exact DsA.to_ hr hS h 4 (fun e => hst ⟨e, by omega, .inl (by omega)⟩)
  rw [if_neg h3]
  by_cases h4 : c.stage = 4
  · rw [if_pos h4]
    cases hp : c.ppl[c.pos]? with
    | none => exact h
    | some p =>
      have hcl : clsN r.code ≠ 3 := fun e => hst ⟨e, by omega, .inl (by omega)⟩
      intro p1 hp1
      rcases List.mem_or_eq_of_mem_set (show p1 ∈ c.ppl.set c.pos (nmP (clsN r.code) r p) from hp1) with h1 | h1
      · exact h p1 h1
      · rw [h1]
        unfold nmP
        split
        · rcases h p (List.mem_of_getElem? hp) with h2 | h2
          · exact .inl h2
          · exact .inr h2
        · rename_i h2
          exact .inr ⟨hr, hS, state_fits (by omega)⟩
  rw [if_neg h4]
  by_cases h5 : c.stage = 5
  · rw [if_pos h5]
    unfold askedC
    split
    · exact h
    · split
      · exact h
      · exact DsA.all hr hS h _ (state_fits (by omega))
  rw [if_neg h5]
  by_cases h6 : c.stage = 6
  · rw [if_pos h6]
    have hcl : clsN r.code ≠ 3 := fun e => hst ⟨e, by omega, .inl (by omega)⟩
    refine DsA.all hr hS h _ ?_
    split
    · rename_i h2; exact .inl ⟨rfl, h2⟩
    · exact state_fits (by omega)
  rw [if_neg h6]
  by_cases h7 : c.stage = 7
  · rw [if_pos h7]; exact h
  rw [if_neg h7]
  unfold hailedC
  split
  · exact h
  · by_cases h8 : c.stage = 8
    · by_cases e3 : clsN r.code = 3
      · exact absurd ⟨e3, by omega, .inl (by omega)⟩ hst
      · exact DsA.to_ (c := { c with well := decide (clsN r.code = 2) }) hr hS h 3 e3
    · exact DsA.to_ (c := { c with well := decide (clsN r.code = 2) }) hr hS h 3 (fun e => hst ⟨e, by omega, .inl (by omega)⟩)
end
theorem feedL_none : ∀ (k : Nat) (c : ClM), c.left = [] → feedL k c = c
  | 0, c, _ => rfl
  | k + 1, c, h => by
    rw [feedL]
    split
    · rfl
    · rw [h, if_pos (by decide)]
/-- a line of a reply, the first -/
def firstT (L : List ByteArray) : Tx := ((L[0]?).map (·.data.toList)).getD []
theorem feed_print {c : ClM} {S : List (Int × Tx)} {code : Int} {L : List ByteArray} (h8 : c.stage ≠ 8) (hl : c.left = []) (h : rightOk code L = true) (hS : DsA S c) :
    DsA ((code, firstT L) :: S) (feedC c (prtB code L)) ∧ ((feedC c (prtB code L)).stage = 8 ∨ (feedC c (prtB code L)).left = []) := by
  have hb : prtB code L = prt (dig3 code) L := by unfold prtB; rw [if_pos h]
  obtain ⟨-, hco, -, -⟩ := rightOk_parts h
  have hS' : DsA ((code, firstT L) :: S) c := hS.mono fun x hx => List.mem_cons_of_mem _ hx
  have hrd : readP (c.left ++ prtB code L) = ⟨code, L, (prt (dig3 code) L).length, 0⟩ := by
    rw [hl, hb, List.nil_append]
    have := readP_back h []
    rw [List.append_nil] at this
    exact this
  unfold feedC
  rw [if_neg h8, feedL, if_neg (show ¬ c.stage = 8 from h8)]
  show DsA _ (if (readP (c.left ++ prtB code L)).e = 140 then _ else _) ∧ _
  rw [hrd]
  simp only
  rw [if_neg (by decide)]
  by_cases hst : stopB c.stage ⟨code, L, (prt (dig3 code) L).length, 0⟩ = true
  · rw [if_pos hst]
    exact ⟨hS', .inl rfl⟩
  · rw [if_neg hst]
    have hdl : (c.left ++ prtB code L).drop ((prt (dig3 code) L).length : Int).toNat = [] := by
      rw [hl, hb, List.nil_append, Int.toNat_natCast]
      exact List.drop_length
    rw [hdl]
    have hst' : ¬ (clsN code = 3 ∧ c.stage ≠ 7 ∧ (c.stage ≠ 5 ∨ code ≠ 354)) := by
      rintro ⟨q1, q2, q3⟩
      apply hst
      have e1 : (clsN code == 3) = true := beq_iff_eq.2 q1
      have e2 : (c.stage != 7) = true := bne_iff_ne.2 q2
      unfold stopB
      simp only [e1, e2, Bool.true_and]
      rcases q3 with q3 | q3
      · have e3 : (c.stage != 5) = true := bne_iff_ne.2 q3
        simp [e3]
      · have e3 : (code != 354) = true := bne_iff_ne.2 q3
        simp [e3]
    have hA := DsA.heard (S := (code, firstT L) :: S) (c := { c with idle := 0, out := [], left := [] }) (r := repOf ⟨code, L, (prt (dig3 code) L).length, 0⟩) hco List.mem_cons_self hS' hst'
    have hle := heardC_left { c with idle := 0, out := [], left := [] } (clsN code) (repOf ⟨code, L, (prt (dig3 code) L).length, 0⟩)
    rw [feedL_none _ _ hle]
    exact ⟨hA, .inr hle⟩
theorem to_pl (c : ClM) (k cl : Nat) (r : Rep) : (toC c k cl r).ppl.length = c.ppl.length := by
  unfold toC
  split
  · rfl
  · exact List.length_map ..
theorem heardC_pl (c : ClM) (cl : Nat) (r : Rep) : (heardC c cl r).ppl.length = c.ppl.length := by
  unfold heardC
  split
  · exact to_pl ..
  · split
    · exact to_pl ..
    · split
      · split
        · exact List.length_set ..
        · rfl
      · split
        · unfold askedC
          split
          · rfl
          · split
            · rfl
            · exact List.length_map ..
        · split
          · exact List.length_map ..
          · split
            · rfl
            · unfold hailedC
              split
              · rfl
              · exact to_pl { c with well := decide (cl = 2) } 3 cl r
theorem feedL_pl : ∀ (k : Nat) (c : ClM), (feedL k c).ppl.length = c.ppl.length
  | 0, c => rfl
  | k + 1, c => by
    rw [feedL]
    split
    · rfl
    · split
      · rfl
      · split
        · rfl
        · rw [feedL_pl k, heardC_pl]
theorem feedC_pl (c : ClM) (b : Tx) : (feedC c b).ppl.length = c.ppl.length := by
  unfold feedC
  split
  · rfl
  · rw [feedL_pl]
/-- what a result says, checked -/
def ChkR (S : List (Int × Tx)) (x : Rslt) : Prop := (x.code = 0 ∧ x.st = 1 ∧ x.text = []) ∨ (x.code ≠ 0 ∧ fits x.st (clsN x.code) ∧ (x.code, x.text) ∈ S)
theorem DsI.told {S : List (Int × Tx)} {p : Pers} (h : DsI S p) : ChkR S (toldP p) := by
  rcases h with ⟨h1, h2, h3⟩ | ⟨h1, h2, h3⟩
  · exact .inl ⟨h2, by show (if p.st = 0 then 1 else p.st) = 1; rw [if_pos h1], h3⟩
  · have hc : p.code ≠ 0 := by
      unfold codeOk at h1
      rw [decide_eq_true_eq] at h1
      omega
    have hs : p.st ≠ 0 := by unfold fits at h3; omega
    refine .inr ⟨hc, ?_, h2⟩
    show fits (if p.st = 0 then 1 else p.st) (clsN p.code)
    rw [if_neg hs]
    exact h3
end Go.Proofs.YtjnjnccfojfghaaGreatDoor

/-! A client that is fed printed replies, beside a row of those that it heard. No condition but their own. -/
namespace Go.Proofs.YtjnjnccfojfghaaGreatDoor
open Go.RowKit
set_option linter.unusedVariables false
theorem uxRp : UX Tryz.prog 54 57 2 := by
  obtain ⟨i, h1, h2, h3, h4⟩ := info_parts (show (Tryz.prog.info? 57).map (fun i => (i.zero, i.size, i.bytes)) = some (some (.agg #[.int .i64 0, .slice none 0 0]), 2, 32) by kernel_rfl)
  exact ⟨Tryz.underlying54, ⟨i, _, h1, h2, rfl, h3, by omega⟩, by omega⟩
theorem rpV_one (r : RpM) : ∀ u ∈ rpV r, u.oneCell' = true := by
  intro u hu
  simp only [rpV, List.mem_cons, List.not_mem_nil, or_false] at hu
  rcases hu with rfl | rfl <;> rfl
theorem prt_le (d : Tx) (hd : d.length = 3) : ∀ L : List ByteArray, (∀ s ∈ L, lineOk s = true) → (prt d L).length ≤ L.length * 520
  | [], _ => by simp [prt]
  | s :: r, h => by
    have h1 := line_len' (h s List.mem_cons_self)
    have h2 := prt_le d hd r (fun x hx => h x (List.mem_cons_of_mem _ hx))
    rw [prt, List.length_append]
    simp only [List.length_append, List.length_cons, List.length_nil]
    omega
theorem prtB_le (c : Int) (L : List ByteArray) : (prtB c L).length ≤ 26000 := by
  unfold prtB
  split
  · rename_i h
    obtain ⟨h1, h2, h3, h4⟩ := rightOk_parts h
    have := prt_le (dig3 c) (dig3_len c) L (fun s hs => List.all_eq_true.1 h1 s hs)
    omega
  · simp
def sOf (Sd : List RpM) : List (Int × Tx) := Sd.map fun r => (r.c, firstT r.L)
def saidV (Sd : List RpM) : List Value := (Sd.map rpV).flatten
structure DcI (w w4 wr : World) (B cb pb : Nat) (bb : Option Nat) (d : ClM) (q : CPts) (sv : Value) (g : Option Nat) (Sd : List RpM) (i : Nat) : Prop where
  cli : CliB B wr cb pb bb d q
  cbl : cb < w4.heap.size
  pbl : pb < w4.heap.size
  bbl : ∀ k, bb = some k → k < w4.heap.size
  row : OwnX 2 wr g sv (saidV Sd)
  gB : ∀ k, g = some k → w4.heap.size ≤ k
  sep : ∀ k, g = some k → q.lw ≠ some k ∧ q.ov.ownBlock ≠ some k
  bel : Below w.heap.size w wr
  wB : w.heap.size ≤ B
  w4B : w4.heap.size ≤ wr.heap.size
  ds : DsA (sOf Sd) d
  set : d.stage = 8 ∨ d.left = []
  ll : d.left.length ≤ 26000
  rep : ∀ r ∈ Sd, RpR w w.heap.size r ∧ rightOk r.c r.L = true
  cnt : Sd.length ≤ i
section
variable {w w4 wr w' : World} {B cb pb : Nat} {bb : Option Nat} {d : ClM} {q : CPts} {sv : Value} {g : Option Nat} {Sd : List RpM} {i : Nat}
theorem DcI.same (h : DcI w w4 wr B cb pb bb d q sv g Sd i) (hb : Below wr.heap.size wr w') : DcI w w4 w' B cb pb bb d q sv g Sd i :=
  ⟨h.cli.same hb, h.cbl, h.pbl, h.bbl, h.row.same hb.size (fun k hk => hb.block k (h.row.lt hk)), h.gB, h.sep, h.bel.trans (hb.mono h.bel.size), h.wB, Nat.le_trans h.w4B hb.size, h.ds, h.set, h.ll, h.rep, h.cnt⟩
theorem DcI.skip (h : DcI w w4 wr B cb pb bb d q sv g Sd i) : DcI w w4 wr B cb pb bb d q sv g Sd (i + 1) :=
  ⟨h.cli, h.cbl, h.pbl, h.bbl, h.row, h.gB, h.sep, h.bel, h.wB, h.w4B, h.ds, h.set, h.ll, h.rep, by have := h.cnt; omega⟩
/-- a reply written down as heard -/
theorem DcI.push (h : DcI w w4 wr B cb pb bb d q sv g Sd i) {sv' : Value} {g' : Option Nat} {r : RpM} (hx : OwnX 2 w' g' sv' (saidV Sd ++ rpV r)) (hg : wr.grownBy w' g) (hn : g' = g ∨ g' = some wr.heap.size) (hr : RpR w w.heap.size r) (hok : rightOk r.c r.L = true) :
    DcI w w4 w' B cb pb bb d q sv' g' (Sd ++ [r]) (i + 1) := by
  have hz := h.w4B
  refine ⟨h.cli.stay hg.size (fun k hk => hg.block k (h.cli.cl.foot hk) (fun e => ?_)), h.cbl, h.pbl, h.bbl, ?_, fun k hk => ?_, fun k hk => ?_, h.bel.trans ⟨hg.os, hg.tape, hg.output, hg.size, fun k hk => hg.block k (by have := h.bel.size; omega) (fun e => by have := h.gB k e.symm; have := h.wB; have := h.cli.cB; have := h.cbl; omega)⟩, h.wB, Nat.le_trans hz hg.size, h.ds.mono (fun x hx => ?_), h.set, h.ll, fun x hx => ?_, ?_⟩
  · have e' : g = some k := e.symm
    have h3 := h.gB k e'
    rcases hk with rfl | rfl | hk | hk | hk
    · have := h.cbl; omega
    · have := h.pbl; omega
    · have := h.bbl k hk; omega
    · exact (h.sep k e').1 hk
    · exact (h.sep k e').2 hk
  · have : saidV (Sd ++ [r]) = saidV Sd ++ rpV r := by unfold saidV; simp
    rw [this]; exact hx
  · rcases hn with hn | hn
    · rw [hn] at hk; exact h.gB k hk
    · rw [hn] at hk; injection hk with hk; omega
  · rcases hn with hn | hn
    · rw [hn] at hk; exact h.sep k hk
    · rw [hn] at hk
      injection hk with hk
      subst hk
      exact ⟨fun e => by have := h.cli.cl.left.lt_ e; omega, fun e => by have := h.cli.cl.out.lt_ e; omega⟩
  · unfold sOf at hx ⊢
    rw [List.map_append]
    exact List.mem_append_left _ hx
  · rcases List.mem_append.1 hx with hx | hx
    · exact h.rep x hx
    · obtain rfl := List.mem_singleton.1 hx
      exact ⟨hr, hok⟩
  · rw [List.length_append]
    have := h.cnt
    simp only [List.length_cons, List.length_nil]
    omega
/-- a reply fed -/
theorem DcI.fed (h : DcI w w4 wr B cb pb bb d q sv g Sd i) {code : Int} {L : List ByteArray} (hok : rightOk code L = true) (hS : d.stage ≠ 8 → (code, firstT L) ∈ sOf Sd) {q' : CPts} (hc : CliB B w' cb pb bb (feedC d (prtB code L)) q')
    (hlw : ∀ j, q'.lw = some j → q.lw = some j ∨ wr.heap.size ≤ j) (hov : ∀ j, q'.ov.ownBlock = some j → q.ov.ownBlock = some j ∨ wr.heap.size ≤ j) (hs : Safe (FdS wr cb pb q) wr w') : DcI w w4 w' B cb pb bb (feedC d (prtB code L)) q' sv g Sd i := by
  have hz := h.w4B
  have hlen := feedC_left d (prtB code L)
  have hpl := prtB_le code L
  refine ⟨hc, h.cbl, h.pbl, h.bbl, h.row.same hs.size (fun k hk => hs.block k ⟨h.row.lt hk, by have := h.gB k hk; have := h.cbl; omega, by have := h.gB k hk; have := h.pbl; omega, (h.sep k hk).1⟩), h.gB, fun k hk => ⟨fun e => (hlw k e).elim (fun e2 => (h.sep k hk).1 e2) (fun e2 => by have := h.row.lt hk; omega), fun e => (hov k e).elim (fun e2 => (h.sep k hk).2 e2) (fun e2 => by have := h.row.lt hk; omega)⟩, h.bel.trans ((FeedL.below h.cli hs).mono h.wB), h.wB, Nat.le_trans hz hs.size, ?_, ?_, ?_, h.rep, h.cnt⟩
  · by_cases h8 : d.stage = 8
    · have e : feedC d (prtB code L) = d := by unfold feedC; rw [if_pos h8]
      rw [e]; exact h.ds
    · rcases h.set with h1 | h1
      · exact absurd h1 h8
      · refine (feed_print h8 h1 hok h.ds).1.mono fun x hx => ?_
        rcases List.mem_cons.1 hx with rfl | hx
        · exact hS h8
        · exact hx
  · by_cases h8 : d.stage = 8
    · have e : feedC d (prtB code L) = d := by unfold feedC; rw [if_pos h8]
      rw [e]; exact .inl h8
    · rcases h.set with h1 | h1
      · exact absurd h1 h8
      · exact (feed_print h8 h1 hok h.ds).2
  · by_cases h8 : d.stage = 8
    · have e : feedC d (prtB code L) = d := by unfold feedC; rw [if_pos h8]
      rw [e]; exact h.ll
    · rcases h.set with h1 | h1
      · exact absurd h1 h8
      · rw [h1] at hlen
        simp only [List.length_nil] at hlen
        omega
end
end Go.Proofs.YtjnjnccfojfghaaGreatDoor
