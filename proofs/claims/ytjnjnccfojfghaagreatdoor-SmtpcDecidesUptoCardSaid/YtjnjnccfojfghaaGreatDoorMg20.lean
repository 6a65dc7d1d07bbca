/-
  Several texts in one: ScOpn, ScCutP. Conditions: each part names its own.
-/
import Derived.Test.YtjnjnccfojfghaaGreatDoorMg19
import Derived.Deep.Slices
import Derived.Lib.SmallJoins
import Derived.Test.YtjnjnccfojfghaaGreatDoorMg16
set_option linter.unusedSimpArgs false
/-! Opening an argument that is an order. No condition. -/
namespace Go.Proofs.YtjnjnccfojfghaaGreatDoor
open Go.ChangeShapes Go.WideShapes Go.ChangeAt Go.RowKit Go.Deep
set_option linter.unusedVariables false
/-- a path as it lies -/
def pathC (p : PathM) : List Value := [.bool p.nul, .string (bs p.loc), .string (bs p.dom), .bool p.lit]
/-- a row of paths -/
def RPs (w : World) (B : Nat) (A : Option Addr) (L : List PathM) : Prop :=
  L = [] ∨ ∃ b off, A = some ⟨b, off, none⟩ ∧ b < B ∧ ∀ i p, L[i]? = some p → ∀ k v, (pathC p)[k]? = some v → w.cell? ⟨b, off + i * 4 + k, none⟩ = some v
theorem RPs.below {w w' : World} {B : Nat} {A : Option Addr} {L : List PathM} (h : RPs w B A L) (hb : Below B w w') : RPs w' B A L := by
  rcases h with h | ⟨b, off, rfl, hlt, hc⟩
  · exact .inl h
  · exact .inr ⟨b, off, rfl, hlt, fun i p hp k v hv => by rw [hb.cell (show b < B from hlt)]; exact hc i p hp k v hv⟩
structure OrdM where
  name : Tx
  frm : PathM
  rcpts : List PathM
  data : Tx
structure OrdV where
  Ar : Option Addr
  cr : Nat
  Ad : Option Addr
  cd : Nat
def ordC (o : OrdM) (m : OrdV) : List Value := [.string (bs o.name), .bool o.frm.nul, .string (bs o.frm.loc), .string (bs o.frm.dom), .bool o.frm.lit, .slice m.Ar o.rcpts.length m.cr, .slice m.Ad o.data.length m.cd]
structure OrdR (w : World) (B : Nat) (o : OrdM) (m : OrdV) : Prop where
  rp : RPs w B m.Ar o.rcpts
  rd : RB w B m.Ad o.data
  lr : o.rcpts.length ≤ m.cr
  mr : m.cr ≤ maxLen
  ld : o.data.length ≤ m.cd
  md : m.cd ≤ maxLen
  nd : m.Ad = none → m.cd = 0
theorem OrdR.below {w w' : World} {B : Nat} {o : OrdM} {m : OrdV} (h : OrdR w B o m) (hb : Below B w w') : OrdR w' B o m := ⟨h.rp.below hb, h.rd.below hb, h.lr, h.mr, h.ld, h.md, h.nd⟩
structure OrdM.Fit (o : OrdM) (m : OrdV) (K : Nat) : Prop where
  nm : o.name.length ≤ K
  f1 : o.frm.loc.length ≤ K
  f2 : o.frm.dom.length ≤ K
  rs : ∀ p ∈ o.rcpts, p.loc.length ≤ K ∧ p.dom.length ≤ K
  cr : m.cr ≤ K
  cd : m.cd ≤ K
theorem OrdM.Fit.mono {o : OrdM} {m : OrdV} {K K' : Nat} (h : o.Fit m K) (hk : K ≤ K') : o.Fit m K' :=
  ⟨Nat.le_trans h.nm hk, Nat.le_trans h.f1 hk, Nat.le_trans h.f2 hk, fun p hp => ⟨Nat.le_trans (h.rs p hp).1 hk, Nat.le_trans (h.rs p hp).2 hk⟩, Nat.le_trans h.cr hk, Nat.le_trans h.cd hk⟩
section
variable {H : Type} {enc : TypeId × Value → H} {P : Program}
/-- what a slice of bytes reads as -/
def BytesD (d : DataW H) (l : List UInt8) (cp : Nat) : Prop := (d = .nil ∧ cp = 0) ∨ ∃ es ss : List (DataW H), d = .slice es ss ∧ es.length = l.length ∧ es.length + ss.length = cp
theorem open_bytesT {W : World} {base0 fuel : Nat} {held : Bool} {t E : TypeId} {v : Value} {d : DataW H} {p : List MemPlace} (hU : U8 P t E) (hcE : P.cellsOf E = 1)
    (hf : DataW.trod enc P W base0 (fun _ => true) held fuel t [v] = some (d, p)) :
    ∃ A l cp, v = .slice A l.length cp ∧ l.length ≤ cp ∧ cp ≤ maxLen ∧ RB W W.heap.size A l ∧ (A = none → cp = 0) ∧ BytesD d l cp := by
  rcases open_ints hU.ht hU.he hcE hf with ⟨hcs, hx⟩ | ⟨x, len, cap, zs, hcs, _, hl, hm, hz, hx, hcell, hwz⟩
  · obtain rfl : v = _ := by simpa using hcs
    obtain rfl : d = _ := congrArg Prod.fst hx
    exact ⟨none, [], 0, rfl, by simp, by simp [maxLen], .inl rfl, fun _ => rfl, .inl ⟨rfl, rfl⟩⟩
  · obtain rfl : v = _ := by simpa using hcs
    simp only [if_true] at hz
    obtain rfl : d = _ := congrArg Prod.fst hx
    have hlen : ((zs.take len).map fun z => UInt8.ofNat z.toNat).length = len := by simp; omega
    refine ⟨some x, (zs.take len).map fun z => UInt8.ofNat z.toNat, cap, by rw [hlen], by rw [hlen]; exact hl, hm, ?_, (fun e => by cases e), .inr ⟨_, _, rfl, by simp [lits], by simp [lits]; omega⟩⟩
    rcases Nat.eq_zero_or_pos len with h0 | h0
    · subst h0; exact .inl (by simp)
    · obtain ⟨b, off, spot⟩ := x
      have hc0 := hcell 0 (by omega)
      obtain rfl : spot = none := by simpa [Addr.add] using World.cell?_spot hc0
      have hlt := World.block_lt_of_cell? _ _ hc0
      refine .inr ⟨b, off, rfl, by simpa [Addr.add_lit] using hlt, fun i hi => ?_⟩
      rw [hlen] at hi
      have hci := hcell i (by omega)
      rw [Addr.add_lit] at hci
      rw [hci]
      have hzi : zs.getD i 0 ∈ zs := by
        rw [List.getD_eq_getElem?_getD, List.getElem?_eq_getElem (by omega)]
        exact List.getElem_mem (by omega)
      have hw := hwz _ hzi
      have hb : 0 ≤ zs.getD i 0 ∧ zs.getD i 0 ≤ 255 := by simpa [Lit.wf, IntKind.min, IntKind.max, IntKind.bits, IntKind.signed] using hw
      congr 2
      unfold bt
      simp only [List.getD_eq_getElem?_getD, List.getElem?_map, List.getElem?_take_of_lt hi] at hb ⊢
      rw [List.getElem?_eq_getElem (by omega)] at hb ⊢
      simp only [Option.map_some, Option.getD_some] at hb ⊢
      rw [UInt8.toNat_ofNat']
      omega
end
section
variable {H : Type} {enc : TypeId × Value → H}
theorem bulk_in {d : DataW H} {L : List (DataW H)} (h : d ∈ L) : Rows.uptoBulk d ≤ Rows.uptoBulkAll L := by
  obtain ⟨j, hj⟩ := List.mem_iff_getElem?.1 h
  exact bulk_mem hj
theorem bulk_str {l : Tx} : l.length ≤ Rows.uptoBulk (.lit (.string l) : DataW H) := by
  rw [Rows.uptoBulk]; omega
theorem bs_of_ (s : ByteArray) : s = bs s.data.toList := by cases s; rfl
set_option maxRecDepth 100000 in
theorem open_path {W : World} {fuel : Nat} {cs : List Value} {y : DataW H × List MemPlace} (h : DataW.trod enc Tryz.prog W 0 (fun _ => true) true fuel 23 cs = some y) :
    ∃ p : PathM, cs = pathC p ∧ p.loc.length ≤ Rows.uptoBulk y.1 ∧ p.dom.length ≤ Rows.uptoBulk y.1 := by
  obtain ⟨y0, y1, y2, y3, n, rfl, hl, h0, h1, h2, h3⟩ := Joins.trod_struct4 Tryz.underlying23 h
  rw [show Tryz.prog.cellsOf 23 = 4 by kernel_rfl] at hl
  match cs, hl with
  | [x0, x1, x2, x3], _ =>
    have kb : Tryz.prog.cellsOf 4 = 1 := by kernel_rfl
    have ks : Tryz.prog.cellsOf 9 = 1 := by kernel_rfl
    have e0 : (([x0, x1, x2, x3] : List Value).drop 0).take (Tryz.prog.cellsOf 4) = [x0] := by rw [kb]; rfl
    have e1 : (([x0, x1, x2, x3] : List Value).drop 1).take (Tryz.prog.cellsOf 9) = [x1] := by rw [ks]; rfl
    have e2 : (([x0, x1, x2, x3] : List Value).drop 2).take (Tryz.prog.cellsOf 9) = [x2] := by rw [ks]; rfl
    have e3 : (([x0, x1, x2, x3] : List Value).drop 3).take (Tryz.prog.cellsOf 4) = [x3] := by rw [kb]; rfl
    have g0 := (congrArg (fun z => DataW.trod enc Tryz.prog W 0 (fun _ => true) true n 4 z) e0).symm.trans h0
    have g1 := (congrArg (fun z => DataW.trod enc Tryz.prog W 0 (fun _ => true) true n 9 z) e1).symm.trans h1
    have g2 := (congrArg (fun z => DataW.trod enc Tryz.prog W 0 (fun _ => true) true n 9 z) e2).symm.trans h2
    have g3 := (congrArg (fun z => DataW.trod enc Tryz.prog W 0 (fun _ => true) true n 4 z) e3).symm.trans h3
    obtain ⟨b0, r0, -⟩ := DataW.trod_bool Tryz.underlying4 g0
    obtain ⟨s1, r1, z1, -⟩ := DataW.trod_string Tryz.underlying9 g1
    obtain ⟨s2, r2, z2, -⟩ := DataW.trod_string Tryz.underlying9 g2
    obtain ⟨b3, r3, -⟩ := DataW.trod_bool Tryz.underlying4 g3
    obtain rfl : x0 = _ := by simpa using r0
    obtain rfl : x1 = _ := by simpa using r1
    obtain rfl : x2 = _ := by simpa using r2
    obtain rfl : x3 = _ := by simpa using r3
    refine ⟨⟨b0, s1.data.toList, s2.data.toList, b3⟩, by rw [pathC, ← bs_of_ s1, ← bs_of_ s2], ?_, ?_⟩
    · have h1 : Rows.uptoBulk y1.1 ≤ Rows.uptoBulkAll [y0.1, y1.1, y2.1, y3.1] := bulk_in (by simp)
      have h2 : s1.data.toList.length ≤ Rows.uptoBulk y1.1 := by rw [z1]; exact bulk_str
      rw [Rows.uptoBulk]
      show s1.data.toList.length ≤ _
      omega
    · have h1 : Rows.uptoBulk y2.1 ≤ Rows.uptoBulkAll [y0.1, y1.1, y2.1, y3.1] := bulk_in (by simp)
      have h2 : s2.data.toList.length ≤ Rows.uptoBulk y2.1 := by rw [z2]; exact bulk_str
      rw [Rows.uptoBulk]
      show s2.data.toList.length ≤ _
      omega
set_option maxRecDepth 100000 in
theorem open_paths {W : World} {fuel : Nat} {v : Value} {y : DataW H × List MemPlace} (h : DataW.trod enc Tryz.prog W 0 (fun _ => true) true fuel 24 [v] = some y) :
    ∃ A L cp, v = .slice A L.length cp ∧ L.length ≤ cp ∧ cp ≤ maxLen ∧ RPs W W.heap.size A L ∧ cp ≤ Rows.uptoBulk y.1 ∧ ∀ p ∈ L, p.loc.length ≤ Rows.uptoBulk y.1 ∧ p.dom.length ≤ Rows.uptoBulk y.1 := by
  rcases open_slice Tryz.underlying24 h with ⟨hcs, hy⟩ | ⟨a, len, cap, m, n', D, Pl, hcs, hb, hl, hm, hmm, hx, hi⟩
  · obtain rfl : v = _ := by simpa using hcs
    exact ⟨none, [], 0, rfl, by simp, by simp [maxLen], .inl rfl, by simp, by simp⟩
  · obtain rfl : v = _ := by simpa using hcs
    simp only [if_true] at hmm
    subst hmm
    have hC : Tryz.prog.cellsOf 23 = 4 := by kernel_rfl
    have hD : ∀ i, i < m → Rows.uptoBulk (D i) ≤ Rows.uptoBulk y.1 := by
      intro i hi
      rw [hx]
      show _ ≤ Rows.uptoBulk (DataW.slice _ _)
      rw [Rows.uptoBulk]
      by_cases hil : i < len
      · have := bulk_in (L := (List.range len).map D) (List.mem_map.2 ⟨i, List.mem_range.2 hil, rfl⟩)
        omega
      · have := bulk_in (d := D i) (L := (List.range (m - len)).map fun j => D (len + j)) (List.mem_map.2 ⟨i - len, List.mem_range.2 (by omega), by congr 1; omega⟩)
        omega
    have key : ∀ i, ∃ p : PathM, i < m → (∀ k v, (pathC p)[k]? = some v → W.cell? (a.add (i * 4 + k)) = some v) ∧ p.loc.length ≤ Rows.uptoBulk y.1 ∧ p.dom.length ≤ Rows.uptoBulk y.1 := by
      intro i
      by_cases him : i < m
      · obtain ⟨cs', hc, ht'⟩ := hi i him
        rw [hC] at hc
        obtain ⟨_, hcl, hat⟩ := World.cells?_some hc
        obtain ⟨p, rfl, h1, h2⟩ := open_path ht'
        refine ⟨p, fun _ => ⟨fun k v hv => ?_, Nat.le_trans h1 (hD i him), Nat.le_trans h2 (hD i him)⟩⟩
        have hk := (List.getElem?_eq_some_iff.1 hv)
        have := hat k hk.1
        rw [Go.Deep.add_add] at this
        rw [this]
        exact hv
      · exact ⟨⟨false, [], [], false⟩, fun h => absurd h him⟩
    obtain ⟨f, hf⟩ := Classical.skolem.1 key
    have hlen : ((List.range len).map f).length = len := by simp
    refine ⟨some a, (List.range len).map f, m, by rw [hlen], by rw [hlen]; exact hl, hm, ?_, ?_, fun r hr => ?_⟩
    · rcases Nat.eq_zero_or_pos len with h0 | h0
      · subst h0; exact .inl (by simp)
      · obtain ⟨b, off, spot⟩ := a
        have hc0 := (hf 0 (by omega)).1 0 _ rfl
        obtain rfl : spot = none := by simpa [Addr.add] using World.cell?_spot hc0
        have hlt := World.block_lt_of_cell? _ _ hc0
        refine .inr ⟨b, off, rfl, by simpa [Addr.add_lit] using hlt, fun i p hp k v hv => ?_⟩
        have hi := (List.getElem?_eq_some_iff.1 hp).1
        rw [hlen] at hi
        have hp2 : f i = p := by
          have := (List.getElem?_eq_some_iff.1 hp).2
          simpa using this
        have q := (hf i (by omega)).1 k v (by rw [hp2]; exact hv)
        rw [Addr.add_lit] at q
        rw [Nat.add_assoc]
        exact q
    · rw [hx]
      show m ≤ Rows.uptoBulk (DataW.slice _ _)
      rw [Rows.uptoBulk]
      have h1 := bulk_len ((List.range len).map D)
      have h2 := bulk_len ((List.range (m - len)).map fun j => D (len + j))
      simp only [List.length_map, List.length_range] at h1 h2
      omega
    · obtain ⟨i, hi, rfl⟩ := List.mem_iff_getElem.1 hr
      rw [hlen] at hi
      simp only [List.getElem_map, List.getElem_range]
      exact (hf i (by omega)).2
set_option maxRecDepth 100000 in
theorem open_order {W : World} {r : Reach} {b0 : Nat} {v : Value} {d : DataW H} {p : List MemPlace} (hv : Value.okWide Tryz.prog W r b0 27 v) (h : DataW.Trod enc Tryz.prog W 0 (fun _ => true) true 27 v d p) :
    ∃ o m, v = .agg (ordC o m).toArray ∧ OrdR W W.heap.size o m ∧ o.Fit m (Rows.uptoBulk d) := by
  obtain ⟨cs, rfl, hsz⟩ := okWide_struct Tryz.underlying27 hv
  rw [show Tryz.prog.cellsOf 27 = 7 by kernel_rfl] at hsz
  obtain ⟨fuel, hf⟩ := h
  obtain ⟨y0, y1, y2, y3, n, hx, _, h0, h1, h2, h3⟩ := Joins.trod_struct4 Tryz.underlying27 hf
  simp only [Prod.mk.injEq] at hx
  obtain ⟨rfl, -⟩ := hx
  obtain ⟨cl⟩ := cs
  match cl, hsz with
  | [x0, x1, x2, x3, x4, x5, x6], _ =>
    have ks : Tryz.prog.cellsOf 9 = 1 := by kernel_rfl
    have kp : Tryz.prog.cellsOf 23 = 4 := by kernel_rfl
    have kr : Tryz.prog.cellsOf 24 = 1 := by kernel_rfl
    have kd : Tryz.prog.cellsOf 25 = 1 := by kernel_rfl
    have e0 : (([x0, x1, x2, x3, x4, x5, x6] : List Value).drop 0).take (Tryz.prog.cellsOf 9) = [x0] := by rw [ks]; rfl
    have e1 : (([x0, x1, x2, x3, x4, x5, x6] : List Value).drop 1).take (Tryz.prog.cellsOf 23) = [x1, x2, x3, x4] := by rw [kp]; rfl
    have e2 : (([x0, x1, x2, x3, x4, x5, x6] : List Value).drop 5).take (Tryz.prog.cellsOf 24) = [x5] := by rw [kr]; rfl
    have e3 : (([x0, x1, x2, x3, x4, x5, x6] : List Value).drop 6).take (Tryz.prog.cellsOf 25) = [x6] := by rw [kd]; rfl
    have g0 := (congrArg (fun z => DataW.trod enc Tryz.prog W 0 (fun _ => true) true n 9 z) e0).symm.trans h0
    have g1 := (congrArg (fun z => DataW.trod enc Tryz.prog W 0 (fun _ => true) true n 23 z) e1).symm.trans h1
    have g2 := (congrArg (fun z => DataW.trod enc Tryz.prog W 0 (fun _ => true) true n 24 z) e2).symm.trans h2
    have g3 := (congrArg (fun z => DataW.trod enc Tryz.prog W 0 (fun _ => true) true n 25 z) e3).symm.trans h3
    obtain ⟨s0, r0, z0, -⟩ := DataW.trod_string Tryz.underlying9 g0
    obtain rfl : x0 = _ := by simpa using r0
    obtain ⟨fp, r1, l1, l2⟩ := open_path g1
    obtain ⟨A2, L2, c2, rfl, q1, q2, q3, q4, q5⟩ := open_paths g2
    obtain ⟨A3, l3, c3, rfl, q6, q7, q8, q9, q10⟩ := open_bytesT u8L (by kernel_rfl) (d := y3.1) (p := y3.2) g3
    have b0 : Rows.uptoBulk y0.1 ≤ Rows.uptoBulkAll [y0.1, y1.1, y2.1, y3.1] := bulk_in (by simp)
    have b1 : Rows.uptoBulk y1.1 ≤ Rows.uptoBulkAll [y0.1, y1.1, y2.1, y3.1] := bulk_in (by simp)
    have b2 : Rows.uptoBulk y2.1 ≤ Rows.uptoBulkAll [y0.1, y1.1, y2.1, y3.1] := bulk_in (by simp)
    have b3 : Rows.uptoBulk y3.1 ≤ Rows.uptoBulkAll [y0.1, y1.1, y2.1, y3.1] := bulk_in (by simp)
    have ba : Rows.uptoBulk (.agg [y0.1, y1.1, y2.1, y3.1] : DataW H) = Rows.uptoBulkAll [y0.1, y1.1, y2.1, y3.1] + 1 := by rw [Rows.uptoBulk]
    have bs0 : s0.data.toList.length ≤ Rows.uptoBulk y0.1 := by rw [z0]; exact bulk_str
    have bd : c3 ≤ Rows.uptoBulk y3.1 := bulk_slice q10
    refine ⟨⟨s0.data.toList, fp, L2, l3⟩, ⟨A2, c2, A3, c3⟩, ?_, ⟨q3, q8, q1, q2, q6, q7, q9⟩, ⟨by show s0.data.toList.length ≤ _; omega, by show fp.loc.length ≤ _; omega, by show fp.dom.length ≤ _; omega, fun p hp => ?_, by show c2 ≤ _; omega, by show c3 ≤ _; omega⟩⟩
    · have r1' : x1 = .bool fp.nul ∧ x2 = .string (bs fp.loc) ∧ x3 = .string (bs fp.dom) ∧ x4 = .bool fp.lit := by simpa [pathC] using r1
      obtain ⟨rfl, rfl, rfl, rfl⟩ := r1'
      rw [bs_of_ s0]
      rfl
    · have := q5 p hp
      omega
end
end Go.Proofs.YtjnjnccfojfghaaGreatDoor

/-! Feeding in pieces, plain: nothing hangs on how the bytes are cut. No condition. -/
namespace Go.Proofs.YtjnjnccfojfghaaGreatDoor
set_option linter.unusedVariables false
/-! ### reading with more behind -/
theorem idx_more {c : UInt8} {m : Tx} : ∀ (l : Tx), ¬ Lib.indexByte l c < 0 → Lib.indexByte (l ++ m) c = Lib.indexByte l c
  | [], h => absurd (show Lib.indexByte [] c < 0 by unfold Lib.indexByte; omega) h
  | b :: l, h => by
    rw [List.cons_append]
    unfold Lib.indexByte at h ⊢
    by_cases hb : (b == c) = true
    · rw [if_pos hb, if_pos hb]
    · rw [if_neg hb] at h ⊢
      rw [if_neg hb]
      have hg := Lib.indexByte_ge l c
      by_cases h1 : (Lib.indexByte l c == -1) = true
      · rw [if_pos h1] at h; omega
      · have h2 : ¬ Lib.indexByte l c < 0 := by
          intro h3
          exact h1 (beq_iff_eq.2 (by omega))
        rw [idx_more l h2]
theorem eol_more {l m : Tx} (h : ¬ eol l < 0) : eol (l ++ m) = eol l := by
  unfold eol at h ⊢
  rw [List.take_append, idx_more _ h]
theorem eol_far {l m : Tx} (h : 512 ≤ l.length) : eol (l ++ m) = eol l := by
  unfold eol
  rw [List.take_append_of_le_length h]
theorem fst_more {l m : Tx} (h : ¬ eol l < 0) : fst (l ++ m) = fst l := by
  unfold fst
  have := (eol_at h).2.1
  rw [eol_more h, List.take_append_of_le_length (by omega)]
theorem rd_behind : ∀ (k k' : Nat) (l m : Tx) (a c : Int) (L : List ByteArray), k ≤ k' → l.length < k → (rd k l a c L).e ≠ 140 → rd k' (l ++ m) a c L = rd k l a c L
  | 0, _, _, _, _, _, _, _, h, _ => by omega
  | k + 1, k', l, m, a, c, L, hk, hl, he => by
    by_cases hn : eol l < 0
    · rw [rd_short (by omega) hn] at he ⊢
      have h5 : 512 ≤ l.length := by
        unfold bad short at he
        simp only at he
        split at he
        · assumption
        · exact absurd rfl he
      rw [rd_short (by omega) (by rw [eol_far h5]; exact hn)]
      unfold short
      rw [if_pos h5, if_pos (by rw [List.length_append]; omega)]
    · have hm := eol_more (m := m) hn
      have hf := fst_more (m := m) hn
      have hn' : ¬ eol (l ++ m) < 0 := by rw [hm]; exact hn
      have hx := (eol_at hn).2.1
      by_cases h1 : lOk (fst l) = false ∨ (0 < a ∧ lN (fst l) ≠ c)
      · rw [rd_form (by omega) hn h1, rd_form (by omega) hn' (by rw [hf]; exact h1)]
      by_cases h2 : L.length = 50
      · rw [rd_long (by omega) hn h1 h2, rd_long (by omega) hn' (by rw [hf]; exact h1) h2]
      cases h3 : lM (fst l)
      · rw [rd_last (by omega) hn h1 h2 h3, rd_last (by omega) hn' (by rw [hf]; exact h1) h2 (by rw [hf]; exact h3), hf, hm]
      · rw [rd_more (by omega) hn h1 h2 h3] at he ⊢
        rw [rd_more (by omega) hn' (by rw [hf]; exact h1) h2 (by rw [hf]; exact h3), hf, hm, List.drop_append_of_le_length (by omega)]
        exact rd_behind _ _ _ _ _ _ _ (by omega) (by rw [List.length_drop]; omega) he
theorem readP_behind {l : Tx} (m : Tx) (h : (readP l).e ≠ 140) : readP (l ++ m) = readP l :=
  rd_behind _ _ l m 0 0 [] (by rw [List.length_append]; omega) (Nat.lt_succ_self _) h
/-! ### a client with more sent, with more left -/
def shC (x m : Tx) (i : Nat) (c : ClM) : ClM := { c with out := x ++ c.out, left := c.left ++ m, idle := i }
theorem line_sh (x m : Tx) (i : Nat) (c : ClM) (k : Nat) : lineM (shC x m i c) k = lineM c k := rfl
theorem beg_sh (x m : Tx) (i : Nat) (c : ClM) (k : Nat) : begC (shC x m i c) k = shC x m i (begC c k) := by
  unfold begC
  rw [line_sh]
  show ({ shC x m i c with stage := k, out := (x ++ c.out) ++ lineM c k } : ClM) = { shC x m i c with stage := k, out := x ++ (c.out ++ lineM c k) }
  rw [List.append_assoc]
theorem all_sh (x m : Tx) (i : Nat) (c : ClM) (f : Bool) (st : Nat) (code : Int) (text : Tx) : allC (shC x m i c) f st code text = shC x m i (allC c f st code text) := by
  unfold allC
  rw [line_sh]
  show ({ shC x m i c with stage := 7, out := (x ++ c.out) ++ lineM c 7, ppl := c.ppl.map (decP f st code text) } : ClM) = { shC x m i c with stage := 7, out := x ++ (c.out ++ lineM c 7), ppl := c.ppl.map (decP f st code text) }
  rw [List.append_assoc]
theorem to_sh (x m : Tx) (i : Nat) (c : ClM) (k cl : Nat) (r : Rep) : toC (shC x m i c) k cl r = shC x m i (toC c k cl r) := by
  unfold toC
  split
  · exact beg_sh x m i c k
  · exact all_sh x m i c _ _ _ _
theorem nm_sh (x m : Tx) (i : Nat) (c : ClM) (cl : Nat) (r : Rep) (p : Pers) : namedC (shC x m i c) cl r p = shC x m i (namedC c cl r p) := by
  have h : nmC0 (shC x m i c) cl r p = shC x m i (nmC0 c cl r p) := rfl
  unfold namedC
  rw [h, beg_sh]
  rfl
theorem heard_sh (x m : Tx) (i : Nat) (c : ClM) (cl : Nat) (r : Rep) : heardC (shC x m i c) cl r = shC x m i (heardC c cl r) := by
  unfold heardC
  by_cases h0 : c.stage = 0
  · rw [if_pos (show (shC x m i c).stage = 0 from h0), if_pos h0]; exact to_sh ..
  rw [if_neg (show ¬ (shC x m i c).stage = 0 from h0), if_neg h0]
  by_cases h3 : c.stage = 3
  · rw [if_pos (show (shC x m i c).stage = 3 from h3), if_pos h3]; exact to_sh ..
  rw [if_neg (show ¬ (shC x m i c).stage = 3 from h3), if_neg h3]
  by_cases h4 : c.stage = 4
  · rw [if_pos (show (shC x m i c).stage = 4 from h4), if_pos h4]
    show (match c.ppl[c.pos]? with | some p => namedC (shC x m i c) cl r p | none => shC x m i c) = _
    cases c.ppl[c.pos]? with
    | none => rfl
    | some p => exact nm_sh ..
  rw [if_neg (show ¬ (shC x m i c).stage = 4 from h4), if_neg h4]
  by_cases h5 : c.stage = 5
  · rw [if_pos (show (shC x m i c).stage = 5 from h5), if_pos h5]
    unfold askedC
    split
    · rfl
    · split
      · exact beg_sh ..
      · exact all_sh ..
  rw [if_neg (show ¬ (shC x m i c).stage = 5 from h5), if_neg h5]
  by_cases h6 : c.stage = 6
  · rw [if_pos (show (shC x m i c).stage = 6 from h6), if_pos h6]; exact all_sh ..
  rw [if_neg (show ¬ (shC x m i c).stage = 6 from h6), if_neg h6]
  by_cases h7 : c.stage = 7
  · rw [if_pos (show (shC x m i c).stage = 7 from h7), if_pos h7]; rfl
  rw [if_neg (show ¬ (shC x m i c).stage = 7 from h7), if_neg h7]
  unfold hailedC
  by_cases h1 : cl = 5 ∧ c.stage = 1
  · rw [if_pos (show cl = 5 ∧ (shC x m i c).stage = 1 from h1), if_pos h1]; exact beg_sh ..
  · rw [if_neg (show ¬ (cl = 5 ∧ (shC x m i c).stage = 1) from h1), if_neg h1]
    exact to_sh x m i { c with well := decide (cl = 2) } 3 cl r
/-! ### feeding -/
theorem CPo.heard {c : ClM} (h : CPo c) (hs : c.stage < 8) (cl : Nat) (r : Rep) : CPo (heardC c cl r) := ⟨(Nx.heard h hs cl r).st, (Nx.heard h hs cl r).pos⟩
theorem feed_one {k : Nat} {c : ClM} (h8 : c.stage ≠ 8) (he : (readP c.left).e ≠ 140) (hs : stopB c.stage (readP c.left) = false) :
    feedL (k + 1) c = feedL k (heardC { c with left := c.left.drop (readP c.left).n.toNat } (clsN (readP c.left).c) (repOf (readP c.left))) := by
  rw [feedL, if_neg h8, if_neg he, if_neg (by rw [hs]; decide)]
theorem stop_e {st : Nat} {a : RR} (hs : stopB st a = false) : a.e = 0 := by
  unfold stopB at hs
  by_cases h : a.e = 0
  · exact h
  · have : (a.e != 0) = true := bne_iff_ne.2 h
    rw [this] at hs
    cases hs
theorem feedL_fuel : ∀ (k k' : Nat) (c : ClM), CPo c → rk c < k → rk c < k' → feedL k c = feedL k' c
  | 0, _, _, _, h, _ => by omega
  | k + 1, 0, _, _, _, h => by omega
  | k + 1, k' + 1, c, hc, h1, h2 => by
    by_cases h8 : c.stage = 8
    · rw [feedL, feedL, if_pos h8, if_pos h8]
    by_cases he : (readP c.left).e = 140
    · rw [feedL, feedL, if_neg h8, if_neg h8, if_pos he, if_pos he]
    cases hs : stopB c.stage (readP c.left) with
    | true => rw [feedL, feedL, if_neg h8, if_neg h8, if_neg he, if_neg he, if_pos hs, if_pos hs]
    | false =>
      rw [feed_one h8 he hs, feed_one h8 he hs]
      have h3 : CPo { c with left := c.left.drop (readP c.left).n.toNat } := ⟨hc.st, hc.pos⟩
      have h4 : ({ c with left := c.left.drop (readP c.left).n.toNat } : ClM).stage < 8 := by show c.stage < 8; have := hc.st; omega
      have h5 := (Nx.heard h3 h4 (clsN (readP c.left).c) (repOf (readP c.left))).rk
      have h6 : rk { c with left := c.left.drop (readP c.left).n.toNat } = rk c := rfl
      exact feedL_fuel k k' _ (h3.heard h4 _ _) (by omega) (by omega)
theorem feedL_po : ∀ (k : Nat) (c : ClM), CPo c → CPo (feedL k c) ∧ rk (feedL k c) ≤ rk c
  | 0, c, h => ⟨h, Nat.le_refl _⟩
  | k + 1, c, hc => by
    by_cases h8 : c.stage = 8
    · rw [feedL, if_pos h8]; exact ⟨hc, Nat.le_refl _⟩
    by_cases he : (readP c.left).e = 140
    · rw [feedL, if_neg h8, if_pos he]; exact ⟨hc, Nat.le_refl _⟩
    cases hs : stopB c.stage (readP c.left) with
    | true =>
      rw [feedL, if_neg h8, if_neg he, if_pos hs]
      refine ⟨⟨Nat.le_refl 8, fun h => absurd (show (8 : Nat) ≤ 4 from h) (by decide)⟩, ?_⟩
      show (8 - 8) + (c.ppl.length - c.pos) ≤ (8 - c.stage) + (c.ppl.length - c.pos)
      omega
    | false =>
      rw [feed_one h8 he hs]
      have h3 : CPo { c with left := c.left.drop (readP c.left).n.toNat } := ⟨hc.st, hc.pos⟩
      have h4 : ({ c with left := c.left.drop (readP c.left).n.toNat } : ClM).stage < 8 := by show c.stage < 8; have := hc.st; omega
      have h5 := (Nx.heard h3 h4 (clsN (readP c.left).c) (repOf (readP c.left))).rk
      have h6 : rk { c with left := c.left.drop (readP c.left).n.toNat } = rk c := rfl
      have h7 := feedL_po k _ (h3.heard h4 (clsN (readP c.left).c) (repOf (readP c.left)))
      exact ⟨h7.1, by omega⟩
/-- nothing more behind: what was sent ahead stays ahead -/
theorem feedL_out (x : Tx) (i : Nat) : ∀ (k : Nat) (c : ClM), feedL k (shC x [] i c) = shC x [] i (feedL k c)
  | 0, c => rfl
  | k + 1, c => by
    have hl : (shC x [] i c).left = c.left := List.append_nil _
    by_cases h8 : c.stage = 8
    · rw [feedL, feedL, if_pos h8, if_pos (show (shC x [] i c).stage = 8 from h8)]
    by_cases he : (readP c.left).e = 140
    · rw [feedL, feedL, if_neg h8, if_neg (show ¬ (shC x [] i c).stage = 8 from h8), if_pos he, hl, if_pos he]
    cases hs : stopB c.stage (readP c.left) with
    | true =>
      rw [feedL, feedL, if_neg h8, if_neg (show ¬ (shC x [] i c).stage = 8 from h8), if_neg he, hl, if_neg he, if_pos hs, if_pos (show stopB (shC x [] i c).stage (readP c.left) = true from hs)]
      unfold shC
      simp only [List.append_nil]
    | false =>
      rw [feed_one h8 he hs, feed_one (c := shC x [] i c) h8 (by rw [hl]; exact he) (by rw [hl]; exact hs), hl]
      have e : ({ shC x [] i c with left := c.left.drop (readP c.left).n.toNat } : ClM) = shC x [] i { c with left := c.left.drop (readP c.left).n.toNat } := by
        unfold shC
        simp only [List.append_nil]
      rw [e, heard_sh]
      exact feedL_out x i k _
structure SameC (a b : ClM) : Prop where
  st : a.stage = b.stage
  ppl : a.ppl = b.ppl
  out : a.out = b.out
theorem feedL_sh (x m : Tx) (i : Nat) : ∀ (k : Nat) (c : ClM), CPo c → rk c < k →
    ((feedL k c).stage ≠ 8 → feedL k (shC x m i c) = feedL k (shC x m i (feedL k c))) ∧ ((feedL k c).stage = 8 → SameC (feedL k (shC x m i c)) (shC x m i (feedL k c)))
  | 0, _, _, h => by omega
  | k + 1, c, hc, hk => by
    by_cases h8 : c.stage = 8
    · have e : feedL (k + 1) c = c := by rw [feedL, if_pos h8]
      rw [e]
      refine ⟨fun h => absurd h8 h, fun _ => ?_⟩
      rw [feedL, if_pos (show (shC x m i c).stage = 8 from h8)]
      exact ⟨rfl, rfl, rfl⟩
    by_cases he : (readP c.left).e = 140
    · have e : feedL (k + 1) c = c := by rw [feedL, if_neg h8, if_pos he]
      rw [e]
      exact ⟨fun _ => rfl, fun h => absurd h h8⟩
    have hr : readP (shC x m i c).left = readP c.left := readP_behind m he
    cases hs : stopB c.stage (readP c.left) with
    | true =>
      have e : feedL (k + 1) c = { c with stage := 8 } := by rw [feedL, if_neg h8, if_neg he, if_pos hs]
      rw [e]
      refine ⟨fun h => absurd rfl h, fun _ => ?_⟩
      rw [feedL, if_neg (show ¬ (shC x m i c).stage = 8 from h8), hr, if_neg he, if_pos (show stopB (shC x m i c).stage (readP c.left) = true from hs)]
      exact ⟨rfl, rfl, rfl⟩
    | false =>
      have hn : (readP c.left).n.toNat ≤ c.left.length := by
        have := (readP_right (stop_e hs)).2
        omega
      have e1 := feed_one (k := k) h8 he hs
      have e2 := feed_one (k := k) (c := shC x m i c) h8 (by rw [hr]; exact he) (by rw [hr]; exact hs)
      rw [hr] at e2
      have e3 : ({ shC x m i c with left := (shC x m i c).left.drop (readP c.left).n.toNat } : ClM) = shC x m i { c with left := c.left.drop (readP c.left).n.toNat } := by
        unfold shC
        simp only [List.drop_append_of_le_length hn]
      rw [e3, heard_sh] at e2
      have h3 : CPo { c with left := c.left.drop (readP c.left).n.toNat } := ⟨hc.st, hc.pos⟩
      have h4 : ({ c with left := c.left.drop (readP c.left).n.toNat } : ClM).stage < 8 := by show c.stage < 8; have := hc.st; omega
      have h5 := (Nx.heard h3 h4 (clsN (readP c.left).c) (repOf (readP c.left))).rk
      have h6 : rk { c with left := c.left.drop (readP c.left).n.toNat } = rk c := rfl
      have h7 := h3.heard h4 (clsN (readP c.left).c) (repOf (readP c.left))
      have ih := feedL_sh x m i k _ h7 (by omega)
      have hp := feedL_po k _ h7
      rw [e1, e2]
      refine ⟨fun h => ?_, ih.2⟩
      rw [ih.1 h]
      have hq : CPo (shC x m i (feedL k (heardC { c with left := c.left.drop (readP c.left).n.toNat } (clsN (readP c.left).c) (repOf (readP c.left))))) := ⟨hp.1.st, hp.1.pos⟩
      have hrk : rk (shC x m i (feedL k (heardC { c with left := c.left.drop (readP c.left).n.toNat } (clsN (readP c.left).c) (repOf (readP c.left))))) = rk (feedL k (heardC { c with left := c.left.drop (readP c.left).n.toNat } (clsN (readP c.left).c) (repOf (readP c.left)))) := rfl
      exact feedL_fuel _ _ _ hq (by omega) (by omega)
/-- a client as it is made -/
structure CNew (c : ClM) : Prop where
  st : c.stage = 0
  po : CPo c
  left : c.left = []
  out : c.out = []
  idle : c.idle = 0
def allF (c : ClM) (b : Tx) : ClM := feedL (rk c + 1) { c with left := b }
/-- how d, that was fed in pieces what was sent to O, stands against c that was fed it whole -/
structure CutI (c : ClM) (b : Tx) (d : ClM) (O : Tx) : Prop where
  po : CPo d
  on : d.stage ≠ 8 → allF c b = { d with out := O, idle := 0 }
  off : d.stage = 8 → (allF c b).stage = 8 ∧ (allF c b).ppl = d.ppl ∧ (allF c b).out = O
theorem CutI.start {c : ClM} (h : CNew c) : CutI c [] c [] := by
  have e : ({ c with left := [] } : ClM) = c := by cases c; have := h.left; simp only at this; subst this; rfl
  have e2 : allF c [] = c := by
    unfold allF
    rw [e, feedL, if_neg (by rw [h.st]; decide), h.left, if_pos (by decide)]
  refine ⟨h.po, fun _ => ?_, fun h8 => by rw [h.st] at h8; cases h8⟩
  rw [e2]
  obtain ⟨h1, h2, h3, h4, h5⟩ := h
  cases c
  simp only at h3 h4 h5
  subst h3; subst h4; subst h5
  rfl
theorem CutI.step {c d : ClM} {b O : Tx} (hc : CNew c) (h : CutI c b d O) (m : Tx) : CutI c (b ++ m) (feedC d m) (O ++ feedO d m) := by
  have hb : CPo { c with left := b } := ⟨hc.po.st, hc.po.pos⟩
  have hrk : rk { c with left := b } = rk c := rfl
  have hS := feedL_sh [] m 0 (rk c + 1) { c with left := b } hb (by omega)
  have hsc : shC [] m 0 { c with left := b } = { c with left := b ++ m } := by
    unfold shC
    have := hc.idle
    have := hc.out
    cases c
    simp_all
  rw [hsc] at hS
  have hpo := (feedL_po (rk c + 1) { c with left := b } hb)
  by_cases h8 : d.stage = 8
  · obtain ⟨q1, q2, q3⟩ := h.off h8
    have e : feedC d m = d := by unfold feedC; rw [if_pos h8]
    have e2 : feedO d m = [] := by unfold feedO; rw [if_pos h8]
    rw [e, e2, List.append_nil]
    have hs := hS.2 q1
    refine ⟨h.po, fun h => absurd h8 h, fun _ => ⟨hs.st.trans q1, hs.ppl.trans q2, hs.out.trans q3⟩⟩
  · have hon := h.on h8
    have hst : (allF c b).stage ≠ 8 := by rw [hon]; exact h8
    have e1 := hS.1 hst
    have e : feedC d m = feedL (rk d + 1) { d with idle := 0, out := [], left := d.left ++ m } := by unfold feedC; rw [if_neg h8]
    have e2 : feedO d m = (feedC d m).out := by unfold feedO; rw [if_neg h8]
    have e3 : shC [] m 0 (feedL (rk c + 1) { c with left := b }) = shC O [] 0 { d with idle := 0, out := [], left := d.left ++ m } := by
      rw [show feedL (rk c + 1) { c with left := b } = allF c b from rfl, hon]
      unfold shC
      simp
    have hd : CPo { d with idle := 0, out := [], left := d.left ++ m } := ⟨h.po.st, h.po.pos⟩
    have hrd : rk { d with idle := 0, out := [], left := d.left ++ m } = rk d := rfl
    have hle : rk d ≤ rk c := by
      have h1 := hpo.2
      rw [show feedL (rk c + 1) { c with left := b } = allF c b from rfl, hon] at h1
      exact h1
    have e4 : allF c (b ++ m) = shC O [] 0 (feedC d m) := by
      show feedL (rk c + 1) { c with left := b ++ m } = _
      rw [e1, e3, feedL_out, e]
      congr 1
      exact feedL_fuel _ _ _ hd (by omega) (by omega)
    have hp2 : CPo (feedC d m) := by rw [e]; exact (feedL_po _ _ hd).1
    refine ⟨hp2, fun h => ?_, fun h => ?_⟩
    · rw [e4, e2]
      have hi : (feedC d m).left ++ [] = (feedC d m).left := List.append_nil _
      unfold shC
      rw [hi]
    · rw [e4, e2]
      exact ⟨h, rfl, rfl⟩
/-- the law's end: what was sent and what becomes of all are the same -/
theorem CutI.done {c d : ClM} {b O : Tx} (hc : CNew c) (h : CutI c b d O) : (feedC c b).out = O ∧ (feedC c b).ppl = d.ppl ∧ ((feedC c b).stage = 8 ↔ d.stage = 8) ∧ feedO c b = (feedC c b).out := by
  have h0 : ¬ c.stage = 8 := by rw [hc.st]; decide
  have e : feedC c b = allF c b := by
    unfold feedC allF
    rw [if_neg h0]
    obtain ⟨h1, h2, h3, h4, h5⟩ := hc
    cases c
    simp only at h3 h4 h5
    subst h3; subst h4; subst h5
    rfl
  have e2 : feedO c b = (feedC c b).out := by unfold feedO; rw [if_neg h0]
  by_cases h8 : d.stage = 8
  · obtain ⟨q1, q2, q3⟩ := h.off h8
    rw [e]
    exact ⟨q3, q2, ⟨fun _ => h8, fun _ => q1⟩, by rw [← e]; exact e2⟩
  · have hon := h.on h8
    rw [e2, e, hon]
    exact ⟨rfl, rfl, Iff.rfl, rfl⟩
end Go.Proofs.YtjnjnccfojfghaaGreatDoor
