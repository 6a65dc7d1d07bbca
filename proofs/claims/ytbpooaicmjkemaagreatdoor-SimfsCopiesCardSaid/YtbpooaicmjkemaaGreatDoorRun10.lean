/-
  Several texts in one (merge.py): SfDd, SfOpn. Conditions: each part names its own.
-/
import Derived.Test.YtbpooaicmjkemaaGreatDoorSfWf
import Derived.Test.YtbpooaicmjkemaaGreatDoorLibAll
import Derived.Lib.SmallJoins
/-! Deeds as records, what each leaves, and that what holds of a disk goes on holding. No program in sight. No condition. -/
namespace Go.Proofs.YtbpooaicmjkemaaGreatDoor
set_option linter.unusedVariables false
structure Dd where
  kind : Int
  path : Tx
  tt : Tx
  b : Tx
  n : Int
  e : Int
  kc : List Bool
  kw : List Int
def doesM (d : Dk) (x : Dd) : Dk × Int :=
  if x.kind = 0 then createM d x.path
  else if x.kind = 1 then appendM d x.path x.b
  else if x.kind = 2 then writeAtM d x.path x.n x.b
  else if x.kind = 3 then syncM d x.path
  else if x.kind = 4 then renameM d x.path x.tt
  else if x.kind = 5 then unlinkM d x.path
  else if x.kind = 6 then syncDirM d x.tt
  else if x.kind = 7 then failM d x.n x.e
  else if x.kind = 8 then armM d x.n
  else if x.kind = 9 then (crashM d x.kc x.kw, 0)
  else (d, 0)
/-! ### what holds goes on -/
theorem node_le_used {nodes : List Nd} : ∀ {L : Es} {p : Tx} {i : Nat}, (p, i) ∈ L → (nodes.getD i nd0).now.length ≤ usedL nodes L
  | [], _, _, h => by cases h
  | e :: r, p, i, h => by
    unfold usedL
    simp only [List.map_cons, List.sum_cons]
    rcases List.mem_cons.1 h with h | h
    · rw [← h]; simp only []; omega
    · have := node_le_used (nodes := nodes) h
      unfold usedL at this
      omega
theorem miss_some {d : Dk} {p : Tx} (h : missM d p = 0) : d.off = false ∧ getE d.now p = some (fileM d p) := by
  unfold missM at h
  split at h
  · cases h
  · split at h
    · cases h
    · rename_i h1 h2
      refine ⟨by simpa using h1, ?_⟩
      unfold fileM
      cases hg : getE d.now p with
      | none => exact absurd hg h2
      | some i => rfl
theorem Wf.wq {d : Dk} {K : Nat} (h : Wf d K) (n : Nat) {w : Wr} (hf : FitW (nodeM d n).now w) (hl : (laid (nodeM d n).now w).length ≤ 67108864) : Wf (writeM d n w).1 (K + 1) := by
  unfold writeM
  split
  · exact h.step.mono (Nat.le_succ _)
  · have e : nodeM (stepM d).1 n = nodeM d n := by unfold nodeM; rw [(step_same d).2.1]
    exact h.step.wrote n (by rw [e]; exact hf) (by rw [e]; exact hl)
theorem Wf.does {d : Dk} {K : Nat} (h : Wf d K) (x : Dd) : Wf (doesM d x).1 (K + 1) := by
  have h0 := h.mono (Nat.le_succ K)
  have hst := h.step.mono (Nat.le_succ K)
  obtain ⟨s1, s2, s3, s4, s5, s6⟩ := step_same d
  unfold doesM
  split
  · unfold createM
    split
    · exact h0
    · split
      · exact h0
      · rename_i hm
        split
        · exact h0
        · split
          · exact h0
          · split
            · exact hst
            · have := h.step.create (p := x.path) (by rw [s1]; simpa using hm)
              rw [s2] at this
              exact this
  split
  · unfold appendM
    split
    · exact h0
    · rename_i hm
      have hm : missM d x.path = 0 := by simpa using hm
      split
      · exact h0
      · rename_i hq
        have h1 := node_le_used (nodes := d.nodes) (getE_some (miss_some hm).2)
        have h2 := h.q2
        refine h.wq _ (.inl rfl) ?_
        rw [laid_len (.inl rfl), if_pos (show ((-1 : Int) < 0) by decide)]
        have h3 : (nodeM d (fileM d x.path)).now.length ≤ usedM d := h1
        show (nodeM d (fileM d x.path)).now.length + x.b.length ≤ _
        omega
  split
  · unfold writeAtM
    split
    · exact h0
    · split
      · exact h0
      · rename_i hq
        have hf : FitW (nodeM d (fileM d x.path)).now ⟨x.n, x.b⟩ := .inr ⟨by show 0 ≤ x.n; omega, by show x.n.toNat + x.b.length ≤ _; omega⟩
        refine h.wq _ hf ?_
        rw [laid_len hf, if_neg (by show ¬ x.n < 0; omega)]
        exact (h.node _).ln
  split
  · unfold syncM
    split
    · exact h0
    · split
      · exact hst
      · exact h.step.synced _
  split
  · unfold renameM
    split
    · exact h0
    · rename_i hm
      have hm : missM d x.path = 0 := by simpa using hm
      have hg := (miss_some hm).2
      have hp := h.mn _ (getE_some hg)
      split
      · exact h0
      · rename_i hq
        have hq : mayB d.dirs x.tt = true := by simpa using hq
        split
        · exact hst
        · split
          · exact hst
          · rename_i hne
            refine h.step.enter (c := ⟨2, x.path, x.tt, 0⟩) (.inr (.inl ⟨rfl, may_ne hp, may_ne hq, hne⟩)) ⟨fun _ => by rw [s1]; exact hp, fun _ => by rw [s1]; exact hq⟩ (by show (2 : Int) ≠ 1; decide) (fun _ => by rw [s3, hg]; exact fun h => by cases h)
  split
  · unfold unlinkM
    split
    · exact h0
    · rename_i hm
      have hm : missM d x.path = 0 := by simpa using hm
      have hp := h.mn _ (getE_some (miss_some hm).2)
      split
      · exact hst
      · exact h.step.enter (c := ⟨3, x.path, [], 0⟩) (.inr (.inr ⟨rfl, may_ne hp, rfl⟩)) ⟨fun _ => by rw [s1]; exact hp, fun e => absurd rfl e⟩ (by show (3 : Int) ≠ 1; decide) (fun k => by cases k)
  split
  · unfold syncDirM
    split
    · exact h0
    · split
      · exact h0
      · split
        · exact hst
        · rw [← s5]
          exact (h.step.last (brought_len _ _) (brought_closed _ _)).mono (Nat.le_succ _)
  split
  · unfold failM
    split
    · exact h0
    · split
      · exact h0
      · exact ⟨h0.q1, h0.q2, h0.dn, h0.ds, h0.dl, h0.sl, h0.ml, h0.oc, h0.mw, h0.va, h0.eq, h0.ij, h0.fr, h0.il, h0.iw, h0.cp, h0.nd, h0.nk, h0.wk⟩
  split
  · unfold armM
    split
    · exact h0
    · split
      · exact h0
      · exact ⟨h0.q1, h0.q2, h0.dn, h0.ds, h0.dl, h0.sl, h0.ml, h0.oc, h0.mw, h0.va, h0.eq, h0.ij, h0.fr, h0.il, h0.iw, h0.cp, h0.nd, h0.nk, h0.wk⟩
  split
  · exact h0.crash _ _
  · exact h0
end Go.Proofs.YtbpooaicmjkemaaGreatDoor

/-! Opening an argument that is a row of deeds, and one that says what survives. No condition. -/
namespace Go.Proofs.YtbpooaicmjkemaaGreatDoor
open Go.ChangeShapes Go.WideShapes Go.ChangeAt Go.RowKit Go.Deep
set_option linter.unusedVariables false
section
variable {H : Type} {enc : TypeId × Value → H} {P : Program}
theorem open_boolsT {W : World} {base0 fuel : Nat} {T t : TypeId} {v : Value} {y : DataW H × List MemPlace} (hT : P.underlying T = some (.slice t)) (ht : P.underlying t = some .bool) (hcT : P.cellsOf t = 1)
    (hf : DataW.trod enc P W base0 (fun _ => true) true fuel T [v] = some y) :
    ∃ A L cp, v = .slice A L.length cp ∧ L.length ≤ cp ∧ cp ≤ maxLen ∧ RT W W.heap.size A L := by
  obtain ⟨d, p⟩ := y
  rcases Deep.open_slice1 hT hcT hf with ⟨hcs, hx⟩ | ⟨a, len, cap, m, n, V, D, Pl, hcs, _, hl, hm, hmm, hx, hcell⟩
  · obtain rfl : v = _ := by simpa using hcs
    exact ⟨none, [], 0, rfl, by simp, by simp [maxLen], .inl rfl⟩
  · obtain rfl : v = _ := by simpa using hcs
    simp only [if_true] at hmm
    subst hmm
    have each : ∀ i, i < m → ∃ y : Bool, V i = .bool y := by
      intro i hi
      obtain ⟨b, hb, _⟩ := DataW.trod_bool ht (hcell i hi).2
      exact ⟨b, by simpa using hb⟩
    obtain ⟨y, hy⟩ := Deep.choose_lt each
    refine ⟨some a, (List.range len).map y, m, by simp, by simpa using hl, hm, ?_⟩
    rcases Nat.eq_zero_or_pos len with h0 | h0
    · subst h0; exact .inl (by simp)
    · obtain ⟨b, off, spot⟩ := a
      have hc0 := (hcell 0 (by omega)).1
      obtain rfl : spot = none := by simpa [Addr.add] using World.cell?_spot hc0
      have hlt := World.block_lt_of_cell? _ _ hc0
      refine .inr ⟨b, off, rfl, by simpa [Addr.add_lit] using hlt, fun i l hil => ?_⟩
      obtain ⟨hi, rfl⟩ := row_of _ _ _ _ hil
      rw [← hy i (by omega), ← (hcell i (by omega)).1, Addr.add_lit]
theorem open_numsT {W : World} {base0 fuel : Nat} {t E : TypeId} {v : Value} {y : DataW H × List MemPlace} (ht : P.underlying t = some (.slice E)) (hE : P.underlying E = some (.int .i64)) (hcE : P.cellsOf E = 1)
    (hf : DataW.trod enc P W base0 (fun _ => true) true fuel t [v] = some y) :
    ∃ A zs cp, v = .slice A zs.length cp ∧ zs.length ≤ cp ∧ cp ≤ maxLen ∧ RI W W.heap.size A zs ∧ (∀ z ∈ zs, -9223372036854775808 ≤ z ∧ z ≤ 9223372036854775807) := by
  obtain ⟨d, p⟩ := y
  rcases open_ints ht hE hcE hf with ⟨hcs, _⟩ | ⟨x, len, cap, zs, hcs, _, hl, hm, hz, hx, hcell, hwz⟩
  · obtain rfl : v = _ := by simpa using hcs
    exact ⟨none, [], 0, rfl, by simp, by simp [maxLen], .inl rfl, by simp⟩
  · obtain rfl : v = _ := by simpa using hcs
    simp only [if_true] at hz
    have hlen : (zs.take len).length = len := by simp; omega
    refine ⟨some x, zs.take len, cap, by rw [hlen], by rw [hlen]; exact hl, hm, ?_, fun z hz => by simpa [Lit.wf, IntKind.min, IntKind.max, IntKind.bits, IntKind.signed] using hwz z (List.mem_of_mem_take hz)⟩
    rcases Nat.eq_zero_or_pos len with h0 | h0
    · subst h0; exact .inl (by simp)
    · obtain ⟨b, off, spot⟩ := x
      have hc0 := hcell 0 (by omega)
      obtain rfl : spot = none := by simpa [Addr.add] using World.cell?_spot hc0
      have hlt := World.block_lt_of_cell? _ _ hc0
      refine .inr ⟨b, off, rfl, by simpa [Addr.add_lit] using hlt, fun i z hiz => ?_⟩
      have hi : i < len := by
        have := (List.getElem?_eq_some_iff.1 hiz).1
        rw [hlen] at this
        exact this
      have hci := hcell i (by omega)
      rw [Addr.add_lit] at hci
      rw [hci]
      rw [List.getElem?_take_of_lt hi] at hiz
      rw [List.getD_eq_getElem?_getD, hiz]
      rfl
theorem trod_struct2 {w : World} {base : Nat} {spare : Nat → Bool} {held : Bool} {t : TypeId} {f0 f1 : Field} {fuel : Nat} {cs : List Value} {x : DataW H × List MemPlace} (ht : P.underlying t = some (.struct #[f0, f1])) (h : DataW.trod enc P w base spare held fuel t cs = some x) :
    ∃ y0 y1 n, x = (.agg [y0.1, y1.1], y0.2 ++ y1.2) ∧ cs.length = P.cellsOf t ∧ DataW.trod enc P w base spare held n f0.type ((cs.drop f0.offset).take (P.cellsOf f0.type)) = some y0 ∧
      DataW.trod enc P w base spare held n f1.type ((cs.drop f1.offset).take (P.cellsOf f1.type)) = some y1 := by
  obtain ⟨xs, n, _, rfl, hl, hlen, hf⟩ := DataW.trod_struct ht h
  match xs, hlen with
  | [y0, y1], _ => exact ⟨y0, y1, n, by simp, hl, by simpa using hf 0 f0 rfl, by simpa using hf 1 f1 rfl⟩
theorem trod_struct7 {w : World} {base : Nat} {spare : Nat → Bool} {held : Bool} {t : TypeId} {f0 f1 f2 f3 f4 f5 f6 : Field} {fuel : Nat} {cs : List Value} {x : DataW H × List MemPlace} (ht : P.underlying t = some (.struct #[f0, f1, f2, f3, f4, f5, f6])) (h : DataW.trod enc P w base spare held fuel t cs = some x) :
    ∃ y0 y1 y2 y3 y4 y5 y6 n, x.1 = .agg [y0.1, y1.1, y2.1, y3.1, y4.1, y5.1, y6.1] ∧ cs.length = P.cellsOf t ∧ DataW.trod enc P w base spare held n f0.type ((cs.drop f0.offset).take (P.cellsOf f0.type)) = some y0 ∧
      DataW.trod enc P w base spare held n f1.type ((cs.drop f1.offset).take (P.cellsOf f1.type)) = some y1 ∧ DataW.trod enc P w base spare held n f2.type ((cs.drop f2.offset).take (P.cellsOf f2.type)) = some y2 ∧
      DataW.trod enc P w base spare held n f3.type ((cs.drop f3.offset).take (P.cellsOf f3.type)) = some y3 ∧ DataW.trod enc P w base spare held n f4.type ((cs.drop f4.offset).take (P.cellsOf f4.type)) = some y4 ∧
      DataW.trod enc P w base spare held n f5.type ((cs.drop f5.offset).take (P.cellsOf f5.type)) = some y5 ∧ DataW.trod enc P w base spare held n f6.type ((cs.drop f6.offset).take (P.cellsOf f6.type)) = some y6 := by
  obtain ⟨xs, n, _, rfl, hl, hlen, hf⟩ := DataW.trod_struct ht h
  match xs, hlen with
  | [y0, y1, y2, y3, y4, y5, y6], _ => exact ⟨y0, y1, y2, y3, y4, y5, y6, n, by simp, hl, by simpa using hf 0 f0 rfl, by simpa using hf 1 f1 rfl, by simpa using hf 2 f2 rfl, by simpa using hf 3 f3 rfl, by simpa using hf 4 f4 rfl, by simpa using hf 5 f5 rfl, by simpa using hf 6 f6 rfl⟩
theorem weightsAll_mem {e : TypeId} {d : DataW H} {n : Nat} (hn : n ∈ d.weights P e) : ∀ {L : List (DataW H)}, d ∈ L → n ∈ DataW.weightsAll P e L
  | [], h => by cases h
  | x :: r, h => by
    unfold DataW.weightsAll
    rw [List.mem_append]
    rcases List.mem_cons.1 h with rfl | h
    · exact .inl hn
    · exact .inr (weightsAll_mem hn h)
/-- the bytes of one field: their number -/
theorem bytes_small {W : World} {held : Bool} {fuel : Nat} {t E : TypeId} {v : Value} {y : DataW H × List MemPlace} (hU : U8 P t E) (hcE : P.cellsOf E = 1) (hbE : P.bytesOf E = 1)
    (hf : DataW.trod enc P W 0 (fun _ => true) held fuel t [v] = some y) (hw : ∀ n ∈ y.1.weights P t, n ≤ reachBytes) :
    ∃ A l cp, v = .slice A l.length cp ∧ RB W W.heap.size A l ∧ (A = none → l.length = 0) ∧ l.length ≤ cp ∧ cp ≤ 140737488351232 := by
  obtain ⟨A, l, cp, h1, h2, h3, h4, h5, h6⟩ := open_bytesT hU hcE (d := y.1) (p := y.2) hf
  refine ⟨A, l, cp, h1, h4, (fun e => by have := h5 e; omega), h2, ?_⟩
  rcases h6 with ⟨_, h6⟩ | ⟨es, ss, h6, h7, h8⟩
  · omega
  · rw [h6] at hw
    have := hw ((es.length + ss.length) * P.bytesOf E) (by simp only [DataW.weights, hU.ht]; exact List.mem_cons_self)
    rw [hbE, Nat.mul_one, h8] at this
    unfold reachBytes at this
    omega
end
/-! ### a deed as it lies in memory -/
structure DdV where
  A : Option Addr
  c : Nat
  Ac : Option Addr
  cc : Nat
  Aw : Option Addr
  cw : Nat
/-- what survives, as it lies -/
structure KeepR (w : World) (B : Nat) (kc : List Bool) (kw : List Int) (m : DdV) : Prop where
  rc : RT w B m.Ac kc
  rw_ : RI w B m.Aw kw
  lc : kc.length ≤ m.cc
  mc : m.cc ≤ maxLen
  lw : kw.length ≤ m.cw
  mw : m.cw ≤ maxLen
  zw : ∀ z ∈ kw, -9223372036854775808 ≤ z ∧ z ≤ 9223372036854775807
structure DdR (w : World) (B : Nat) (x : Dd) (m : DdV) : Prop where
  rb : RB w B m.A x.b
  nb : m.A = none → x.b.length = 0
  lb : x.b.length ≤ m.c
  mb : m.c ≤ 140737488351232
  lp : x.path.length ≤ maxLen
  lt : x.tt.length ≤ maxLen
  n0 : -9223372036854775808 ≤ x.n ∧ x.n ≤ 9223372036854775807
  kp : KeepR w B x.kc x.kw m
def ddC (x : Dd) (m : DdV) : List Value := [.int .i64 x.kind, .string (bs x.path), .string (bs x.tt), .slice m.A x.b.length m.c, .int .i64 x.n, .int .i64 x.e, .slice m.Ac x.kc.length m.cc, .slice m.Aw x.kw.length m.cw]
theorem KeepR.below {w w' : World} {B : Nat} {kc : List Bool} {kw : List Int} {m : DdV} (h : KeepR w B kc kw m) (hb : Below B w w') : KeepR w' B kc kw m := ⟨h.rc.below hb, h.rw_.below hb, h.lc, h.mc, h.lw, h.mw, h.zw⟩
theorem DdR.below {w w' : World} {B : Nat} {x : Dd} {m : DdV} (h : DdR w B x m) (hb : Below B w w') : DdR w' B x m := ⟨h.rb.below hb, h.nb, h.lb, h.mb, h.lp, h.lt, h.n0, h.kp.below hb⟩
/-- a row of deeds -/
def RDs (w : World) (B : Nat) (A : Option Addr) (L : List Dd) : Prop :=
  L = [] ∨ ∃ b off, A = some ⟨b, off, none⟩ ∧ b < B ∧ ∀ i x, L[i]? = some x → ∃ m, (∀ k v, (ddC x m)[k]? = some v → w.cell? ⟨b, off + i * 8 + k, none⟩ = some v) ∧ DdR w B x m
theorem RDs.below {w w' : World} {B : Nat} {A : Option Addr} {L : List Dd} (h : RDs w B A L) (hb : Below B w w') : RDs w' B A L := by
  rcases h with h | ⟨b, off, rfl, hlt, hc⟩
  · exact .inl h
  · refine .inr ⟨b, off, rfl, hlt, fun i x hx => ?_⟩
    obtain ⟨m, h1, h2⟩ := hc i x hx
    exact ⟨m, fun k v hv => by rw [hb.cell (show b < B from hlt)]; exact h1 k v hv, h2.below hb⟩
section
variable {H : Type} {enc : TypeId × Value → H} {P : Program}
theorem open_sdeeds {W : World} {r : Reach} {base0 : Nat} {T e tb E Ec Ew : TypeId} {f0 f1 f2 f3 f4 f5 f6 g0 g1 : Field} {v : Value} {d : DataW H} {p : List MemPlace} {ts : List TypeId} {ds : List (DataW H)} {j : Nat} (hT : P.underlying T = some (.slice e)) (he : P.underlying e = some (.struct #[f0, f1, f2, f3, f4, f5, f6]))
    (u0 : P.underlying f0.type = some (.int .i64)) (u1 : P.underlying f1.type = some .string) (u2 : P.underlying f2.type = some .string) (u3 : f3.type = tb) (hU : U8 P tb E) (hcE : P.cellsOf E = 1) (hbE : P.bytesOf E = 1)
    (u4 : P.underlying f4.type = some (.int .i64)) (u5 : P.underlying f5.type = some (.int .i64)) (u6 : P.underlying f6.type = some (.struct #[g0, g1])) (v0 : P.underlying g0.type = some (.slice Ec)) (vc : P.underlying Ec = some .bool) (cc : P.cellsOf Ec = 1) (v1 : P.underlying g1.type = some (.slice Ew)) (vw : P.underlying Ew = some (.int .i64)) (cw : P.cellsOf Ew = 1)
    (o : f0.offset = 0 ∧ f1.offset = 1 ∧ f2.offset = 2 ∧ f3.offset = 3 ∧ f4.offset = 4 ∧ f5.offset = 5 ∧ f6.offset = 6 ∧ g0.offset = 0 ∧ g1.offset = 1)
    (k : P.cellsOf f0.type = 1 ∧ P.cellsOf f1.type = 1 ∧ P.cellsOf f2.type = 1 ∧ P.cellsOf f3.type = 1 ∧ P.cellsOf f4.type = 1 ∧ P.cellsOf f5.type = 1 ∧ P.cellsOf f6.type = 2 ∧ P.cellsOf g0.type = 1 ∧ P.cellsOf g1.type = 1) (hC : P.cellsOf e = 8) (hB : P.bytesOf e = 128)
    (hval : Value.okWide P W r base0 T v) (h : DataW.Trod enc P W 0 (fun _ => true) true T v d p) (hsz : (DataW.weightsEach P ts ds).all (· ≤ reachBytes) = true) (hts : ts[j]? = some T) (hds : ds[j]? = some d) :
    ∃ A D cp, v = .slice A D.length cp ∧ D.length ≤ cp ∧ cp ≤ 140737488351232 ∧ RDs W W.heap.size A D := by
  obtain ⟨a0, len0, cap0, rfl⟩ := okWide_slice hT hval
  obtain ⟨fuel, hf⟩ := h
  obtain ⟨o0, o1, o2, o3, o4, o5, o6, p0, p1⟩ := o
  obtain ⟨k0, k1, k2, k3, k4, k5, k6, l0, l1⟩ := k
  rcases open_slice hT hf with ⟨hcs, _⟩ | ⟨a, len, cap, m, n', D, Pl, hcs, hb, hl, hm, hmm, hx, hi⟩
  · simp [Value.cells] at hcs
    obtain ⟨rfl, rfl, rfl⟩ := hcs
    exact ⟨none, [], 0, rfl, by simp, by omega, .inl rfl⟩
  · simp [Value.cells] at hcs
    obtain ⟨rfl, rfl, rfl⟩ := hcs
    simp only [if_true] at hmm
    subst hmm
    obtain rfl : d = _ := congrArg Prod.fst hx
    have hs := sized_slice hsz hts hds hT
    simp only [List.length_map, List.length_range] at hs
    rw [hB] at hs
    unfold reachBytes at hs
    have hwt : ∀ i, i < len0 → ∀ q ∈ (D i).weights P e, q ≤ reachBytes := fun i hil q hq => by
      have h1 : q ∈ DataW.weightsAll P e ((List.range len0).map D) := weightsAll_mem hq (List.mem_map.2 ⟨i, List.mem_range.2 hil, rfl⟩)
      have h2 := List.all_eq_true.1 hsz q (DataW.weights_mem_each hts hds q (by simp only [DataW.weights, hT]; exact List.mem_cons_of_mem _ (List.mem_append_left _ h1)))
      simpa using h2
    have key : ∀ i, ∃ x : Dd × DdV, i < len0 → (∀ k v, (ddC x.1 x.2)[k]? = some v → W.cell? (a.add (i * 8 + k)) = some v) ∧ DdR W W.heap.size x.1 x.2 := by
      intro i
      by_cases him : i < len0
      · obtain ⟨cs', hc, ht'⟩ := hi i (by omega)
        rw [hC] at hc
        obtain ⟨_, hcl, hat⟩ := World.cells?_some hc
        obtain ⟨y0, y1, y2, y3, y4, y5, y6, n2, hx2, _, g0', g1', g2, g3, g4, g5, g6⟩ := trod_struct7 he ht'
        rw [o0, k0] at g0'
        rw [o1, k1] at g1'
        rw [o2, k2] at g2
        rw [o3, k3] at g3
        rw [o4, k4] at g4
        rw [o5, k5] at g5
        rw [o6, k6] at g6
        obtain ⟨z0, e0, _, w0⟩ := DataW.trod_int u0 g0'
        obtain ⟨s1, e1, _, hs1⟩ := DataW.trod_string u1 g1'
        obtain ⟨s2, e2, _, hs2⟩ := DataW.trod_string u2 g2
        obtain ⟨z4, e4, _, w4⟩ := DataW.trod_int u4 g4
        obtain ⟨z5, e5, _, w5⟩ := DataW.trod_int u5 g5
        match cs', hcl with
        | [x0, x1, x2, x3, x4, x5, x6, x7], _ =>
          obtain rfl : x0 = .int .i64 z0 := by simpa using e0
          obtain rfl : x1 = .string s1 := by simpa using e1
          obtain rfl : x2 = .string s2 := by simpa using e2
          obtain rfl : x4 = .int .i64 z4 := by simpa using e4
          obtain rfl : x5 = .int .i64 z5 := by simpa using e5
          have hw3 : ∀ q ∈ y3.1.weights P f3.type, q ≤ reachBytes := fun q hq => hwt i him q (by
            rw [show D i = _ from hx2]
            simp only [DataW.weights, he]
            exact DataW.weights_mem_each (j := 3) (t := f3.type) rfl rfl q hq)
          rw [u3] at g3 hw3
          obtain ⟨A, l, cp, ev, hrb, hnil, hlc, hle⟩ := bytes_small hU hcE hbE (v := x3) (by simpa using g3) hw3
          subst ev
          obtain ⟨q0, q1, n3, _, _, r0, r1⟩ := trod_struct2 u6 (by simpa using g6)
          rw [p0, l0] at r0
          rw [p1, l1] at r1
          obtain ⟨Ac, kc, cpc, ev1, b1, b2, b3⟩ := open_boolsT v0 vc cc (v := x6) (by simpa using r0)
          obtain ⟨Aw, kw, cpw, ev2, b4, b5, b6, b7⟩ := open_numsT v1 vw cw (v := x7) (by simpa using r1)
          subst ev1
          subst ev2
          have hz : -9223372036854775808 ≤ z4 ∧ z4 ≤ 9223372036854775807 := by simpa [Lit.wf, IntKind.min, IntKind.max, IntKind.bits, IntKind.signed] using w4
          refine ⟨⟨⟨z0, s1.data.toList, s2.data.toList, l, z4, z5, kc, kw⟩, ⟨A, cp, Ac, cpc, Aw, cpw⟩⟩, fun _ => ⟨fun k v hv => ?_, ⟨hrb, hnil, hlc, hle, by rw [← size_len]; exact hs1, by rw [← size_len]; exact hs2, hz, ⟨b3, b6, b1, b2, b4, b5, b7⟩⟩⟩⟩
          have hk : k < 8 := (List.getElem?_eq_some_iff.1 hv).1
          have hh := hat k hk
          rw [Go.Deep.add_add] at hh
          rw [hh, ← hv]
          unfold ddC
          rw [bs_of, bs_of]
      · exact ⟨⟨⟨0, [], [], [], 0, 0, [], []⟩, ⟨none, 0, none, 0, none, 0⟩⟩, fun h => absurd h him⟩
    obtain ⟨f, hf2⟩ := Classical.skolem.1 key
    have hlen : ((List.range len0).map fun i => (f i).1).length = len0 := by simp
    refine ⟨some a, (List.range len0).map fun i => (f i).1, m, by rw [hlen], by rw [hlen]; exact hl, by omega, ?_⟩
    rcases Nat.eq_zero_or_pos len0 with h0 | h0
    · subst h0; exact .inl (by simp)
    · obtain ⟨b, off, spot⟩ := a
      have hc0 := (hf2 0 (by omega)).1 0 _ rfl
      obtain rfl : spot = none := by simpa [Addr.add] using World.cell?_spot hc0
      have hlt := World.block_lt_of_cell? _ _ hc0
      refine .inr ⟨b, off, rfl, by simpa [Addr.add_lit] using hlt, fun i x hx => ?_⟩
      rw [List.getElem?_map] at hx
      by_cases hil : i < len0
      · rw [List.getElem?_range hil] at hx
        obtain rfl : (f i).1 = x := by simpa using hx
        obtain ⟨h1, h2⟩ := hf2 i hil
        refine ⟨(f i).2, fun k v hv => ?_, h2⟩
        have := h1 k v hv
        rw [Addr.add_lit] at this
        rw [Nat.add_assoc]
        exact this
      · rw [List.getElem?_eq_none (by simpa using hil)] at hx
        cases hx
end
end Go.Proofs.YtbpooaicmjkemaaGreatDoor
