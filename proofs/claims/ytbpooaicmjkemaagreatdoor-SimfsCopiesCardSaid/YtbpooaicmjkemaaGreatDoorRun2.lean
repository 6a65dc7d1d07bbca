/-
  Several texts in one (merge.py): SfSt, SfStep, SfNam. Conditions: each part names its own.
-/
import Derived.Test.YtbpooaicmjkemaaGreatDoorSfWf
import Derived.Test.YtbpooaicmjkemaaGreatDoorLibAll
import Derived.Test.YtbpooaicmjkemaaGreatDoorShelf
import Derived.Maps.RangeWalk
import Derived.Maps.Ext
import Derived.Maps.OwnOps
import Derived.Maps.OwnSet
import Derived.DeepKeys4
import Derived.BigRegion
import Derived.Deep.RegionLaw
import Derived.Shelf.Strings.SlTrimAscii
/-! The program's disk as it lies in memory, and whose each block is. No condition. -/
namespace Go.Proofs.YtbpooaicmjkemaaGreatDoor
open Go.RowKit Go.Maps
set_option linter.unusedVariables false
/-! ### marks: disk z's own; (0, 1): what is never written again -/
def isD (z : Nat) (t : Nat × Nat) : Prop := 10 * z + 1 ≤ t.1 ∧ t.1 ≤ 10 * z + 9
def isF (t : Nat × Nat) : Prop := False
def frz : Nat × Nat := (0, 1)
def cutM (w : World) (own : Nat → Nat × Nat) : Nat → Nat × Nat := fun k => if k < w.heap.size then own k else (0, 0)
theorem cutM_old {w : World} {own : Nat → Nat × Nat} {k : Nat} (h : k < w.heap.size) : cutM w own k = own k := if_pos h
theorem ownsMap_same {P : Program} {k : TypeId} {R : Value → Option (DataW Unit × List MemPlace)} {w w' : World} {b n : Nat} {D : DataW Unit} (h : w.ownsMap P k R b n D) (he : w'.heap[b]? = w.heap[b]?) : w'.ownsMap P k R b n D := by
  obtain ⟨es, clock, hb, F, hs, hD⟩ := h
  exact ⟨es, clock, he.trans hb, F, hs, hD⟩
/-! ### keys and elements of the maps -/
theorem lawS : Keyed Tryz.prog 9 := string_keyed Tryz.underlying9
def kL (p : Tx) : Lit := .string p
theorem keyS {p : Tx} (h : p.length ≤ maxLen) : keyOf Tryz.prog 9 (.string (bs p)) = some (kL p) := by
  have := Go.WideMaps.keyOf_string_mk Tryz.underlying9 (s := bs p) (by rw [bs_size]; exact h)
  rw [bs_list] at this
  exact this
theorem kL_key (p : Tx) : WideAt.IsKeyLit (kL p) := trivial
theorem kL_inj {p q : Tx} (h : kL p = kL q) : p = q := by unfold kL at h; injection h
/-- an element: a pointer to a whole block, or nil -/
def ptrElem : Value → Option (DataW Unit × List MemPlace)
  | .pointer none => some (.nil, [])
  | .pointer (some ⟨b, 0, none⟩) => some (.lit (.int .i64 (b : Int)), [])
  | _ => none
def ptrV (b : Nat) : Value := .pointer (some ⟨b, 0, none⟩)
theorem ptrElem_mk (b : Nat) : ptrElem (ptrV b) = some (.lit (.int .i64 (b : Int)), []) := rfl
theorem ptrElem_inv {v : Value} {y : DataW Unit × List MemPlace} (h : ptrElem v = some y) : (v = .pointer none ∧ y.1 = .nil) ∨ ∃ b : Nat, v = .pointer (some ⟨b, 0, none⟩) ∧ y.1 = .lit (.int .i64 (b : Int)) := by
  unfold ptrElem at h
  split at h
  · cases h; exact .inl ⟨rfl, rfl⟩
  · cases h; exact .inr ⟨_, rfl, rfl⟩
  · cases h
theorem zeroF (w : World) : (zeroValue 70).run Tryz.prog w = .ok (.pointer none) w := by kernel_rfl
/-- what a map says of entries, whose files lie in the blocks bl -/
structure MapE (D : DataW Unit) (L : Es) (bl : List Nat) : Prop where
  sz : Maps.size D = L.length
  no : ∀ p : Tx, p.length ≤ maxLen → getE L p = none → Maps.has D (kL p) = false
  ya : ∀ (p : Tx) (i b : Nat), p.length ≤ maxLen → getE L p = some i → bl[i]? = some b → Maps.has D (kL p) = true ∧ ∀ z, D.atKey (kL p) z = .lit (.int .i64 (b : Int))
/-! ### bytes that are never written again -/
def FzA (w : World) (own : Nat → Nat × Nat) (A : Option Addr) (l : Tx) : Prop :=
  l = [] ∨ ∃ b off, A = some ⟨b, off, none⟩ ∧ own b = frz ∧ b < w.heap.size ∧ ∀ i, i < l.length → w.cell? ⟨b, off + i, none⟩ = some (.int .u8 (bt l i))
def FzV (w : World) (own : Nat → Nat × Nat) (v : Value) (l : Tx) : Prop := ∃ A c, v = .slice A l.length c ∧ l.length ≤ c ∧ c ≤ maxLen ∧ FzA w own A l
section
variable {w w' : World} {own own' : Nat → Nat × Nat}
/-- how a state goes on: sizes grow, blocks of some marks stay with their marks -/
structure Goes (keep : Nat × Nat → Prop) (w w' : World) (own own' : Nat → Nat × Nat) : Prop where
  size : w.heap.size ≤ w'.heap.size
  block : ∀ k, k < w.heap.size → keep (own k) → w'.heap[k]? = w.heap[k]? ∧ own' k = own k
theorem Goes.of_turn {cl keep : Nat × Nat → Prop} (h : Turn cl w w' own own') (hc : ∀ t, keep t → ¬ cl t) : Goes keep w w' own own' :=
  ⟨h.size, fun k hk hn => ⟨h.block k hk (hc _ hn), h.mark k hk (hc _ hn)⟩⟩
theorem Goes.mono {keep keep' : Nat × Nat → Prop} (h : Goes keep w w' own own') (hc : ∀ t, keep' t → keep t) : Goes keep' w w' own own' := ⟨h.size, fun k hk hn => h.block k hk (hc _ hn)⟩
theorem Blk.goes {keep : Nat × Nat → Prop} {g : Nat} {t : TypeId} {cs : Array Value} (h : Blk w g t cs) (hg : Goes keep w w' own own') (hk : keep (own g)) : Blk w' g t cs := by
  have := (hg.block g h.lt hk).1
  unfold Blk at h ⊢
  rw [this]; exact h
theorem FzA.rb {A : Option Addr} {l : Tx} (h : FzA w own A l) : RB w w.heap.size A l := by
  rcases h with h | ⟨b, off, rfl, -, hb, hc⟩
  · exact .inl h
  · exact .inr ⟨b, off, rfl, hb, hc⟩
theorem FzA.goes {keep : Nat × Nat → Prop} {A : Option Addr} {l : Tx} (h : FzA w own A l) (hg : Goes keep w w' own own') (hk : keep frz) : FzA w' own' A l := by
  rcases h with h | ⟨b, off, rfl, ho, hb, hc⟩
  · exact .inl h
  · obtain ⟨h1, h2⟩ := hg.block b hb (by rw [ho]; exact hk)
    refine .inr ⟨b, off, rfl, h2.trans ho, Nat.lt_of_lt_of_le hb hg.size, fun i hi => ?_⟩
    rw [← hc i hi]
    exact World.cell?_of_block h1
theorem FzV.goes {keep : Nat × Nat → Prop} {v : Value} {l : Tx} (h : FzV w own v l) (hg : Goes keep w w' own own') (hk : keep frz) : FzV w' own' v l := by
  obtain ⟨A, c, h1, h2, h3, h4⟩ := h
  exact ⟨A, c, h1, h2, h3, h4.goes hg hk⟩
/-! ### writes that wait -/
def wrC (v : Value) (x : Wr) : List Value := [.int .i64 x.at_, v]
def WrsV (w : World) (own : Nat → Nat × Nat) (vs : List Value) (ws : List Wr) : Prop := vs.length = ws.length ∧ ∀ (j : Nat) (v : Value) (x : Wr), vs[j]? = some v → ws[j]? = some x → FzV w own v x.b
def wrRow (vs : List Value) (ws : List Wr) : List (List Value) := List.zipWith wrC vs ws
theorem WrsV.goes {keep : Nat × Nat → Prop} {vs : List Value} {ws : List Wr} (h : WrsV w own vs ws) (hg : Goes keep w w' own own') (hk : keep frz) : WrsV w' own' vs ws :=
  ⟨h.1, fun j v x hv hx => (h.2 j v x hv hx).goes hg hk⟩
theorem WrsV.snoc {vs : List Value} {ws : List Wr} (h : WrsV w own vs ws) {v : Value} {x : Wr} (hv : FzV w own v x.b) : WrsV w own (vs ++ [v]) (ws ++ [x]) := by
  refine ⟨by rw [List.length_append, List.length_append, h.1]; rfl, fun j u y hu hy => ?_⟩
  rcases Nat.lt_or_ge j vs.length with hj | hj
  · rw [List.getElem?_append_left hj] at hu
    rw [List.getElem?_append_left (by rw [← h.1]; exact hj)] at hy
    exact h.2 j u y hu hy
  · rw [List.getElem?_append_right hj] at hu
    rw [List.getElem?_append_right (by rw [← h.1]; exact hj), ← h.1] at hy
    have hj0 : j - vs.length = 0 := by have := (List.getElem?_eq_some_iff.1 hu).1; simpa using this
    rw [hj0] at hu hy
    obtain rfl : v = u := by simpa using hu
    obtain rfl : x = y := by simpa using hy
    exact hv
theorem wrRow_snoc {vs : List Value} {ws : List Wr} (h : vs.length = ws.length) (v : Value) (x : Wr) : wrRow (vs ++ [v]) (ws ++ [x]) = wrRow vs ws ++ [wrC v x] := by
  unfold wrRow
  rw [List.zipWith_append h]
  rfl
theorem wrRow_all (vs : List Value) (ws : List Wr) : ∀ r ∈ wrRow vs ws, r.length = 2 := by
  intro r hr
  unfold wrRow at hr
  rw [List.mem_iff_getElem?] at hr
  obtain ⟨j, hj⟩ := hr
  rw [List.getElem?_zipWith] at hj
  split at hj
  · obtain rfl := Option.some.inj hj; rfl
  · cases hj
theorem wrRow_len {vs : List Value} {ws : List Wr} (h : vs.length = ws.length) : (wrRow vs ws).length = ws.length := by
  unfold wrRow; rw [List.length_zipWith]; omega
theorem wrRow_at {vs : List Value} {ws : List Wr} {j : Nat} {v : Value} {x : Wr} (hv : vs[j]? = some v) (hx : ws[j]? = some x) : (wrRow vs ws)[j]? = some (wrC v x) := by
  unfold wrRow; rw [List.getElem?_zipWith, hv, hx]
/-! ### a file -/
structure FSt (z : Nat) (w : World) (own : Nat → Nat × Nat) (i b : Nat) (x : Nd) : Prop where
  mark : own b = (10 * z + 2, i)
  ex : ∃ vn gn vl gl vw gw vs, Blk w b 75 #[vn, vl, vw] ∧ OwnQ w 0 gn vn x.now ∧ OwnQ w 0 gl vl x.lasts ∧ OwnX 2 w gw vw (wrRow vs x.waits).flatten ∧ WrsV w own vs x.waits ∧
    (∀ k, gn = some k → own k = (10 * z + 3, i)) ∧ (∀ k, gl = some k → own k = (10 * z + 4, i)) ∧ (∀ k, gw = some k → own k = (10 * z + 5, i))
/-- file i's own marks -/
def isFile (z i : Nat) (t : Nat × Nat) : Prop := (10 * z + 2 ≤ t.1 ∧ t.1 ≤ 10 * z + 5) ∧ t.2 = i
theorem isFile_isD {z i : Nat} {t : Nat × Nat} (h : isFile z i t) : isD z t := ⟨by have := h.1.1; omega, by have := h.1.2; omega⟩
theorem FSt.goes {z i b : Nat} {x : Nd} {keep : Nat × Nat → Prop} (h : FSt z w own i b x) (hg : Goes keep w w' own own') (hk : keep frz) (hf : ∀ t, isFile z i t → keep t) : FSt z w' own' i b x := by
  obtain ⟨h0, vn, gn, vl, gl, vw, gw, vs, h1, h2, h3, h4, h5, m1, m2, m3⟩ := h
  have k0 : keep (own b) := hf _ (by rw [h0]; exact ⟨⟨by simp, by simp⟩, rfl⟩)
  have k1 : ∀ k, gn = some k → keep (own k) := fun k e => hf _ (by rw [m1 k e]; exact ⟨⟨by simp, by simp⟩, rfl⟩)
  have k2 : ∀ k, gl = some k → keep (own k) := fun k e => hf _ (by rw [m2 k e]; exact ⟨⟨by simp, by simp⟩, rfl⟩)
  have k3 : ∀ k, gw = some k → keep (own k) := fun k e => hf _ (by rw [m3 k e]; exact ⟨⟨by simp, by simp⟩, rfl⟩)
  refine ⟨(hg.block b h1.lt k0).2.trans h0, vn, gn, vl, gl, vw, gw, vs, h1.goes hg k0, h2.blocks hg.size fun g e hlt => (hg.block g hlt (k1 g e)).1, h3.blocks hg.size fun g e hlt => (hg.block g hlt (k2 g e)).1, h4.same hg.size fun g e => (hg.block g (h4.lt e) (k3 g e)).1, h5.goes hg hk, fun k e => ?_, fun k e => ?_, fun k e => ?_⟩
  · exact (hg.block k (h2.base_ e).2 (k1 k e)).2.trans (m1 k e)
  · exact (hg.block k (h3.base_ e).2 (k2 k e)).2.trans (m2 k e)
  · exact (hg.block k (h4.lt e) (k3 k e)).2.trans (m3 k e)
/-! ### names that are never written again -/
def FzS (w : World) (own : Nat → Nat × Nat) (v : Value) (L : List Tx) : Prop :=
  ∃ A c, v = .slice A L.length c ∧ L.length ≤ c ∧ c ≤ maxLen ∧ (L = [] ∨ ∃ b off, A = some ⟨b, off, none⟩ ∧ own b = frz ∧ b < w.heap.size ∧ ∀ i l, L[i]? = some l → w.cell? ⟨b, off + i, none⟩ = some (.string (bs l)))
theorem FzS.goes {keep : Nat × Nat → Prop} {v : Value} {L : List Tx} (h : FzS w own v L) (hg : Goes keep w w' own own') (hk : keep frz) : FzS w' own' v L := by
  obtain ⟨A, c, h1, h2, h3, h4⟩ := h
  refine ⟨A, c, h1, h2, h3, ?_⟩
  rcases h4 with h4 | ⟨b, off, rfl, ho, hb, hc⟩
  · exact .inl h4
  · obtain ⟨e1, e2⟩ := hg.block b hb (by rw [ho]; exact hk)
    refine .inr ⟨b, off, rfl, e2.trans ho, Nat.lt_of_lt_of_le hb hg.size, fun i l hl => ?_⟩
    rw [← hc i l hl]
    exact World.cell?_of_block e1
/-! ### entry changes that wait -/
def chP (bl : List Nat) (c : Ch) : Value := if c.kind = 1 then .pointer ((bl[c.node]?).map fun b => ⟨b, 0, none⟩) else .pointer none
def chC (bl : List Nat) (c : Ch) : List Value := [.int .i64 c.kind, .string (bs c.fr), .string (bs c.tt), chP bl c]
/-! ### a disk -/
structure DParts where
  bl : List Nat
  vd : Value
  vf : Value
  gf : Option Nat
  mn : Nat
  nn : Nat
  Dn : DataW Unit
  ml : Nat
  nl : Nat
  Dl : DataW Unit
  vc : Value
  gc : Option Nat
def DParts.cells (q : DParts) (d : Dk) : Array Value :=
  #[.int .i64 d.quota, .int .i64 (usedM d : Int), q.vd, q.vf, .map (some q.mn), .map (some q.ml), q.vc, .bool d.off, .int .i64 d.done, .int .i64 (d.arm : Int), .int .i64 (d.fail : Int), .int .i64 d.failed]
structure DRest (z : Nat) (w : World) (own : Nat → Nat × Nat) (d : Dk) (q : DParts) : Prop where
  dirs : FzS w own q.vd d.dirs
  files : OwnX 1 w q.gf q.vf (q.bl.map ptrV)
  mf : ∀ k, q.gf = some k → own k = (10 * z + 1, 1)
  len : q.bl.length = d.nodes.length
  mkn : own q.mn = (10 * z + 1, 2)
  on : w.ownsMap Tryz.prog 9 ptrElem q.mn q.nn q.Dn
  en : MapE q.Dn d.now q.bl
  mkl : own q.ml = (10 * z + 1, 3)
  ol : w.ownsMap Tryz.prog 9 ptrElem q.ml q.nl q.Dl
  el : MapE q.Dl d.lasts q.bl
  chs : OwnX 4 w q.gc q.vc (d.waits.map (chC q.bl)).flatten
  mc : ∀ k, q.gc = some k → own k = (10 * z + 1, 4)
  fs : ∀ (i b : Nat) (x : Nd), q.bl[i]? = some b → d.nodes[i]? = some x → FSt z w own i b x
  bn : q.nn ≤ 1000000
  bnl : q.nl ≤ 1000000
structure DSt (z : Nat) (w : World) (own : Nat → Nat × Nat) (db : Nat) (d : Dk) (q : DParts) : Prop where
  blk : Blk w db 69 (q.cells d)
  mark : own db = (10 * z + 1, 0)
  rest : DRest z w own d q
/-- disk z in block db -/
def Disk (z : Nat) (w : World) (own : Nat → Nat × Nat) (db : Nat) (d : Dk) : Prop := ∃ q, DSt z w own db d q
theorem DRest.goes {z : Nat} {d : Dk} {q : DParts} {keep : Nat × Nat → Prop} (h : DRest z w own d q) (hg : Goes keep w w' own own') (hk : keep frz) (hd : ∀ t, isD z t → t ≠ (10 * z + 1, 0) → keep t) : DRest z w' own' d q := by
  have m1 : ∀ k, q.gf = some k → keep (own k) := fun k e => hd _ (by rw [h.mf k e]; exact ⟨by simp, by simp⟩) (by rw [h.mf k e]; simp)
  have m2 : keep (own q.mn) := hd _ (by rw [h.mkn]; exact ⟨by simp, by simp⟩) (by rw [h.mkn]; simp)
  have m3 : keep (own q.ml) := hd _ (by rw [h.mkl]; exact ⟨by simp, by simp⟩) (by rw [h.mkl]; simp)
  have m4 : ∀ k, q.gc = some k → keep (own k) := fun k e => hd _ (by rw [h.mc k e]; exact ⟨by simp, by simp⟩) (by rw [h.mc k e]; simp)
  exact ⟨h.dirs.goes hg hk, h.files.same hg.size fun g e => (hg.block g (h.files.lt e) (m1 g e)).1, fun k e => (hg.block k (h.files.lt e) (m1 k e)).2.trans (h.mf k e), h.len,
    (hg.block _ h.on.lt m2).2.trans h.mkn, ownsMap_same h.on (hg.block _ h.on.lt m2).1, h.en, (hg.block _ h.ol.lt m3).2.trans h.mkl, ownsMap_same h.ol (hg.block _ h.ol.lt m3).1, h.el, h.chs.same hg.size fun g e => (hg.block g (h.chs.lt e) (m4 g e)).1,
    fun k e => (hg.block k (h.chs.lt e) (m4 k e)).2.trans (h.mc k e), fun i b x hb hx => (h.fs i b x hb hx).goes hg hk fun t ht => hd t (isFile_isD ht) (by rintro rfl; have := ht.1.1; simp at this), h.bn, h.bnl⟩
theorem DSt.goes {z db : Nat} {d : Dk} {q : DParts} {keep : Nat × Nat → Prop} (h : DSt z w own db d q) (hg : Goes keep w w' own own') (hk : keep frz) (hd : ∀ t, isD z t → keep t) : DSt z w' own' db d q := by
  have m0 : keep (own db) := hd _ (by rw [h.mark]; exact ⟨by simp, by simp⟩)
  exact ⟨h.blk.goes hg m0, (hg.block db h.blk.lt m0).2.trans h.mark, h.rest.goes hg hk fun t ht _ => hd t ht⟩
theorem Disk.goes {z db : Nat} {d : Dk} {keep : Nat × Nat → Prop} (h : Disk z w own db d) (hg : Goes keep w w' own own') (hk : keep frz) (hd : ∀ t, isD z t → keep t) : Disk z w' own' db d := by
  obtain ⟨q, h⟩ := h
  exact ⟨q, h.goes hg hk hd⟩
/-- new blocks alone, nobody's -/
theorem Disk.below {z db : Nat} {d : Dk} (h : Disk z w own db d) (hb : Below w.heap.size w w') : Disk z w' (cutM w own) db d :=
  h.goes (keep := fun _ => True) ⟨hb.size, fun k hk _ => ⟨hb.block k hk, cutM_old hk⟩⟩ trivial fun _ _ => trivial
theorem DSt.below {z db : Nat} {d : Dk} {q : DParts} (h : DSt z w own db d q) (hb : Below w.heap.size w w') : DSt z w' own db d q :=
  h.goes (keep := fun _ => True) ⟨hb.size, fun k hk _ => ⟨hb.block k hk, rfl⟩⟩ trivial fun _ _ => trivial
/-- the same disk but for its switches -/
def SameD (d d' : Dk) : Prop := d'.dirs = d.dirs ∧ d'.nodes = d.nodes ∧ d'.now = d.now ∧ d'.lasts = d.lasts ∧ d'.waits = d.waits ∧ d'.quota = d.quota
theorem DRest.sameD {z : Nat} {d d' : Dk} {q : DParts} (h : DRest z w own d q) (e : SameD d d') : DRest z w own d' q := by
  obtain ⟨e1, e2, e3, e4, e5, -⟩ := e
  exact ⟨by rw [e1]; exact h.dirs, h.files, h.mf, by rw [e2]; exact h.len, h.mkn, h.on, by rw [e3]; exact h.en, h.mkl, h.ol, by rw [e4]; exact h.el, by rw [e5]; exact h.chs, h.mc, fun i b x hb hx => h.fs i b x hb (by rw [← e2]; exact hx), h.bn, h.bnl⟩
theorem usedM_same {d d' : Dk} (e : SameD d d') : usedM d' = usedM d := by
  unfold usedM
  rw [e.2.1, e.2.2.1]
/-- the disk's own block alone has changed -/
theorem DSt.switch {z db : Nat} {d d' : Dk} {q : DParts} (h : DSt z w own db d q) (ho : Only db w w') (hB : Blk w' db 69 (q.cells d')) (e : SameD d d') : DSt z w' own db d' q :=
  ⟨hB, h.mark, (h.rest.goes (keep := fun t => t ≠ (10 * z + 1, 0)) ⟨ho.size, fun k hk hn => ⟨ho.block k hk (fun e => hn (by injection e with e; rw [e]; exact h.mark)), rfl⟩⟩ (by unfold frz; simp) fun _ _ hn => hn).sameD e⟩
end
end Go.Proofs.YtbpooaicmjkemaaGreatDoor

/-! The walk of the program's step. Conditions: the sizes. -/
namespace Go.Proofs.YtbpooaicmjkemaaGreatDoor
open Go.RowKit Go.Maps
set_option linter.unusedVariables false
theorem max_pred (n : Nat) (hn : n ≤ 9223372036854775807) : IntKind.i64.wrap ((n : Int) - 1) = (n : Int) - 1 := IntWalk.i64_in _ (by omega)
theorem max_if (n : Nat) : (if (n : Int) - 1 > 0 then (n : Int) - 1 else 0) = ((n - 1 : Nat) : Int) := by
  split <;> omega
def swArr (c0 c1 c2 c3 c4 c5 c6 : Value) (d : Dk) : Array Value := #[c0, c1, c2, c3, c4, c5, c6, .bool d.off, .int .i64 d.done, .int .i64 (d.arm : Int), .int .i64 (d.fail : Int), .int .i64 d.failed]
set_option maxHeartbeats 1000000 in
theorem step_cells (w : World) (db : Nat) (c0 c1 c2 c3 c4 c5 c6 : Value) (d : Dk) (hB : Blk w db 69 (swArr c0 c1 c2 c3 c4 c5 c6 d))
    (ha : d.arm ≤ 9223372036854775807) (hf : d.fail ≤ 9223372036854775807) (hd : -1000000000000 ≤ d.done ∧ d.done ≤ 1000000000000) :
    Calls Tryz.prog 33 #[.pointer (some ⟨db, 0, none⟩)] w fun e w' => Blk w' db 69 (swArr c0 c1 c2 c3 c4 c5 c6 (stepM d).1) ∧ Only db w w' ∧ e = .returned (.int .i64 (stepM d).2) := by
  obtain ⟨quota, dirs, nodes, now, lasts, waits, off, done, arm, fail, failed⟩ := d
  have k7 : w.cell? ⟨db, 7, none⟩ = some (.bool off) := hB.cell 7
  have k8 : w.cell? ⟨db, 8, none⟩ = some (.int .i64 done) := hB.cell 8
  have k9 : w.cell? ⟨db, 9, none⟩ = some (.int .i64 (arm : Int)) := hB.cell 9
  have k10 : w.cell? ⟨db, 10, none⟩ = some (.int .i64 (fail : Int)) := hB.cell 10
  have k11 : w.cell? ⟨db, 11, none⟩ = some (.int .i64 failed) := hB.cell 11
  have f7 : w.frozen? ⟨db, 7, none⟩ = false := hB.frozen 7
  have f8 : w.frozen? ⟨db, 8, none⟩ = false := hB.frozen 8
  have f9 : w.frozen? ⟨db, 9, none⟩ = false := hB.frozen 9
  have f10 : w.frozen? ⟨db, 10, none⟩ = false := hB.frozen 10
  simp only [] at ha hf hd
  have HB := Lib.hid hB
  have w1 := max_pred arm ha
  have w2 := max_pred fail hf
  have m1 := max_if arm
  have m2 := max_if fail
  clear hB
  have x1 : max 0 ((arm : Int) - 1) = ((arm - 1 : Nat) : Int) := by omega
  have x2 : max 0 ((fail : Int) - 1) = ((fail - 1 : Nat) : Int) := by omega
  have X1 := Lib.hid x1
  have X2 := Lib.hid x2
  clear x1 x2 m1 m2
  by_cases h1 : arm = 1
  · have t1 : ((arm : Int) == 1) = true := by rw [beq_iff_eq]; omega
    have E : Hid (stepM ⟨quota, dirs, nodes, now, lasts, waits, off, done, arm, fail, failed⟩ = (⟨quota, dirs, nodes, now, lasts, waits, true, done, 0, 0, failed⟩, 10)) := Lib.hid (by unfold stepM; rw [if_pos h1])
    clear h1
    go_enter Tryz.func33, Tryz.ntmps33
    go_wp2
    go_quiet (fail)
    go_wp2
    go_region
    all_goals
      go_wp2
      first | go_ret | (go_region; go_wp2; go_ret)
      rw [E.out]
      have hb := (((((show Blk (w.drewN (nq + 1)) db _ _ from HB.out).set_ 9 (.int .i64 (max 0 ((arm : Int) - 1)))).set_ 10 (.int .i64 (max 0 ((fail : Int) - 1)))).set_ 7 (.bool true)).set_ 9 (.int .i64 0)).set_ 10 (.int .i64 0)
      exact ⟨hb, ((((((Only.refl (g := db) w).drew (nq + 1)).set_ 9 _).set_ 10 _).set_ 7 _).set_ 9 _).set_ 10 _, rfl⟩
  · have t1 : ((arm : Int) == 1) = false := by rw [beq_eq_false_iff_ne]; omega
    by_cases h2 : fail = 1
    · have t2 : ((fail : Int) == 1) = true := by rw [beq_iff_eq]; omega
      have E : Hid (stepM ⟨quota, dirs, nodes, now, lasts, waits, off, done, arm, fail, failed⟩ = (⟨quota, dirs, nodes, now, lasts, waits, off, done, arm - 1, fail - 1, failed⟩, failed)) := Lib.hid (by unfold stepM; rw [if_neg h1, if_pos h2]; rw [show fail - 1 = 0 by omega])
      clear h1 h2
      go_enter Tryz.func33, Tryz.ntmps33
      go_wp2
      go_quiet (fail)
      go_wp2
      go_region
      all_goals
        go_wp2
        go_ret
        rw [E.out, X1.out, X2.out]
        have hb := ((show Blk (w.drewN (nq + 1)) db _ _ from HB.out).set_ 9 (.int .i64 ((arm - 1 : Nat) : Int))).set_ 10 (.int .i64 ((fail - 1 : Nat) : Int))
        exact ⟨hb, (((Only.refl (g := db) w).drew (nq + 1)).set_ 9 _).set_ 10 _, rfl⟩
    · have t2 : ((fail : Int) == 1) = false := by rw [beq_eq_false_iff_ne]; omega
      have E : Hid (stepM ⟨quota, dirs, nodes, now, lasts, waits, off, done, arm, fail, failed⟩ = (⟨quota, dirs, nodes, now, lasts, waits, off, done + 1, arm - 1, fail - 1, failed⟩, 0)) := Lib.hid (by unfold stepM; rw [if_neg h1, if_neg h2])
      clear h1 h2
      go_enter Tryz.func33, Tryz.ntmps33
      go_wp2
      go_quiet (fail)
      go_wp2
      go_region
      all_goals
        go_wp2
        go_ret
        rw [E.out, X1.out, X2.out]
        have hb := (((show Blk (w.drewN (nq + 1)) db _ _ from HB.out).set_ 9 (.int .i64 ((arm - 1 : Nat) : Int))).set_ 10 (.int .i64 ((fail - 1 : Nat) : Int))).set_ 8 (.int .i64 (done + 1))
        exact ⟨hb, ((((Only.refl (g := db) w).drew (nq + 1)).set_ 9 _).set_ 10 _).set_ 8 _, rfl⟩
/-- what step leaves of a disk -/
def SwPost (z : Nat) (w : World) (own : Nat → Nat × Nat) (db : Nat) (q : DParts) (r : Dk × Int) (e : Ending) (w' : World) : Prop := DSt z w' own db r.1 q ∧ Only db w w' ∧ e = .returned (.int .i64 r.2)
/-- the sizes of the switches -/
structure SwOk (d : Dk) (K : Nat) : Prop where
  arm : d.arm ≤ 9223372036854775807
  fail : d.fail ≤ 9223372036854775807
  d0 : 0 ≤ d.done
  d1 : d.done ≤ K
theorem step_sameD (d : Dk) : SameD d (stepM d).1 := by
  obtain ⟨h1, h2, h3, h4, h5, h6⟩ := step_same d
  exact ⟨h1, h2, h3, h4, h5, h6⟩
theorem SwOk.step {d : Dk} {K : Nat} (h : SwOk d K) : SwOk (stepM d).1 (K + 1) := by
  obtain ⟨h1, h2, h3, h4⟩ := h
  unfold stepM
  split
  · exact ⟨by simp, by simp, h3, by simp only []; omega⟩
  · split
    · exact ⟨by simp only []; omega, by simp, h3, by simp only []; omega⟩
    · exact ⟨by simp only []; omega, by simp only []; omega, by simp only []; omega, by simp only []; omega⟩
theorem step_walk (z : Nat) (w : World) (own : Nat → Nat × Nat) (db : Nat) (d : Dk) (q : DParts) (h : DSt z w own db d q) {K : Nat} (hs : SwOk d K) (hK : K ≤ 1000000) :
    Calls Tryz.prog 33 #[ptrV db] w (SwPost z w own db q (stepM d)) := by
  refine (step_cells w db _ _ _ _ _ _ _ d h.blk hs.arm hs.fail ⟨by have := hs.d0; omega, by have := hs.d1; omega⟩).mono fun e w' ⟨hb, ho, he⟩ => ⟨h.switch ho ?_ (step_sameD d), ho, he⟩
  unfold DParts.cells
  rw [usedM_same (step_sameD d), (step_sameD d).2.2.2.2.2]
  exact hb
end Go.Proofs.YtbpooaicmjkemaaGreatDoor

/-! The walk of the program's named. Condition: the text's length. -/
namespace Go.Proofs.YtbpooaicmjkemaaGreatDoor
open Go.RowKit Go.Maps
set_option linter.unusedVariables false
def nameS (s : ByteArray) : Bool := decide (1 ≤ s.size) && decide (s.size ≤ 32) && s.data.toList.all (cs65.contains ·)
theorem dropWhile_nil {α : Type} (p : α → Bool) : ∀ l : List α, l.dropWhile p = [] ↔ l.all p = true
  | [] => by simp
  | x :: l => by
    rw [List.dropWhile_cons, List.all_cons]
    cases h : p x
    · simp
    · simpa using dropWhile_nil p l
theorem trim_nil (l cs : List UInt8) : Lib.trimS l cs = [] ↔ l.all (cs.contains ·) = true := by
  unfold Lib.trimS Lib.trimLeftS
  rw [dropWhile_nil]
  unfold Lib.trimRightS
  rw [List.all_reverse]
  constructor
  · intro h
    have h2 : (l.reverse.dropWhile (cs.contains ·)) = [] := by
      cases e : l.reverse.dropWhile (cs.contains ·) with
      | nil => rfl
      | cons x r =>
        exfalso
        have h1 : (l.reverse.dropWhile (cs.contains ·)).head? = some x := by rw [e]; rfl
        have h3 := List.head?_dropWhile_not (cs.contains ·) l.reverse
        rw [h1] at h3
        rw [e, List.all_cons, Bool.and_eq_true] at h
        simp only [h.1] at h3
        cases h3
    rw [dropWhile_nil, List.all_reverse] at h2
    exact h2
  · intro h
    have h2 : (l.reverse.dropWhile (cs.contains ·)) = [] := by rw [dropWhile_nil, List.all_reverse]; exact h
    rw [h2]; rfl
theorem str_nil {s : ByteArray} (h : s.size = 0) : s.toList = [] := by
  rw [ByteArray.toList_eq]; exact List.eq_nil_of_length_eq_zero (by rw [← size_len]; exact h)
theorem str_some {s : ByteArray} (h : s.size ≠ 0) : s.toList.isEmpty = false ∧ ¬ s.toList = [] := by
  rw [ByteArray.toList_eq]
  have h2 : ¬ s.data.toList = [] := fun e => h (by rw [size_len, e]; rfl)
  exact ⟨by cases e : s.data.toList with
    | nil => exact absurd e h2
    | cons a b => rfl, h2⟩
set_option maxHeartbeats 400000 in
theorem named_walk0 (s : ByteArray) (w : World) (hs : s.size ≤ maxLen) :
    Calls Tryz.prog 28 #[.string s] w fun e w' => e = .returned (.bool (nameS s)) ∧ Below w.heap.size w w' := by
  unfold maxLen at hs
  obtain ⟨F, hF⟩ : ∃ F, nameS s = F := ⟨_, rfl⟩
  rw [hF]
  unfold nameS at hF
  by_cases h0 : s.size = 0
  · rw [h0] at hF
    obtain rfl : false = F := by simpa using hF
    have h1 := str_nil h0
    clear hF h0
    go_enter Tryz.func28, Tryz.ntmps28
    go_wp2
    go_ret
    exact ⟨rfl, Below.refl _ _⟩
  · obtain ⟨h1, h2⟩ := str_some h0
    by_cases h3 : s.size ≤ 32
    · have h4 : (s.size : Int) ≤ 32 := by omega
      have K : Hid (Calls Tryz.prog 81 #[.string s, .string ⟨cs65.toArray⟩] w fun e w' => e = .returned (.string ⟨(Lib.trimS s.data.toList (⟨cs65.toArray⟩ : ByteArray).data.toList).toArray⟩) ∧ Below w.heap.size w w') := Lib.hid (Any.strings_Trim_laid Tryz.lays160 (by kernel_rfl) s ⟨cs65.toArray⟩ w hs (by decide) (ascii_of_all (by decide)))
      have e1 : decide (1 ≤ s.size) = true := decide_eq_true (by omega)
      have e2 : decide (s.size ≤ 32) = true := decide_eq_true h3
      rw [e1, e2, Bool.true_and, Bool.true_and] at hF
      have hT := trim_nil s.data.toList cs65
      obtain ⟨T, hTe⟩ : ∃ T : ByteArray, T = ⟨(Lib.trimS s.data.toList cs65).toArray⟩ := ⟨_, rfl⟩
      have hTl : T.data.toList = Lib.trimS s.data.toList cs65 := by rw [hTe]
      have e3 : (⟨cs65.toArray⟩ : ByteArray).data.toList = cs65 := rfl
      rw [e3, ← hTe] at K
      rw [← hTl] at hT
      cases F
      · have h5 : T.size ≠ 0 := fun e => by
          have : T.data.toList = [] := List.eq_nil_of_length_eq_zero (by rw [← size_len]; exact e)
          rw [hT.1 this] at hF
          cases hF
        obtain ⟨h6, h7⟩ := str_some h5
        unfold cs65 at K
        clear hF h0 hTe hTl hT e1 e2 e3 h5 h3
        go_enter Tryz.func28, Tryz.ntmps28
        go_wp2_with fail
        with_reducible refine K.out.mono ?_
        rintro e w1 ⟨rfl, hb⟩
        have HB := Lib.hid hb
        clear hb K
        go_wp2
        go_ret
        exact ⟨rfl, HB.out⟩
      · have h5 := hT.2 hF
        have h6 : T.toList = [] := str_nil (by rw [size_len, h5]; rfl)
        unfold cs65 at K
        clear hF h0 hTe hTl hT e1 e2 e3 h5 h3
        go_enter Tryz.func28, Tryz.ntmps28
        go_wp2_with fail
        with_reducible refine K.out.mono ?_
        rintro e w1 ⟨rfl, hb⟩
        have HB := Lib.hid hb
        clear hb K
        go_wp2
        go_ret
        exact ⟨rfl, HB.out⟩
    · have h4 : ¬ (s.size : Int) ≤ 32 := by omega
      have e2 : decide (s.size ≤ 32) = false := decide_eq_false h3
      rw [e2, Bool.and_false, Bool.false_and] at hF
      obtain rfl : false = F := hF
      clear h0 h3 e2
      go_enter Tryz.func28, Tryz.ntmps28
      go_wp2
      go_ret
      exact ⟨rfl, Below.refl _ _⟩
theorem named_walk (s : Tx) (w : World) (hs : s.length ≤ maxLen) :
    Calls Tryz.prog 28 #[.string (bs s)] w fun e w' => e = .returned (.bool (nameB s)) ∧ Below w.heap.size w w' := by
  have h := named_walk0 (bs s) w (by rw [bs_size]; exact hs)
  have e : nameS (bs s) = nameB s := by unfold nameS nameB; rw [bs_size, bs_list]
  rw [e] at h
  exact h
end Go.Proofs.YtbpooaicmjkemaaGreatDoor
