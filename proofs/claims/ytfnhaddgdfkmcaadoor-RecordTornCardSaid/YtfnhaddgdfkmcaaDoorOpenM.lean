/-
  Opening an argument that is a message: its cells and its sizes. No condition.
-/
import Derived.Test.YtfnhaddgdfkmcaaDoorOpen
import Derived.Test.YtfnhaddgdfkmcaaDoorSz
import Derived.Test.YtfnhaddgdfkmcaaDoorTabs
import Derived.Deep.Slices
import Derived.Deep.Fields
import Derived.Lib.SmallJoins
namespace Go.Proofs.YtfnhaddgdfkmcaaDoor
open Go.ChangeShapes Go.WideShapes Go.ChangeAt Go.RowKit Go.Deep
set_option linter.unusedVariables false
section
variable {H : Type} {enc : TypeId × Value → H} {P : Program}
theorem sized_agg {ts : List TypeId} {ds : List (DataW H)} (h : (DataW.weightsEach P ts ds).all (· ≤ reachBytes) = true) {j : Nat} {t : TypeId} {fs : Array Field} {parts : List (DataW H)} (ht : ts[j]? = some t) (hd : ds[j]? = some (.agg parts)) (hu : P.underlying t = some (.struct fs)) :
    (DataW.weightsEach P (fs.toList.map (·.type)) parts).all (· ≤ reachBytes) = true :=
  List.all_eq_true.2 fun n hn => List.all_eq_true.1 h n (DataW.weights_mem_each ht hd n (by simp only [DataW.weights, hu]; exact hn))
theorem open_bytesT {W : World} {t E : TypeId} {v : Value} {n : Nat} {y : DataW H × List MemPlace} {ts : List TypeId} {ds : List (DataW H)} {j : Nat} (hU : U8 P t E) (hcE : P.cellsOf E = 1) (hbE : P.bytesOf E = 1)
    (h : DataW.trod enc P W 0 (fun _ => true) true n t [v] = some y) (hsz : (DataW.weightsEach P ts ds).all (· ≤ reachBytes) = true) (hts : ts[j]? = some t) (hds : ds[j]? = some y.1) :
    ∃ A l cp, v = .slice A l.length cp ∧ l.length ≤ cp ∧ cp ≤ 140737488351232 ∧ RB W W.heap.size A l := by
  rcases open_ints hU.ht hU.he hcE h with ⟨hcs, _⟩ | ⟨x, len, cap, zs, hcs, _, hl, hm, hz, hx, hcell, hwz⟩
  · obtain rfl : v = _ := by simpa using hcs
    exact ⟨none, [], 0, rfl, by simp, by omega, .inl rfl⟩
  · obtain rfl : v = _ := by simpa using hcs
    simp only [if_true] at hz
    have hd1 := hds
    rw [hx] at hd1
    have hs := sized_slice hsz hts hd1 hU.ht
    rw [hbE, Nat.mul_one] at hs
    have hs' : cap ≤ 140737488351232 := by
      have e : (lits .u8 (zs.take len) : List (DataW H)).length + (lits .u8 (zs.drop len) : List (DataW H)).length = cap := by
        simp [lits]; omega
      rw [e] at hs
      exact hs
    have hlen : ((zs.take len).map fun z => UInt8.ofNat z.toNat).length = len := by simp; omega
    refine ⟨some x, (zs.take len).map fun z => UInt8.ofNat z.toNat, cap, by rw [hlen], by rw [hlen]; exact hl, hs', ?_⟩
    rcases Nat.eq_zero_or_pos len with h0 | h0
    · subst h0; exact .inl (by simp)
    · obtain ⟨b, off, spot⟩ := x
      have hc0 := hcell 0 (by omega)
      obtain rfl : spot = none := by simpa [Addr.add] using World.cell?_spot hc0
      have hlt := World.block_lt_of_cell? _ _ hc0
      refine .inr ⟨b, off, rfl, by simpa [Addr.add_lit] using hlt, fun i hi => ?_⟩
      rw [hlen] at hi
      have hci := hcell i (by omega)
      rw [Addr.add_lit] at hci
      rw [hci]
      have hzi : zs.getD i 0 ∈ zs := by
        rw [List.getD_eq_getElem?_getD, List.getElem?_eq_getElem (by omega)]
        exact List.getElem_mem (by omega)
      have hw := hwz _ hzi
      have hb : 0 ≤ zs.getD i 0 ∧ zs.getD i 0 ≤ 255 := by simpa [Lit.wf, IntKind.min, IntKind.max, IntKind.bits, IntKind.signed] using hw
      congr 2
      unfold bt
      simp only [List.getD_eq_getElem?_getD, List.getElem?_map, List.getElem?_take_of_lt hi] at hb ⊢
      rw [List.getElem?_eq_getElem (by omega)] at hb ⊢
      simp only [Option.map_some, Option.getD_some] at hb ⊢
      rw [UInt8.toNat_ofNat']
      omega
/-- a slice of structs of a string and a byte, opened -/
theorem open_rcpts {W : World} {t e : TypeId} {f0 f1 : Field} {n : Nat} {v : Value} {y : DataW H × List MemPlace} {ts : List TypeId} {ds : List (DataW H)} {j : Nat} (ht : P.underlying t = some (.slice e)) (he : P.underlying e = some (.struct #[f0, f1]))
    (h0 : P.underlying f0.type = some .string) (h1 : P.underlying f1.type = some (.int .u8)) (o0 : f0.offset = 0) (o1 : f1.offset = 1) (k0 : P.cellsOf f0.type = 1) (k1 : P.cellsOf f1.type = 1) (hC : P.cellsOf e = 2) (hB : P.bytesOf e = 24)
    (h : DataW.trod enc P W 0 (fun _ => true) true n t [v] = some y) (hsz : (DataW.weightsEach P ts ds).all (· ≤ reachBytes) = true) (hts : ts[j]? = some t) (hds : ds[j]? = some y.1) :
    ∃ A L cp, v = .slice A L.length cp ∧ L.length ≤ cp ∧ cp ≤ 5864062014805 ∧ RR W W.heap.size A L ∧ ∀ r ∈ L, r.to.size ≤ maxLen := by
  rcases open_slice ht h with ⟨hcs, _⟩ | ⟨a, len, cap, m, n', D, Pl, hcs, hb, hl, hm, hmm, hx, hi⟩
  · obtain rfl : v = _ := by simpa using hcs
    exact ⟨none, [], 0, rfl, by simp, by omega, .inl rfl, by simp⟩
  · obtain rfl : v = _ := by simpa using hcs
    simp only [if_true] at hmm
    subst hmm
    have hd1 := hds
    rw [hx] at hd1
    have hs := sized_slice hsz hts hd1 ht
    simp only [List.length_map, List.length_range] at hs
    rw [hB] at hs
    unfold reachBytes at hs
    have key : ∀ i, ∃ r : Rc, i < m → W.cell? (a.add (i * 2)) = some (.string r.to) ∧ W.cell? (a.add (i * 2 + 1)) = some (.int .u8 (r.mark.toNat : Int)) ∧ r.to.size ≤ maxLen := by
      intro i
      by_cases him : i < m
      · obtain ⟨cs', hc, ht'⟩ := hi i him
        rw [hC] at hc
        obtain ⟨_, hcl, hat⟩ := World.cells?_some hc
        obtain ⟨y0, y1, n2, hx2, _, g0, g1⟩ := trod_struct2 he ht'
        rw [o0, k0] at g0
        rw [o1, k1] at g1
        obtain ⟨s, e0, _, hss⟩ := DataW.trod_string h0 g0
        obtain ⟨z, e1, _, hw⟩ := DataW.trod_int h1 g1
        match cs', hcl with
        | [x0, x1], _ =>
          obtain rfl : x0 = .string s := by simpa using e0
          obtain rfl : x1 = .int .u8 z := by simpa using e1
          have hz : 0 ≤ z ∧ z ≤ 255 := by simpa [Lit.wf, IntKind.min, IntKind.max, IntKind.bits, IntKind.signed] using hw
          have c0 := hat 0 (by omega)
          have c1 := hat 1 (by omega)
          rw [Go.Deep.add_add] at c0 c1
          refine ⟨⟨s, UInt8.ofNat z.toNat⟩, fun _ => ⟨c0, ?_, hss⟩⟩
          rw [c1]
          simp only [UInt8.toNat_ofNat']
          congr 2
          simp
          omega
      · exact ⟨⟨⟨#[]⟩, 0⟩, fun h => absurd h him⟩
    obtain ⟨f, hf⟩ := Classical.skolem.1 key
    have hlen : ((List.range len).map f).length = len := by simp
    refine ⟨some a, (List.range len).map f, m, by rw [hlen], by rw [hlen]; exact hl, by omega, ?_, fun r hr => ?_⟩
    · rcases Nat.eq_zero_or_pos len with h0 | h0
      · subst h0; exact .inl (by simp)
      · obtain ⟨b, off, spot⟩ := a
        have hc0 := (hf 0 (by omega)).1
        obtain rfl : spot = none := by simpa [Addr.add] using World.cell?_spot hc0
        have hlt := World.block_lt_of_cell? _ _ hc0
        refine .inr ⟨b, off, rfl, by simpa [Addr.add_lit] using hlt, fun i hi => ?_⟩
        rw [hlen] at hi
        obtain ⟨q0, q1, _⟩ := hf i (by omega)
        rw [Addr.add_lit] at q0 q1
        simp only [List.getElem_map, List.getElem_range]
        exact ⟨q0, by rw [Nat.add_assoc]; exact q1⟩
    · obtain ⟨i, hi, rfl⟩ := List.mem_iff_getElem.1 hr
      rw [hlen] at hi
      simp only [List.getElem_map, List.getElem_range]
      exact (hf i (by omega)).2.2
end
set_option maxRecDepth 100000 in
theorem open_msg {H : Type} {enc : TypeId × Value → H} {W : World} {r : Reach} {base0 : Nat} {v : Value} {d : DataW H} {p : List MemPlace} {ts : List TypeId} {ds : List (DataW H)} {j : Nat}
    (hval : Value.okWide Tryd.prog W r base0 25 v) (h : DataW.Trod enc Tryd.prog W 0 (fun _ => true) true 25 v d p) (hsz : (DataW.weightsEach Tryd.prog ts ds).all (· ≤ reachBytes) = true) (hts : ts[j]? = some 25) (hds : ds[j]? = some d) :
    ∃ m A1 c1 A2 c2, v = .agg (mCells m A1 c1 A2 c2) ∧ MsgAt W W.heap.size m A1 c1 A2 c2 := by
  obtain ⟨v0, v1, v2, v3, y0, y1, y2, y3, n, rfl, rfl, rfl, t0, t1, t2, t3⟩ := Joins.open_agg4 Tryd.underlying25 (by kernel_rfl) (by kernel_rfl) hval h
  have hs2 := sized_agg hsz hts hds Tryd.underlying25
  obtain ⟨z, hz, -, hw⟩ := DataW.trod_int Tryd.underlying3 t0
  obtain rfl : v0 = _ := by simpa using hz
  obtain ⟨s, hs, -, hss⟩ := DataW.trod_string Tryd.underlying9 t1
  obtain rfl : v1 = _ := by simpa using hs
  obtain ⟨A1, L, c1, rfl, l1, x1, rr, st⟩ := open_rcpts Tryd.underlying22 Tryd.underlying41 Tryd.underlying9 Tryd.underlying5 rfl rfl (by kernel_rfl) (by kernel_rfl) (by kernel_rfl) (by kernel_rfl) t2 hs2 (j := 2) rfl rfl
  obtain ⟨A2, l, c2, rfl, l2, x2, rb⟩ := open_bytesT isU8 (by kernel_rfl) (by kernel_rfl) t3 hs2 (j := 3) rfl rfl
  have hb : -9223372036854775808 ≤ z ∧ z ≤ 9223372036854775807 := by simpa [Lit.wf, IntKind.min, IntKind.max, IntKind.bits, IntKind.signed] using hw
  exact ⟨⟨z, s, L, l⟩, A1, c1, A2, c2, rfl, ⟨rr, rb, l1, by dsimp only; omega, by simp only [maxLen]; omega, l2, by dsimp only; omega, by simp only [maxLen]; omega, hb.1, hb.2, hss, st⟩⟩
end Go.Proofs.YtfnhaddgdfkmcaaDoor
