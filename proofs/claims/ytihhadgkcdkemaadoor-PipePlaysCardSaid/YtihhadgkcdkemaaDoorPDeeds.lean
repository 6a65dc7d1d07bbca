/-
  Opening an argument that is a row of deeds. No condition.
-/
import Derived.Test.YtihhadgkcdkemaaDoorPPlays
import Derived.Test.YtihhadgkcdkemaaDoorOpen2
import Derived.Test.YtihhadgkcdkemaaDoorOpenR
import Derived.Lib.SmallJoins
namespace Go.Proofs.YtihhadgkcdkemaaDoor
open Go.ChangeShapes Go.WideShapes Go.ChangeAt Go.RowKit Go.Deep
set_option linter.unusedVariables false
section
variable {H : Type} {enc : TypeId × Value → H} {P : Program}
theorem trod_struct5 {w : World} {base : Nat} {spare : Nat → Bool} {held : Bool} {t : TypeId} {f0 f1 f2 f3 f4 : Field} {fuel : Nat} {cs : List Value} {x : DataW H × List MemPlace} (ht : P.underlying t = some (.struct #[f0, f1, f2, f3, f4])) (h : DataW.trod enc P w base spare held fuel t cs = some x) :
    ∃ y0 y1 y2 y3 y4 n, x = (.agg [y0.1, y1.1, y2.1, y3.1, y4.1], y0.2 ++ (y1.2 ++ (y2.2 ++ (y3.2 ++ y4.2)))) ∧ cs.length = P.cellsOf t ∧ DataW.trod enc P w base spare held n f0.type ((cs.drop f0.offset).take (P.cellsOf f0.type)) = some y0 ∧
      DataW.trod enc P w base spare held n f1.type ((cs.drop f1.offset).take (P.cellsOf f1.type)) = some y1 ∧ DataW.trod enc P w base spare held n f2.type ((cs.drop f2.offset).take (P.cellsOf f2.type)) = some y2 ∧
      DataW.trod enc P w base spare held n f3.type ((cs.drop f3.offset).take (P.cellsOf f3.type)) = some y3 ∧ DataW.trod enc P w base spare held n f4.type ((cs.drop f4.offset).take (P.cellsOf f4.type)) = some y4 := by
  obtain ⟨xs, n, _, rfl, hl, hlen, hf⟩ := DataW.trod_struct ht h
  match xs, hlen with
  | [y0, y1, y2, y3, y4], _ => exact ⟨y0, y1, y2, y3, y4, n, by simp, hl, by simpa using hf 0 f0 rfl, by simpa using hf 1 f1 rfl, by simpa using hf 2 f2 rfl, by simpa using hf 3 f3 rfl, by simpa using hf 4 f4 rfl⟩
theorem weightsAll_mem {e : TypeId} {d : DataW H} {n : Nat} (hn : n ∈ d.weights P e) : ∀ {L : List (DataW H)}, d ∈ L → n ∈ DataW.weightsAll P e L
  | [], h => by cases h
  | x :: r, h => by
    unfold DataW.weightsAll
    rw [List.mem_append]
    rcases List.mem_cons.1 h with rfl | h
    · exact .inl hn
    · exact .inr (weightsAll_mem hn h)
/-- the bytes of one field: their number -/
theorem bytes_small {W : World} {held : Bool} {fuel : Nat} {t E : TypeId} {v : Value} {y : DataW H × List MemPlace} {es ss : List (DataW H)} (hU : U8 P t E) (hcE : P.cellsOf E = 1) (hbE : P.bytesOf E = 1)
    (hf : DataW.trod enc P W 0 (fun _ => true) held fuel t [v] = some y) (hw : ∀ n ∈ y.1.weights P t, n ≤ reachBytes) :
    ∃ A l cp, v = .slice A l.length cp ∧ RB W W.heap.size A l ∧ (A = none → l.length = 0) ∧ l.length ≤ 140737488351232 := by
  obtain ⟨A, l, cp, h1, h2, h3, h4, h5, h6⟩ := open_bytesT hU hcE (d := y.1) (p := y.2) hf
  refine ⟨A, l, cp, h1, h4, fun e => by have := h5 e; omega, ?_⟩
  rcases h6 with ⟨_, h6⟩ | ⟨es, ss, h6, h7, h8⟩
  · omega
  · rw [h6] at hw
    have := hw ((es.length + ss.length) * P.bytesOf E) (by simp only [DataW.weights, hU.ht]; exact List.mem_cons_self)
    rw [hbE, Nat.mul_one, h8] at this
    unfold reachBytes at this
    omega
theorem open_deeds {W : World} {r : Reach} {base0 : Nat} {T e tb E : TypeId} {f0 f1 f2 f3 f4 : Field} {v : Value} {d : DataW H} {p : List MemPlace} {ts : List TypeId} {ds : List (DataW H)} {j : Nat} (hT : P.underlying T = some (.slice e)) (he : P.underlying e = some (.struct #[f0, f1, f2, f3, f4]))
    (u0 : P.underlying f0.type = some (.int .i64)) (u1 : P.underlying f1.type = some .string) (u2 : P.underlying f2.type = some .string) (u3 : P.underlying f3.type = some (.int .i64)) (u4 : f4.type = tb) (hU : U8 P tb E) (hcE : P.cellsOf E = 1) (hbE : P.bytesOf E = 1)
    (o0 : f0.offset = 0) (o1 : f1.offset = 1) (o2 : f2.offset = 2) (o3 : f3.offset = 3) (o4 : f4.offset = 4) (k0 : P.cellsOf f0.type = 1) (k1 : P.cellsOf f1.type = 1) (k2 : P.cellsOf f2.type = 1) (k3 : P.cellsOf f3.type = 1) (k4 : P.cellsOf f4.type = 1) (hC : P.cellsOf e = 5) (hB : P.bytesOf e = 72)
    (hval : Value.okWide P W r base0 T v) (h : DataW.Trod enc P W 0 (fun _ => true) true T v d p) (hsz : (DataW.weightsEach P ts ds).all (· ≤ reachBytes) = true) (hts : ts[j]? = some T) (hds : ds[j]? = some d) :
    ∃ A D cp, v = .slice A D.length cp ∧ D.length ≤ cp ∧ cp ≤ 140737488351232 ∧ RDs W W.heap.size A D := by
  obtain ⟨a0, len0, cap0, rfl⟩ := okWide_slice hT hval
  obtain ⟨fuel, hf⟩ := h
  rcases open_slice hT hf with ⟨hcs, _⟩ | ⟨a, len, cap, m, n', D, Pl, hcs, hb, hl, hm, hmm, hx, hi⟩
  · simp [Value.cells] at hcs
    obtain ⟨rfl, rfl, rfl⟩ := hcs
    exact ⟨none, [], 0, rfl, by simp, by omega, .inl rfl⟩
  · simp [Value.cells] at hcs
    obtain ⟨rfl, rfl, rfl⟩ := hcs
    simp only [if_true] at hmm
    subst hmm
    obtain rfl : d = _ := congrArg Prod.fst hx
    have hs := sized_slice hsz hts hds hT
    simp only [List.length_map, List.length_range] at hs
    rw [hB] at hs
    unfold reachBytes at hs
    have hwt : ∀ i, i < len0 → ∀ q ∈ (D i).weights P e, q ≤ reachBytes := fun i hil q hq => by
      have h1 : q ∈ DataW.weightsAll P e ((List.range len0).map D) := weightsAll_mem hq (List.mem_map.2 ⟨i, List.mem_range.2 hil, rfl⟩)
      have h2 := List.all_eq_true.1 hsz q (DataW.weights_mem_each hts hds q (by simp only [DataW.weights, hT]; exact List.mem_cons_of_mem _ (List.mem_append_left _ h1)))
      simpa using h2
    have key : ∀ i, ∃ x : Dd, i < len0 → W.cell? (a.add (i * 5)) = some (.int .i64 x.k) ∧ W.cell? (a.add (i * 5 + 1)) = some (.string x.f) ∧ W.cell? (a.add (i * 5 + 2)) = some (.string x.t) ∧ W.cell? (a.add (i * 5 + 3)) = some (.int .i64 x.m) ∧ W.cell? (a.add (i * 5 + 4)) = some (.slice x.A x.l.length x.c) ∧
        RB W W.heap.size x.A x.l ∧ (x.A = none → x.l.length = 0) ∧ x.f.size ≤ maxLen ∧ x.t.size ≤ maxLen ∧ (-9223372036854775808 ≤ x.m ∧ x.m ≤ 9223372036854775807) ∧ x.l.length ≤ 140737488351232 := by
      intro i
      by_cases him : i < len0
      · obtain ⟨cs', hc, ht'⟩ := hi i (by omega)
        rw [hC] at hc
        obtain ⟨_, hcl, hat⟩ := World.cells?_some hc
        obtain ⟨y0, y1, y2, y3, y4, n2, hx2, _, g0, g1, g2, g3, g4⟩ := trod_struct5 he ht'
        rw [o0, k0] at g0
        rw [o1, k1] at g1
        rw [o2, k2] at g2
        rw [o3, k3] at g3
        rw [o4, k4] at g4
        obtain ⟨z0, e0, _, w0⟩ := DataW.trod_int u0 g0
        obtain ⟨s1, e1, _, hs1⟩ := DataW.trod_string u1 g1
        obtain ⟨s2, e2, _, hs2⟩ := DataW.trod_string u2 g2
        obtain ⟨z3, e3, _, w3⟩ := DataW.trod_int u3 g3
        match cs', hcl with
        | [x0, x1, x2, x3, x4], _ =>
          obtain rfl : x0 = .int .i64 z0 := by simpa using e0
          obtain rfl : x1 = .string s1 := by simpa using e1
          obtain rfl : x2 = .string s2 := by simpa using e2
          obtain rfl : x3 = .int .i64 z3 := by simpa using e3
          have hw4 : ∀ q ∈ y4.1.weights P f4.type, q ≤ reachBytes := fun q hq => hwt i him q (by
            rw [show D i = _ from congrArg Prod.fst hx2]
            simp only [DataW.weights, he]
            exact DataW.weights_mem_each (j := 4) (t := f4.type) rfl rfl q hq)
          rw [u4] at g4 hw4
          obtain ⟨A, l, cp, ev, hrb, hnil, hle⟩ := bytes_small (es := []) (ss := []) hU hcE hbE (v := x4) (by simpa using g4) hw4
          subst ev
          have hz : -9223372036854775808 ≤ z3 ∧ z3 ≤ 9223372036854775807 := by simpa [Lit.wf, IntKind.min, IntKind.max, IntKind.bits, IntKind.signed] using w3
          have c0 := hat 0 (by omega)
          have c1 := hat 1 (by omega)
          have c2 := hat 2 (by omega)
          have c3 := hat 3 (by omega)
          have c4 := hat 4 (by omega)
          rw [Go.Deep.add_add] at c0 c1 c2 c3 c4
          exact ⟨⟨z0, s1, s2, z3, A, l, cp⟩, fun _ => ⟨c0, c1, c2, c3, c4, hrb, hnil, hs1, hs2, hz, hle⟩⟩
      · exact ⟨⟨0, ⟨#[]⟩, ⟨#[]⟩, 0, none, [], 0⟩, fun h => absurd h him⟩
    obtain ⟨f, hf2⟩ := Classical.skolem.1 key
    have hlen : ((List.range len0).map f).length = len0 := by simp
    refine ⟨some a, (List.range len0).map f, m, by rw [hlen], by rw [hlen]; exact hl, by omega, ?_⟩
    rcases Nat.eq_zero_or_pos len0 with h0 | h0
    · subst h0; exact .inl (by simp)
    · obtain ⟨b, off, spot⟩ := a
      have hc0 := (hf2 0 (by omega)).1
      obtain rfl : spot = none := by simpa [Addr.add] using World.cell?_spot hc0
      have hlt := World.block_lt_of_cell? _ _ hc0
      refine .inr ⟨b, off, rfl, by simpa [Addr.add_lit] using hlt, fun i x hx => ?_⟩
      rw [List.getElem?_map] at hx
      by_cases hil : i < len0
      · rw [List.getElem?_range hil] at hx
        obtain rfl : f i = x := by simpa using hx
        obtain ⟨q0, q1, q2, q3, q4, h1, h2, h3, h4, h5, h6⟩ := hf2 i hil
        rw [Addr.add_lit] at q0 q1 q2 q3 q4
        exact ⟨q0, by rw [Nat.add_assoc]; exact q1, by rw [Nat.add_assoc]; exact q2, by rw [Nat.add_assoc]; exact q3, by rw [Nat.add_assoc]; exact q4, h1, h2, h3, h4, h5.1, h5.2, h6⟩
      · rw [List.getElem?_eq_none (by simpa using hil)] at hx
        cases hx
end
end Go.Proofs.YtihhadgkcdkemaaDoor
