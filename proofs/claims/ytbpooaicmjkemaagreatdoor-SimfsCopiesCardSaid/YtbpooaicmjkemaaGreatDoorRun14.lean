/-
  Several texts in one (merge.py): SfRLd, SfRGt. Conditions: each part names its own.
-/
import Derived.Test.YtbpooaicmjkemaaGreatDoorRun13
/-! The walk of the document's laid. Conditions: the sizes. -/
namespace Go.Proofs.YtbpooaicmjkemaaGreatDoor
open Go.RowKit Go.Maps
set_option linter.unusedVariables false
theorem uxB : UX Tryz.prog 35 5 1 := by
  obtain ⟨i, h1, h2, h3, h4⟩ := info_parts (show (Tryz.prog.info? 5).map (fun i => (i.zero, i.size, i.bytes)) = some (some (.int .u8 0), 1, 1) by kernel_rfl)
  exact ⟨Tryz.underlying35, ⟨i, _, h1, h2, rfl, h3, by omega⟩, by omega⟩
theorem RB.news {w : World} {B : Nat} {A : Option Addr} {l : Tx} (h : RB w B A l) : ∀ ad, A = some ad → ∀ j u, (Lib.byteCells l)[j]? = some u → w.cell? (ad.add j) = some u := by
  intro ad e j u hu
  obtain ⟨hj, rfl⟩ := byteCells_at hu
  rcases h with h4 | ⟨b4, o4, e4, -, h4⟩
  · rw [h4] at hj; cases hj
  · rw [e] at e4
    cases e4
    rw [Addr.add_lit]
    exact h4 j hj
theorem RB.none_ {w : World} {B : Nat} {A : Option Addr} {l : Tx} (h : RB w B A l) (e : A = none) : l = [] := by
  rcases h with h | ⟨b, off, h, -⟩
  · exact h
  · rw [e] at h; cases h
theorem bc_app (a b : Tx) : Lib.byteCells a ++ Lib.byteCells b = Lib.byteCells (a ++ b) := by simp [Lib.byteCells]
def ldM (l b : Tx) (a j : Nat) : Tx := l.take a ++ b.take j ++ l.drop (a + j)
theorem ld_set {l b : Tx} {a j : Nat} (hj : j < b.length) (ha : a + b.length ≤ l.length) : (Lib.byteCells (ldM l b a j)).set (a + j) (.int .u8 (bt b j)) = Lib.byteCells (ldM l b a (j + 1)) := by
  have h1 : l.drop (a + j) = l[a + j] :: l.drop (a + (j + 1)) := List.drop_eq_getElem_cons (by omega)
  have h2 : b.take (j + 1) = b.take j ++ [b[j]] := List.take_succ_eq_append_getElem hj
  have h3 : (l.take a ++ b.take j).length = a + j := by rw [List.length_append, List.length_take, List.length_take]; omega
  have h4 : (ldM l b a j).set (a + j) b[j] = ldM l b a (j + 1) := by
    unfold ldM
    rw [h1, List.set_append_right _ _ (by omega), h3, Nat.sub_self, h2, List.set_cons_zero]
    simp only [List.append_assoc, List.cons_append, List.nil_append]
  rw [← h4, bt_getElem hj]
  simp [Lib.byteCells, List.map_set]
theorem ldM_len {l b : Tx} {a j : Nat} (hj : j ≤ b.length) (ha : a + b.length ≤ l.length) : (ldM l b a j).length = l.length := by
  unfold ldM
  rw [List.length_append, List.length_append, List.length_take, List.length_take, List.length_drop]
  omega
def LdPost (w : World) (l : Tx) (e : Ending) (w' : World) : Prop := Below w.heap.size w w' ∧ ∃ g v, e = .returned v ∧ OwnX 1 w' g v (Lib.byteCells l) ∧ (∀ k, g = some k → w.heap.size ≤ k)
set_option maxRecDepth 100000 in
set_option maxHeartbeats 2000000 in
theorem rlaid_walk (w : World) (A : Option Addr) (n c : Nat) (l : Tx) (hr : RB w w.heap.size A l) (hn : n = l.length) (Ab : Option Addr) (nb cb : Nat) (x : Wr) (hrb : RB w w.heap.size Ab x.b) (hnb : nb = x.b.length) (hf : x.at_ < 0 ∨ ∃ a : Nat, x.at_ = (a : Int) ∧ a + nb ≤ n) (hl : n + nb ≤ 100000000000) :
    Calls Tryz.prog 122 #[.slice A n c, .agg #[.int .i64 x.at_, .slice Ab nb cb]] w (LdPost w (laid l x)) := by
  obtain ⟨at_, b⟩ := x
  simp only [] at hrb hnb hf ⊢
  have HBox := Lib.hid (Blk.new w 135 #[.int .i64 at_, .slice Ab nb cb])
  have HB0 := Lib.hid ((Below.refl w.heap.size w).alloc (Nat.le_refl _) (.cells #[.int .i64 at_, .slice Ab nb cb] 135))
  have HN := Lib.hid hn
  have HNB := Lib.hid hnb
  have HR := Lib.hid hr
  have HRB := Lib.hid hrb
  have HA0 : Hid (A = none → n = 0) := Lib.hid fun e => by rw [hn, hr.none_ e]; rfl
  have HAB : Hid (Ab = none → nb = 0) := Lib.hid fun e => by rw [hnb, hrb.none_ e]; rfl
  clear hn hnb hr hrb
  go_enter Tryz.func122, Tryz.ntmps122
  go_upto_region 2 with fail
  generalize w.alloc (.cells #[.int .i64 at_, .slice Ab nb cb] 135) = w1 at *
  by_cases hneg : at_ < 0
  · have HP : Hid (laid l ⟨at_, b⟩ = l ++ b) := Lib.hid (laid_neg hneg)
    clear hf
    go_wp2_with (first
      | (at_builtin; (refine wpList_appX _ uxB (.tmp 7) (.tmp 8) rfl rfl rfl (OwnX.nil _ none) A n c rfl (Lib.byteCells l) (by rw [byteCells_len, HN.out, Nat.mul_one]) HA0.out (HR.out.below HB0.out).news (byteCells_one l) (by simp; omega) ?_; intro v3 g3 w3 hX3 hG3 ho3; rw [List.nil_append] at hX3; have HX3 := Lib.hid hX3; have HB3 := Lib.hid (belowX HB0.out hG3 (fun k h => by cases h) HB0.out.size); have hBx := HBox.out.grown hG3 (fun e => by cases e); have y0 : w3.cell? ⟨w.heap.size, 0, none⟩ = some (.int .i64 at_) := hBx.cell 0; have y1 : w3.cell? ⟨w.heap.size, 1, none⟩ = some (.slice Ab nb cb) := hBx.cell 1; have HO3 : Hid (∀ k, g3 = some k → w.heap.size ≤ k) := Lib.hid (fun k hk => by rcases ho3 with h | h <;> (rw [h] at hk; cases hk); exact HB0.out.size); obtain ⟨A3, n3, c3, rfl, -⟩ := hX3.sl; clear hX3 hG3 ho3 hBx))
      | (at_builtin; (refine wpList_appX _ uxB (.tmp 13) (.tmp 15) rfl rfl rfl HX3.out Ab nb cb rfl (Lib.byteCells b) (by rw [byteCells_len, HNB.out, Nat.mul_one]) HAB.out (HRB.out.below HB3.out).news (byteCells_one b) (by rw [byteCells_len, ← HN.out]; omega) ?_; intro v5 g5 w5 hX5 hG5 ho5; rw [bc_app] at hX5; have HX5 := Lib.hid hX5; have HB5 := Lib.hid (belowX HB3.out hG5 HO3.out HB3.out.size); have HO5 : Hid (∀ k, g5 = some k → w.heap.size ≤ k) := Lib.hid (fun k hk => by rcases ho5 with h | h; (rw [h] at hk; exact HO3.out k hk); (rw [h] at hk; cases hk; exact HB3.out.size)); obtain ⟨A5, n5, c5, rfl, -⟩ := hX5.sl; clear hX5 hG5 ho5)))
    go_ret
    rw [HP.out]
    exact ⟨HB5.out, g5, _, rfl, HX5.out, HO5.out⟩
  · obtain ⟨a, rfl, han⟩ := hf.resolve_left hneg
    have HP : Hid (laid l ⟨(a : Int), b⟩ = ldM l b a nb) := Lib.hid (by
      rw [laid_pos hneg, HNB.out]
      unfold ldM
      rw [List.take_length]
      simp)
    have hs1 : w.heap.size < w1.heap.size := HBox.out.lt
    have HS1 := Lib.hid hs1
    have ha0 : ¬ (a : Int) < 0 := by omega
    clear hf hneg hs1
    go_upto_region 2 with fail
    go_wp2_with (first
      | (at_builtin; (refine wpList_appX _ uxB (.tmp 7) (.tmp 8) rfl rfl rfl (OwnX.nil _ none) A n c rfl (Lib.byteCells l) (by rw [byteCells_len, HN.out, Nat.mul_one]) HA0.out (HR.out.below HB0.out).news (byteCells_one l) (by simp; omega) ?_; intro v3 g3 w3 hX3 hG3 ho3; rw [List.nil_append] at hX3; have HX3 := Lib.hid hX3; have HB3 := Lib.hid (belowX HB0.out hG3 (fun k h => by cases h) HB0.out.size); have HBx := Lib.hid (HBox.out.grown hG3 (fun e => by cases e)); have y0 : w3.cell? ⟨w.heap.size, 0, none⟩ = some (.int .i64 (a : Int)) := HBx.out.cell 0; have y1 : w3.cell? ⟨w.heap.size, 1, none⟩ = some (.slice Ab nb cb) := HBx.out.cell 1; have HO3 : Hid (∀ k, g3 = some k → w.heap.size < k) := Lib.hid (fun k hk => by rcases ho3 with h | h <;> (rw [h] at hk; cases hk); exact HS1.out); obtain ⟨A3, n3, c3, rfl, -⟩ := hX3.sl; clear hX3 hG3 ho3)))
    have hf3 := HX3.out.form
    rw [byteCells_len, ← HN.out, Nat.mul_one] at hf3
    obtain ⟨rfl, hc3, -⟩ := hf3
    have HM0 : Hid (OwnX 1 w3 g3 (.slice A3 n c3) (Lib.byteCells (ldM l b a 0))) := Lib.hid (by
      have : ldM l b a 0 = l := by unfold ldM; simp
      rw [this]; exact HX3.out)
    clear HX3
    go_upto_region 6 with fail
    go_loopg [6] nb (fun k s6 wr => ∃ j : Nat, s6 = .int .i64 (j : Int) ∧ j + k = nb ∧ Hid (OwnX 1 wr g3 (.slice A3 n c3) (Lib.byteCells (ldM l b a j))) ∧ Hid (Below w.heap.size w wr) ∧ Hid (Blk wr w.heap.size 135 #[.int .i64 (a : Int), .slice Ab nb cb]))
    case atStart => exact ⟨0, rfl, by omega, HM0, HB3, HBx⟩
    case round =>
      obtain ⟨j, rfl, hj, HX, HW, HY⟩ := hrel
      have z0 : wr.cell? ⟨w.heap.size, 0, none⟩ = some (.int .i64 (a : Int)) := HY.out.cell 0
      have z1 : wr.cell? ⟨w.heap.size, 1, none⟩ = some (.slice Ab nb cb) := HY.out.cell 1
      clear HM0 HBx y0 y1
      by_cases hlt : j < nb
      · have hlt1 : (j : Int) < (nb : Int) := by omega
        obtain ⟨b1, o1, rfl, -, hcb⟩ : ∃ b1 o1, Ab = some ⟨b1, o1, none⟩ ∧ b1 < wr.heap.size ∧ ∀ i, i < b.length → wr.cell? ⟨b1, o1 + i, none⟩ = some (.int .u8 (bt b i)) := by
          rcases (HRB.out.below HW.out) with h | ⟨b1, o1, h1, h2, h3⟩
          · have := HNB.out; rw [h] at this; simp at this; omega
          · exact ⟨b1, o1, h1, Nat.lt_of_lt_of_le h2 HW.out.size, h3⟩
        have q0 := hcb j (by rw [← HNB.out]; exact hlt)
        obtain ⟨g, off, rfl, rfl, hgl, hcl, hfz⟩ := HX.out.at_ (by omega)
        have hlen : (Lib.byteCells (ldM l b a j)).length = n := by rw [byteCells_len, ldM_len (by rw [← HNB.out]; omega) (by rw [← HNB.out, ← HN.out]; exact han), HN.out]
        have q1 := hcl (a + j) (by rw [hlen]; omega)
        have q2 := hfz (a + j) (by omega)
        have HSET := Lib.hid (HX.out.set_ (by omega) (a + j) (by rw [hlen]; omega) (.int .u8 (bt b j)))
        rw [ld_set (by rw [← HNB.out]; exact hlt) (by rw [← HNB.out, ← HN.out]; exact han)] at HSET
        obtain ⟨v0, q3⟩ := Option.isSome_iff_exists.1 q2.1
        have q4 := q2.2
        obtain ⟨t, ht⟩ : ∃ t, t = a + j := ⟨_, rfl⟩
        have hwr : IntKind.i64.wrap ((a : Int) + (j : Int)) = (t : Int) := by rw [IntWalk.i64_in _ (by omega), ht]; push_cast; rfl
        rw [← ht] at q3 q4 HSET
        have haj : (t : Int) < (n : Int) := by omega
        have hg1 := HO3.out g rfl
        have HGN : Hid (w.heap.size < g) := Lib.hid hg1
        clear q1 q2 hcb hcl hfz hlen hg1 ht
        go_upto_region 8 with fail
        go_region
        all_goals
          go_wp2_with fail
          go_roundg (gk - 1)
          case rel =>
            refine ⟨j + 1, by go_num, by omega, Lib.hid HSET.out, Lib.hid ?_, Lib.hid ?_⟩
            · have h := HW.out
              exact ⟨h.os, h.tape, h.output, by have := h.size; simpa [World.setCell] using this, fun k hk => (Below.heap_setCell wr ⟨g, off + t, none⟩ _ k (by have := HGN.out; simp; omega)).trans (h.block k hk)⟩
            · exact HY.out.far (p := ⟨g, off + t, none⟩) (by have := HGN.out; simp; omega) _
          case measure => omega
      · have hlt1 : ¬ (j : Int) < (nb : Int) := by omega
        obtain rfl : j = nb := by omega
        go_wp2_with fail
        go_ret
        rw [HP.out]
        exact ⟨HW.out, g3, _, rfl, HX.out, fun k hk => Nat.le_of_lt (HO3.out k hk)⟩
end Go.Proofs.YtbpooaicmjkemaaGreatDoor

/-! The walks of the document's Off, Count, Used, Len. Conditions: the sizes. -/
namespace Go.Proofs.YtbpooaicmjkemaaGreatDoor
open Go.RowKit Go.Maps
set_option linter.unusedVariables false
section
variable {z db : Nat} {w : World} {own : Nat → Nat × Nat} {d : Dk} {q : RParts}
theorem roff_walk (h : RSt z w own db d q) :
    Calls Tryz.prog 68 #[ptrV db] w fun e w' => e = .returned (.bool d.off) ∧ w' = w := by
  have k6 : w.cell? ⟨db, 6, none⟩ = some (.bool d.off) := h.blk.cell 6
  unfold ptrV
  clear h
  go_enter Tryz.func68, Tryz.ntmps68
  go_wp2_with fail
  go_ret
  exact ⟨rfl, rfl⟩
theorem rcount_walk (h : RSt z w own db d q) :
    Calls Tryz.prog 66 #[ptrV db] w fun e w' => e = .returned (.int .i64 d.done) ∧ w' = w := by
  have k7 : w.cell? ⟨db, 7, none⟩ = some (.int .i64 d.done) := h.blk.cell 7
  unfold ptrV
  clear h
  go_enter Tryz.func66, Tryz.ntmps66
  go_wp2_with fail
  go_ret
  exact ⟨rfl, rfl⟩
theorem rUsed_walk (h : RSt z w own db d q) (hm : ∀ e ∈ d.now, e.2 < d.nodes.length) (hl : d.now.length ≤ 1000000) (hu : usedM d ≤ 1000000000000) :
    Calls Tryz.prog 64 #[ptrV db] w fun e w' => e = .returned (.int .i64 (if d.off = true then 0 else (usedM d : Int))) ∧ Below w.heap.size w w' := by
  have k6 : w.cell? ⟨db, 6, none⟩ = some (.bool d.off) := h.blk.cell 6
  have K := Lib.hid (rused_walk h hm hl hu)
  unfold ptrV at K ⊢
  clear h hm hl hu
  obtain ⟨U, hU⟩ : ∃ U, U = (usedM d : Int) := ⟨_, rfl⟩
  rw [← hU] at K ⊢
  clear hU
  generalize d.off = o at *
  cases o
  · simp only [Bool.false_eq_true, if_false]
    go_enter Tryz.func64, Tryz.ntmps64
    go_wp2_with fail
    refine K.out.mono ?_
    rintro e w2 ⟨rfl, hb⟩
    have HB := Lib.hid hb
    clear hb
    go_wp2_with fail
    go_ret
    exact ⟨rfl, HB.out⟩
  · simp only [if_true]
    go_enter Tryz.func64, Tryz.ntmps64
    go_wp2_with fail
    go_ret
    exact ⟨rfl, Below.refl _ _⟩
/-- the found file's bytes -/
theorem RSt.file (h : RSt z w own db d q) (hm : ∀ e ∈ d.now, e.2 < d.nodes.length) {p : Tx} (h0 : missM d p = 0) : ∃ x, d.nodes[fileM d p]? = some x ∧ nodeM d (fileM d p) = x := by
  have hg : ∃ n, getE d.now p = some n := by
    unfold missM at h0
    split at h0
    · cases h0
    · split at h0
      · cases h0
      · rename_i hn
        cases e : getE d.now p with
        | none => exact absurd e hn
        | some n => exact ⟨n, rfl⟩
  obtain ⟨n, hn⟩ := hg
  have hf : fileM d p = n := by unfold fileM; rw [hn]; rfl
  have hlt : n < d.nodes.length := by
    by_cases hi : ∃ e ∈ d.now, e = (p, n)
    · obtain ⟨e, he, rfl⟩ := hi
      exact hm _ he
    · exfalso
      apply hi
      clear hi hm h h0 hf
      generalize d.now = L at hn
      induction L with
      | nil => cases hn
      | cons a r ih =>
        unfold getE at hn
        split at hn
        · rename_i ha
          injection hn with hn
          exact ⟨a, by simp, by rw [← ha, ← hn]⟩
        · obtain ⟨e, he, hx⟩ := ih hn
          exact ⟨e, by simp [he], hx⟩
  refine ⟨d.nodes[n], by rw [hf]; exact List.getElem?_eq_getElem hlt, ?_⟩
  unfold nodeM
  rw [hf, List.getD_eq_getElem?_getD, List.getElem?_eq_getElem hlt]
  rfl
set_option maxHeartbeats 1000000 in
theorem rLen_walk (h : RSt z w own db d q) (hs : sortE d.now) (hm : ∀ e ∈ d.now, e.2 < d.nodes.length) (hl : d.now.length ≤ 1000000) (p : Tx) :
    Calls Tryz.prog 108 #[ptrV db, .string (bs p)] w fun e w' => e = .returned (.tuple #[.int .i64 (lenM d p : Int), .bool (decide (missM d p = 0))]) ∧ Below w.heap.size w w' := by
  have K := Lib.hid (rfound_walk h hs hl p)
  obtain ⟨E, hE⟩ : ∃ E, missM d p = E := ⟨_, rfl⟩
  obtain ⟨N, hN⟩ : ∃ N, lenM d p = N := ⟨_, rfl⟩
  by_cases h0 : E = 0
  · subst h0
    obtain ⟨x, hx, hx2⟩ := h.file hm hE
    obtain ⟨m, g, of_, nn, cn, hm1, hg, hvn, hnn, hnc, hgl, c2, -, -, hNd⟩ := h.rest.ndAt hx
    obtain ⟨An, ca, hv1, -, -, -⟩ := hNd.now
    have hn1 : x.now.length = N := by rw [← hN]; unfold lenM; rw [if_pos hE, hx2]
    rw [hv1, hn1] at c2
    have k2 : w.cell? ⟨db, 2, none⟩ = some (.slice (some ⟨g, of_, none⟩) nn cn) := by rw [← hvn]; exact h.blk.cell 2
    have hfn : fileM d p < nn := by rw [hnn]; exact (List.getElem?_eq_some_iff.1 hx).1
    have hr : rfN d p = fileM d p := by unfold rfN; rw [if_pos hE]
    rw [hE, hr] at K
    obtain ⟨k, hk⟩ : ∃ k, fileM d p = k := ⟨_, rfl⟩
    rw [hk] at K c2 hfn
    have hkn : (k : Int) < (nn : Int) := by omega
    rw [hN, show decide (missM d p = 0) = true from decide_eq_true hE]
    unfold ptrV at K ⊢
    clear h hs hm hl hE hN hx hx2 hm1 hg hvn hnn hnc hgl hNd hv1 hn1 hr hk hfn
    go_enter Tryz.func108, Tryz.ntmps108
    go_wp2_with fail
    refine K.out.mono ?_
    rintro e w2 ⟨rfl, q, rfl⟩
    have y2 : (w.drewN q).cell? ⟨db, 2, none⟩ = some (.slice (some ⟨g, of_, none⟩) nn cn) := k2
    have y3 : (w.drewN q).cell? ⟨g, of_ + k * 3, none⟩ = some (.slice An N ca) := c2
    go_wp2_with fail
    go_ret2
    exact ⟨rfl, ⟨rfl, rfl, rfl, Nat.le_refl _, fun _ _ => rfl⟩⟩
  · have hN0 : N = 0 := by rw [← hN]; unfold lenM; rw [if_neg (by rw [hE]; exact h0)]
    subst hN0
    rw [hN, show decide (missM d p = 0) = false from decide_eq_false (by rw [hE]; exact h0)]
    rw [hE] at K
    have hb : (E == 0) = false := beq_eq_false_iff_ne.2 h0
    unfold ptrV at K ⊢
    clear h hs hm hl hE hN
    go_enter Tryz.func108, Tryz.ntmps108
    go_wp2_with fail
    refine K.out.mono ?_
    rintro e w2 ⟨rfl, q, rfl⟩
    go_wp2_with fail
    go_ret2
    exact ⟨rfl, ⟨rfl, rfl, rfl, Nat.le_refl _, fun _ _ => rfl⟩⟩
end
end Go.Proofs.YtbpooaicmjkemaaGreatDoor
