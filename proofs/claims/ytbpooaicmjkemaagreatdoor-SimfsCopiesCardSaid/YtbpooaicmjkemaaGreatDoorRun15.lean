/-
  Several texts in one (merge.py): SfRFa, SfRRd, SfLs. Conditions: each part names its own.
-/
import Derived.Test.YtbpooaicmjkemaaGreatDoorRun14
import Derived.Test.YtbpooaicmjkemaaGreatDoorSfShow
import Derived.Maps.AppendAt
/-! The walks of the document's Fail, Arm. Printed by gen_rfa.py from XSfGet. Conditions: the sizes. -/
namespace Go.Proofs.YtbpooaicmjkemaaGreatDoor
open Go.RowKit Go.Maps
set_option linter.unusedVariables false
section
variable {z db : Nat} {w : World} {own : Nat → Nat × Nat} {d : Dk} {q : RParts}
set_option maxHeartbeats 1000000 in
theorem rfail_walk (h : RSt z w own db d q) (n e0 : Int) (hn : n ≤ 9223372036854775807) : Calls Tryz.prog 55 #[ptrV db, .int .i64 n, .int .i64 e0] w (RSwPost z w own db q (failM d n e0)) := by
  have k7 : w.cell? ⟨db, 6, none⟩ = some (.bool d.off) := h.blk.cell 6
  have k10 : w.cell? ⟨db, 9, none⟩ = some (.int .i64 (d.fail : Int)) := h.blk.cell 9
  have k11 : w.cell? ⟨db, 10, none⟩ = some (.int .i64 d.failed) := h.blk.cell 10
  have f10 := h.blk.frozen 9
  have f11 := h.blk.frozen 10
  have H := Lib.hid h
  unfold ptrV
  cases ho : d.off with
  | true =>
    have E : Hid (failM d n e0 = (d, 10)) := Lib.hid (by unfold failM; rw [if_pos ho])
    rw [ho] at k7
    clear ho h
    go_enter Tryz.func55, Tryz.ntmps55
    go_wp2
    go_ret
    unfold RSwPost
    rw [E.out]
    exact ⟨H.out, Only.refl _, rfl⟩
  | false =>
    rw [ho] at k7
    by_cases hb : n < 0 ∨ (e0 ≠ 16 ∧ e0 ≠ 15)
    · have E : Hid (failM d n e0 = (d, 1)) := Lib.hid (by unfold failM; rw [if_neg (by rw [ho]; decide), if_pos hb])
      clear ho h
      by_cases h0 : n < 0
      · have h1 : decide (n < 0) = true := decide_eq_true h0
        clear hb
        go_enter Tryz.func55, Tryz.ntmps55
        go_wp2
        all_goals
          go_ret
          unfold RSwPost
          rw [E.out]
          exact ⟨H.out, Only.refl _, rfl⟩
      · have h1 : decide (n < 0) = false := decide_eq_false h0
        have h2 : (e0 != 16) = true := by simpa using (hb.resolve_left h0).1
        have h3 : (e0 != 15) = true := by simpa using (hb.resolve_left h0).2
        clear hb
        go_enter Tryz.func55, Tryz.ntmps55
        go_wp2
        all_goals
          go_ret
          unfold RSwPost
          rw [E.out]
          exact ⟨H.out, Only.refl _, rfl⟩
    · have h0 : ¬ n < 0 := fun h => hb (.inl h)
      have E : Hid (failM d n e0 = ({ d with fail := n.toNat, failed := e0 }, 0)) := Lib.hid (by unfold failM; rw [if_neg (by rw [ho]; decide), if_neg hb])
      have h1 : decide (n < 0) = false := decide_eq_false h0
      obtain ⟨m, rfl⟩ : ∃ m : Nat, n = (m : Int) := ⟨n.toNat, by omega⟩
      rw [show ((m : Int)).toNat = m by omega] at E
      have hd : SameD d { d with fail := m, failed := e0 } := ⟨rfl, rfl, rfl, rfl, rfl, rfl⟩
      by_cases h6 : e0 = 16
      · subst h6
        clear ho h hb
        go_enter Tryz.func55, Tryz.ntmps55
        go_wp2
        all_goals
          go_ret
          unfold RSwPost
          rw [E.out]
          have hb := ((show Blk w db _ _ from H.out.blk).set_ 9 (.int .i64 (m : Int))).set_ 10 (.int .i64 16)
          have hn := ((Only.refl (g := db) w).set_ 9 (.int .i64 (m : Int))).set_ 10 (.int .i64 16)
          exact ⟨H.out.switch hn hb hd, hn, rfl⟩
      · have h5 : e0 = 15 := by
          rcases Int.lt_trichotomy e0 15 with h | h | h
          · exact absurd (.inr ⟨h6, by omega⟩) hb
          · exact h
          · exact absurd (.inr ⟨h6, by omega⟩) hb
        subst h5
        clear ho h hb h6
        go_enter Tryz.func55, Tryz.ntmps55
        go_wp2
        all_goals
          go_ret
          unfold RSwPost
          rw [E.out]
          have hb := ((show Blk w db _ _ from H.out.blk).set_ 9 (.int .i64 (m : Int))).set_ 10 (.int .i64 15)
          have hn := ((Only.refl (g := db) w).set_ 9 (.int .i64 (m : Int))).set_ 10 (.int .i64 15)
          exact ⟨H.out.switch hn hb hd, hn, rfl⟩
theorem rarm_walk (h : RSt z w own db d q) (n : Int) (hn : n ≤ 9223372036854775807) : Calls Tryz.prog 56 #[ptrV db, .int .i64 n] w (RSwPost z w own db q (armM d n)) := by
  have k7 : w.cell? ⟨db, 6, none⟩ = some (.bool d.off) := h.blk.cell 6
  have k9 : w.cell? ⟨db, 8, none⟩ = some (.int .i64 (d.arm : Int)) := h.blk.cell 8
  have f9 := h.blk.frozen 8
  have H := Lib.hid h
  unfold ptrV
  cases ho : d.off with
  | true =>
    have E : Hid (armM d n = (d, 10)) := Lib.hid (by unfold armM; rw [if_pos ho])
    rw [ho] at k7
    clear ho h
    go_enter Tryz.func56, Tryz.ntmps56
    go_wp2
    go_ret
    unfold RSwPost
    rw [E.out]
    exact ⟨H.out, Only.refl _, rfl⟩
  | false =>
    rw [ho] at k7
    by_cases h0 : n < 0
    · have E : Hid (armM d n = (d, 1)) := Lib.hid (by unfold armM; rw [if_neg (by rw [ho]; decide), if_pos h0])
      clear ho h
      go_enter Tryz.func56, Tryz.ntmps56
      go_wp2
      go_ret
      unfold RSwPost
      rw [E.out]
      exact ⟨H.out, Only.refl _, rfl⟩
    · have E : Hid (armM d n = ({ d with arm := n.toNat }, 0)) := Lib.hid (by unfold armM; rw [if_neg (by rw [ho]; decide), if_neg h0])
      obtain ⟨m, rfl⟩ : ∃ m : Nat, n = (m : Int) := ⟨n.toNat, by omega⟩
      rw [show ((m : Int)).toNat = m by omega] at E
      have hd : SameD d { d with arm := m } := ⟨rfl, rfl, rfl, rfl, rfl, rfl⟩
      clear ho h
      go_enter Tryz.func56, Tryz.ntmps56
      go_wp2
      all_goals
        go_ret
        unfold RSwPost
        rw [E.out]
        have hb := (show Blk w db _ _ from H.out.blk).set_ 8 (.int .i64 (m : Int))
        have hn := (Only.refl (g := db) w).set_ 8 (.int .i64 (m : Int))
        exact ⟨H.out.switch hn hb hd, hn, rfl⟩
end
end Go.Proofs.YtbpooaicmjkemaaGreatDoor

/-! The walks of the document's Read, Dirs. Conditions: the sizes. -/
namespace Go.Proofs.YtbpooaicmjkemaaGreatDoor
open Go.RowKit Go.Maps
set_option linter.unusedVariables false
def rdM (d : Dk) (p : Tx) : Tx := if missM d p = 0 then (nodeM d (fileM d p)).now else []
section
variable {z db : Nat} {w : World} {own : Nat → Nat × Nat} {d : Dk} {q : RParts}
set_option maxHeartbeats 1000000 in
theorem rRead_walk (h : RSt z w own db d q) (hs : sortE d.now) (hm : ∀ e ∈ d.now, e.2 < d.nodes.length) (hl : d.now.length ≤ 1000000) (p : Tx) (hb : (rdM d p).length ≤ 100000000000) :
    Calls Tryz.prog 107 #[ptrV db, .string (bs p)] w fun e w' => Below w.heap.size w w' ∧ ∃ g v, e = .returned (.tuple #[v, .int .i64 (missM d p)]) ∧ OwnX 1 w' g v (Lib.byteCells (rdM d p)) ∧ (∀ k, g = some k → w.heap.size ≤ k) := by
  have K := Lib.hid (rfound_walk h hs hl p)
  obtain ⟨E, hE⟩ : ∃ E, missM d p = E := ⟨_, rfl⟩
  obtain ⟨N, hN⟩ : ∃ N, rdM d p = N := ⟨_, rfl⟩
  by_cases h0 : E = 0
  · subst h0
    obtain ⟨x, hx, hx2⟩ := h.file hm hE
    obtain ⟨m, g, of_, nn, cn, hm1, hg, hvn, hnn, hnc, hgl, c2, -, -, hNd⟩ := h.rest.ndAt hx
    obtain ⟨An, ca, hv1, -, -, hfz⟩ := hNd.now
    have hn1 : x.now = N := by rw [← hN]; unfold rdM; rw [if_pos hE, hx2]
    obtain ⟨ln, hln⟩ : ∃ ln, N.length = ln := ⟨_, rfl⟩
    rw [hN, hln] at hb
    have HR := Lib.hid (hfz.rb)
    rw [hn1] at HR
    rw [hv1, hn1, hln] at c2
    have HL := Lib.hid hln
    have HA0 : Hid (An = none → ln = 0) := Lib.hid fun e => by rw [← hln, HR.out.none_ e]; rfl
    have k2 : w.cell? ⟨db, 2, none⟩ = some (.slice (some ⟨g, of_, none⟩) nn cn) := by rw [← hvn]; exact h.blk.cell 2
    have hfn : fileM d p < nn := by rw [hnn]; exact (List.getElem?_eq_some_iff.1 hx).1
    have hr : rfN d p = fileM d p := by unfold rfN; rw [if_pos hE]
    rw [hE, hr] at K
    obtain ⟨k, hk⟩ : ∃ k, fileM d p = k := ⟨_, rfl⟩
    rw [hk] at K c2 hfn
    have hkn : (k : Int) < (nn : Int) := by omega
    rw [hN, hE]
    unfold ptrV at K ⊢
    clear h hs hm hl hE hN hx hx2 hm1 hg hvn hnn hnc hgl hNd hv1 hn1 hr hk hfn hfz hln
    go_enter Tryz.func107, Tryz.ntmps107
    go_wp2_with fail
    refine K.out.mono ?_
    rintro e w2 ⟨rfl, q, rfl⟩
    have y2 : (w.drewN q).cell? ⟨db, 2, none⟩ = some (.slice (some ⟨g, of_, none⟩) nn cn) := k2
    have y3 : (w.drewN q).cell? ⟨g, of_ + k * 3, none⟩ = some (.slice An ln ca) := c2
    have HB2 : Hid (Below w.heap.size w (w.drewN q)) := Lib.hid ⟨rfl, rfl, rfl, Nat.le_refl _, fun _ _ => rfl⟩
    clear K
    generalize w.drewN q = w2 at *
    go_wp2_with (at_builtin; (refine wpList_appX _ uxB (.tmp 18) (.tmp 26) rfl rfl rfl (OwnX.nil _ none) An ln ca rfl (Lib.byteCells N) (by rw [byteCells_len, HL.out, Nat.mul_one]) HA0.out (HR.out.below HB2.out).news (byteCells_one N) (by simp; omega) ?_; intro v3 g3 w3 hX3 hG3 ho3; rw [List.nil_append] at hX3; have HX3 := Lib.hid hX3; have HB3 := Lib.hid (belowX HB2.out hG3 (fun k h => by cases h) HB2.out.size); have HO3 : Hid (∀ k, g3 = some k → w.heap.size ≤ k) := Lib.hid (fun k hk => by rcases ho3 with h | h <;> (rw [h] at hk; cases hk); exact HB2.out.size); obtain ⟨A3, n3, c3, rfl, -⟩ := hX3.sl; clear hX3 hG3 ho3))
    go_ret2
    exact ⟨HB3.out, g3, _, rfl, HX3.out, HO3.out⟩
  · have hN0 : N = [] := by rw [← hN]; unfold rdM; rw [if_neg (by rw [hE]; exact h0)]
    subst hN0
    rw [hN, hE]
    rw [hE] at K
    have hb : (E == 0) = false := beq_eq_false_iff_ne.2 h0
    have hb2 : (E != 0) = true := by simpa using h0
    unfold ptrV at K ⊢
    clear h hs hm hl hE hN
    go_enter Tryz.func107, Tryz.ntmps107
    go_wp2_with fail
    refine K.out.mono ?_
    rintro e w2 ⟨rfl, q, rfl⟩
    go_wp2_with fail
    go_ret2
    exact ⟨⟨rfl, rfl, rfl, Nat.le_refl _, fun _ _ => rfl⟩, none, _, rfl, OwnX.nil _ none, fun k h => by cases h⟩
theorem rDirs_walk (h : RSt z w own db d q) (hl : d.dirs.length ≤ 1000000) :
    Calls Tryz.prog 61 #[ptrV db] w fun e w' => Below w.heap.size w w' ∧ ∃ g v, e = .returned v ∧ OwnX 1 w' g v (d.dirs.map stV) ∧ (∀ k, g = some k → w.heap.size ≤ k) := by
  obtain ⟨A, c, hv, hc, hcm, hr⟩ := h.rest.dirs.sx
  obtain ⟨n, hn⟩ : ∃ n, d.dirs.length = n := ⟨_, rfl⟩
  rw [hn] at hv hl
  have k1 : w.cell? ⟨db, 1, none⟩ = some (.slice A n c) := by rw [← hv]; exact h.blk.cell 1
  have HN := Lib.hid hn
  have HR := Lib.hid hr
  have HA0 : Hid (A = none → n = 0) := Lib.hid fun e => by
    rcases hr with h1 | ⟨b, off, h1, -⟩
    · rw [← hn, h1]; rfl
    · rw [e] at h1; cases h1
  unfold ptrV
  clear h hv hc hcm hr hn
  go_enter Tryz.func61, Tryz.ntmps61
  go_wp2_with (at_builtin; (refine wpList_appX _ uxS (.tmp 4) (.tmp 8) rfl rfl rfl (OwnX.nil _ none) A n c rfl (d.dirs.map stV) (by rw [List.length_map, HN.out, Nat.mul_one]) HA0.out HR.out.news (oneS _) (by simp; omega) ?_; intro v3 g3 w3 hX3 hG3 ho3; rw [List.nil_append] at hX3; have HX3 := Lib.hid hX3; have HB3 := Lib.hid (belowX (Below.refl w.heap.size w) hG3 (fun k h => by cases h) (Nat.le_refl _)); have HO3 : Hid (∀ k, g3 = some k → w.heap.size ≤ k) := Lib.hid (fun k hk => by rcases ho3 with h | h <;> (rw [h] at hk; cases hk); exact Nat.le_refl _); obtain ⟨A3, n3, c3, rfl, -⟩ := hX3.sl; clear hX3 hG3 ho3))
  go_ret
  exact ⟨HB3.out, g3, _, rfl, HX3.out, HO3.out⟩
end
end Go.Proofs.YtbpooaicmjkemaaGreatDoor

/-! The walk of the program's List. Conditions: the lengths. -/
namespace Go.Proofs.YtbpooaicmjkemaaGreatDoor
open Go.RowKit Go.Maps Go.Sort Go.Shelf
set_option linter.unusedVariables false
/-! ### names of a directory, by rising order -/
theorem lt_pre : ∀ (a : Tx) {x y : Tx}, a ++ x < a ++ y → x < y
  | [], x, y, h => h
  | c :: r, x, y, h => by
    have h : c :: (r ++ x) < c :: (r ++ y) := h
    rw [List.cons_lt_cons_iff] at h
    rcases h with h | ⟨-, h⟩
    · exact absurd h (by rw [UInt8.lt_iff_toNat_lt]; omega)
    · exact lt_pre r h
theorem path_of {p dir : Tx} (hs : hasSlash p = true) (hd : dirOf p = dir) : p = dir ++ [47] ++ nameOf p := by
  have := slash_at hs
  rw [hd] at this
  rw [List.append_assoc]
  exact this
theorem list_strict {d : Dk} {K : Nat} (hw : Wf d K) (dir : Tx) : (listM d dir).Pairwise (· < ·) := by
  unfold listM
  rw [List.pairwise_map]
  have h1 := (hw.sn.filter fun e => decide (dirOf e.1 = dir))
  refine h1.imp_of_mem fun {a b} ha hb hab => ?_
  obtain ⟨ha1, ha2⟩ := List.mem_filter.1 ha
  obtain ⟨hb1, hb2⟩ := List.mem_filter.1 hb
  have ea := path_of (may_slash (hw.mn a ha1)) (by simpa using ha2)
  have eb := path_of (may_slash (hw.mn b hb1)) (by simpa using hb2)
  rw [ea, eb] at hab
  exact lt_pre _ hab
theorem list_mem {d : Dk} {dir x : Tx} : x ∈ listM d dir ↔ ∃ e ∈ d.now, dirOf e.1 = dir ∧ nameOf e.1 = x := by
  unfold listM
  rw [List.mem_map]
  constructor
  · rintro ⟨e, he, rfl⟩
    obtain ⟨h1, h2⟩ := List.mem_filter.1 he
    exact ⟨e, h1, by simpa using h2, rfl⟩
  · rintro ⟨e, h1, h2, rfl⟩
    exact ⟨e, List.mem_filter.2 ⟨h1, by simpa using h2⟩, rfl⟩
theorem trim_name {dir p : Tx} (hs : hasSlash p = true) (hd : dirOf p = dir) (h : 47 ∉ dir) (h0 : dir ≠ []) : Lib.trimPrefix p (dir ++ [47]) = nameOf p := by
  unfold Lib.trimPrefix
  rw [pre_dir h h0, decide_eq_true hd, if_pos rfl]
  have e := path_of hs hd
  conv => lhs; rw [e]
  rw [List.drop_left]
def lsE (d : Dk) (dir : Tx) : Int := if d.off = true then 10 else if d.dirs.contains dir = false then 12 else 0
def lsM (d : Dk) (dir : Tx) : List Tx := if lsE d dir = 0 then listM d dir else []
def ListPost (w : World) (L : List Tx) (c : Int) (e : Ending) (w' : World) : Prop := Below w.heap.size w w' ∧ ∃ g v, e = .returned (.tuple #[v, .int .i64 c]) ∧ OwnX 1 w' g v (L.map stV) ∧ ∀ k, g = some k → w.heap.size ≤ k
/-- what has been gathered of a map -/
structure LsI (d : Dk) (dir : Tx) (left : Lit → Bool) (L : List Tx) : Prop where
  mem : ∀ x, x ∈ L ↔ ∃ e ∈ d.now, left (kL e.1) = false ∧ dirOf e.1 = dir ∧ nameOf e.1 = x
  nd : L.Nodup
theorem LsI.done {d : Dk} {K : Nat} (hw : Wf d K) {dir : Tx} {left : Lit → Bool} {L : List Tx} (h : LsI d dir left L) (hl : ∀ z, left z = false) : sortT L = listM d dir := by
  refine sortT_is h.nd (list_strict hw dir) fun x => ?_
  rw [list_mem, h.mem]
  exact ⟨fun ⟨e, h1, h2, h3⟩ => ⟨e, h1, hl _, h2, h3⟩, fun ⟨e, h1, _, h2, h3⟩ => ⟨e, h1, h2, h3⟩⟩
section
variable {d : Dk} {K : Nat} {dir p : Tx} {left : Lit → Bool} {L : List Tx} {j : Nat}
theorem strike_iff (q : Tx) : (left (kL q) && !(kL q).sameKey (kL p)) = false ↔ left (kL q) = false ∨ q = p := by
  rw [Bool.and_eq_false_iff]
  constructor
  · rintro (h | h)
    · exact .inl h
    · exact .inr (kL_inj (WideAt.sameKey_eq (by simpa using h)))
  · rintro (h | rfl)
    · exact .inl h
    · exact .inr (by rw [WideAt.sameKey_self (kL_key q)]; rfl)
theorem LsI.no (h : LsI d dir left L) (hp : dirOf p ≠ dir) : LsI d dir (fun z => left z && !z.sameKey (kL p)) L := by
  refine ⟨fun x => ?_, h.nd⟩
  rw [h.mem]
  constructor
  · rintro ⟨e, h1, h2, h3, h4⟩
    exact ⟨e, h1, (strike_iff _).2 (.inl h2), h3, h4⟩
  · rintro ⟨e, h1, h2, h3, h4⟩
    rcases (strike_iff _).1 h2 with h2 | h2
    · exact ⟨e, h1, h2, h3, h4⟩
    · exact absurd h3 (by rw [h2]; exact hp)
theorem LsI.yes (hw : Wf d K) (h : LsI d dir left L) (hg : getE d.now p = some j) (hl : left (kL p) = true) (hp : dirOf p = dir) : LsI d dir (fun z => left z && !z.sameKey (kL p)) (L ++ [nameOf p]) := by
  have hpm := getE_some hg
  refine ⟨fun x => ?_, ?_⟩
  · rw [List.mem_append, List.mem_singleton, h.mem]
    constructor
    · rintro (⟨e, h1, h2, h3, h4⟩ | rfl)
      · exact ⟨e, h1, (strike_iff _).2 (.inl h2), h3, h4⟩
      · exact ⟨_, hpm, (strike_iff _).2 (.inr rfl), hp, rfl⟩
    · rintro ⟨e, h1, h2, h3, h4⟩
      rcases (strike_iff _).1 h2 with h2 | h2
      · exact .inl ⟨e, h1, h2, h3, h4⟩
      · exact .inr (by rw [← h4, h2])
  · rw [List.nodup_append]
    refine ⟨h.nd, List.pairwise_singleton _ _, fun a ha b hb => ?_⟩
    obtain rfl := List.mem_singleton.1 hb
    intro e
    subst e
    obtain ⟨e, h1, h2, h3, h4⟩ := (h.mem _).1 ha
    have ea := path_of (may_slash (hw.mn e h1)) h3
    have eb := path_of (may_slash (hw.mn _ hpm)) hp
    have : e.1 = p := by rw [ea, h4]; exact eb.symm
    rw [this, hl] at h2
    cases h2
end
theorem infoS : ∃ i, Tryz.prog.info? 9 = some i ∧ i.zero = some (.string ⟨#[]⟩) ∧ i.size = 1 ∧ i.bytes = 16 := by
  obtain ⟨i, h1, h2, h3, h4⟩ := info_parts (show (Tryz.prog.info? 9).map (fun i => (i.zero, i.size, i.bytes)) = some (some (.string ⟨#[]⟩), 1, 16) by kernel_rfl)
  exact ⟨i, h1, h2, h3, h4⟩
set_option maxRecDepth 100000 in
set_option maxHeartbeats 4000000 in
theorem list_walk {z db K : Nat} {w : World} {own : Nat → Nat × Nat} {d : Dk} {q : DParts} (h : DSt z w own db d q) (hw : Wf d K) (hK : K ≤ 100000) (dir : Tx) (hp : dir.length ≤ maxLen) :
    Calls Tryz.prog 69 #[ptrV db, .string (bs dir)] w (ListPost w (lsM d dir) (lsE d dir)) := by
  have k7 : w.cell? ⟨db, 7, none⟩ = some (.bool d.off) := h.blk.cell 7
  cases ho : d.off with
  | true =>
    have E : Hid (lsE d dir = 10 ∧ lsM d dir = []) := Lib.hid (by unfold lsM lsE; rw [if_pos ho]; exact ⟨rfl, rfl⟩)
    rw [ho] at k7
    clear h hw hp ho
    unfold ptrV
    go_enter Tryz.func69, Tryz.ntmps69
    go_wp2_with fail
    go_ret2
    rw [E.out.1, E.out.2]
    exact ⟨Below.refl _ _, none, _, rfl, OwnX.nil _ none, fun k e => by cases e⟩
  | false =>
    rw [ho] at k7
    obtain ⟨Ad, cd, ed, hd1, hd2, hr⟩ := h.rest.dirs.sx
    have k2 : w.cell? ⟨db, 2, none⟩ = some (.slice Ad d.dirs.length cd) := by rw [← ed]; exact h.blk.cell 2
    have KC := Lib.hid (contains_walk w Ad _ cd d.dirs dir hr rfl (by unfold maxLen at hd2; omega))
    cases hg : d.dirs.contains dir with
    | false =>
      have E : Hid (lsE d dir = 12 ∧ lsM d dir = []) := Lib.hid (by unfold lsM lsE; rw [if_neg (by rw [ho]; decide), if_pos hg]; exact ⟨rfl, rfl⟩)
      rw [hg] at KC
      clear h hw hp ho hg ed hd1 hd2 hr
      unfold ptrV
      go_enter Tryz.func69, Tryz.ntmps69
      go_wp2_with fail
      refine KC.out.mono ?_
      rintro e w1 ⟨rfl, rfl⟩
      go_wp2_with fail
      go_ret2
      rw [E.out.1, E.out.2]
      exact ⟨Below.refl _ _, none, _, rfl, OwnX.nil _ none, fun k e => by cases e⟩
    | true =>
      have E : Hid (lsE d dir = 0 ∧ lsM d dir = listM d dir) := Lib.hid (by unfold lsM lsE; rw [if_neg (by rw [ho]; decide), if_neg (by rw [hg]; decide)]; exact ⟨rfl, rfl⟩)
      rw [hg] at KC
      have hnd : 47 ∉ dir ∧ dir ≠ [] ∧ dir.length ≤ 32 := by
        have h1 := hw.dn dir (by simpa using hg)
        have h2 := name_size h1
        exact ⟨name_noslash h1, fun e => by rw [e] at h2; simp at h2, h2.2⟩
      have HDR := Lib.hid hnd
      have k4 : w.cell? ⟨db, 4, none⟩ = some (.map (some q.mn)) := h.blk.cell 4
      have HO := Lib.hid h.rest.on
      have HE := Lib.hid (fun (p : Tx) (c : Option Nat) (kl : Lit) (y : DataW Unit × List MemPlace) => ent_of (p := p) (c := c) (kl := kl) (y := y) h.rest.en (fun e he => by rw [h.rest.len]; exact hw.iln e he))
      have HW := Lib.hid hw
      have HAS : Hid (∀ e ∈ d.now, Maps.has q.Dn (kL e.1) = true) := Lib.hid fun e he => by
        have hl : e.1.length ≤ maxLen := Nat.le_trans (hw.size (hw.mn e he)) (by unfold maxLen; omega)
        have hi := hw.iln e he
        exact (h.rest.en.ya e.1 e.2 _ hl ((getE_mem hw.sn).2 he) (List.getElem?_eq_getElem (by rw [h.rest.len]; exact hi))).1
      have HSZ : Hid (Maps.size q.Dn ≤ 100000) := Lib.hid (by rw [h.rest.en.sz]; have := hw.cpn; have := hw.nk; omega)
      have ea : Hid ((bs dir) ++ (⟨#[47]⟩ : ByteArray) = bs (dir ++ [47])) := Lib.hid (bs_app dir [47])
      have eaa := ea.out
      have hsz : (bs dir).size ≤ 32 := by rw [bs_size]; exact hnd.2.2
      have KP : Hid (∀ (p : Tx) (W : World), Calls Tryz.prog 105 #[.string (bs p), .string (bs (dir ++ [47]))] W fun e w' => e = .returned (.tuple #[.string (bs (Lib.trimPrefix p (dir ++ [47]))), .bool (decide (dirOf p = dir))]) ∧ w' = W) := Lib.hid fun p W => by
        have := Tryz.strings_CutPrefix (bs p) (bs (dir ++ [47])) W
        rw [bs_list, bs_list, pre_dir hnd.1 hnd.2.1] at this
        exact this
      obtain ⟨iS, hiS, hzS, hsS, hbS⟩ := infoS
      clear h hw hp ho hg ed hd1 hd2 hr ea hnd
      unfold ptrV
      go_enter Tryz.func69, Tryz.ntmps69
      go_wp2_with fail
      refine KC.out.mono ?_
      rintro e w1 ⟨rfl, rfl⟩
      go_wp2_with (at_range; refine wpList_range_own _ rfl _ 65 rfl 9 70 lawS Tryz.underlying65 ptrElem q.mn q.nn q.Dn rfl HO.out ?_; intro w0 hrg0 hg0 hs0)
      go_frame
      have HR0 := Lib.hid hrg0
      have HB0' : Hid (Below w1.heap.size w1 w0) := Lib.hid ⟨hg0.os, hg0.tape, hg0.output, hg0.size, fun k hk => hg0.block k hk (by simp)⟩
      clear hrg0 hg0 hs0 k4 k2 k7 KC
      go_loopg [6, 7, 28] (Maps.size q.Dn) (fun k s6 s7 s28 wr => ∃ (left : Lit → Bool) (L : List Tx), Hid (wr.ranges Tryz.prog 9 ptrElem q.mn w1.heap.size q.nn q.Dn left k) ∧ Hid (Below w1.heap.size w1 wr) ∧ Hid (wr.ownsRow w1.heap.size 9 1 s6 L.length (L.map encStr)) ∧ Hid (LsI d dir left L) ∧ Hid (∀ z, left z = true → Maps.has q.Dn z = true) ∧ L.length + k ≤ Maps.size q.Dn)
      case atStart =>
        refine ⟨Maps.has q.Dn, [], HR0, HB0', Lib.hid ⟨rfl, .inl ⟨rfl, rfl⟩⟩, Lib.hid ⟨fun x => ?_, List.nodup_nil⟩, Lib.hid fun z h => h, by simp⟩
        constructor
        · intro h; cases h
        · rintro ⟨e, h1, h2, -⟩
          rw [HAS.out e h1] at h2
          cases h2
      case round =>
        obtain ⟨left, L, HR, HB, HV, HI, HL, hlen⟩ := hrel
        clear HR0 HB0'
        go_wp2_with (at_next; refine wpList_next_ranges _ rfl _ rfl 9 lawS ptrElem stV mkP inv_mkS inv_mkP q.mn w1.heap.size q.nn q.Dn left gk rfl HR.out ?_ ?_)
        · intro hc0 hl0
          have HS : Hid (sortT L = listM d dir) := Lib.hid (HI.out.done HW.out hl0)
          clear hc0 hl0
          have HB9 : Hid (Below w1.heap.size w1 wr) := HB
          rcases HV.out.2 with ⟨rfl, hz⟩ | ⟨gb, cap, cur, rfl, hbase, hgb, r1, r2, r3, r4⟩
          · have hL : L = [] := List.eq_nil_of_length_eq_zero hz
            have KS := Lib.hid (AnyM.slices_Sort_string_none Tryz.sortV none 0 wr)
            go_wp2_with fail
            refine KS.out.mono ?_
            rintro e w3 ⟨rfl, rfl⟩
            go_wp2_with fail
            go_ret2
            rw [E.out.1, E.out.2, ← HS.out, hL]
            refine ⟨HB9.out, none, .slice none 0 0, rfl, ?_, fun k e => by cases e⟩
            have : sortT [] = [] := by simp [sortT]
            rw [this]
            exact OwnX.nil _ none
          · have hH : Holds encStr wr gb 0 L.toArray := holds_of_block hgb (by simpa using r4)
            have hgl : gb < wr.heap.size := (Array.getElem?_eq_some_iff.1 hgb).1
            have KS := Lib.hid (AnyM.slices_Sort_string Tryz.sortV gb 0 cap L wr hH hgl (by have := HSZ.out; omega))
            have HQ := Lib.hid (⟨hbase, hgb, r1, r2, r3⟩ : w1.heap.size ≤ gb ∧ wr.heap[gb]? = some (.cells cur 9 (0, 0)) ∧ L.length ≤ cap ∧ cap ≤ maxLen ∧ cur.size = cap * 1)
            clear hbase hgb r1 r2 r3 r4 hH hgl
            go_wp2_with fail
            refine KS.out.mono ?_
            rintro e w3 ⟨rfl, nn, os, rfl⟩
            go_wp2_with fail
            go_ret2
            obtain ⟨o1, o2, o3, o4, o5⟩ := HQ.out
            have hrow := @ownsRow_sorted wr w1.heap.size gb cap nn 9 os cur L (sortT L) (by simp [sortT]) o1 o2 o3 o4 o5
            obtain ⟨g, hg1, hg2⟩ := rowX_of hrow
            rw [E.out.1, E.out.2, ← HS.out]
            exact ⟨HB9.out.grown (grownBy_sorted _) HB9.out.size (fun j hj => by cases hj; exact o1), g, _, rfl, hg1, hg2⟩
        · intro p c kl y1 y2 w2 cnt1 hkey hlk hv hat hrg1 hlt hg1 hs1 hen
          obtain ⟨j, bj, hgj, hbj, rfl, rfl, hpl⟩ := HE.out p c kl (y1, y2) hkey (HL.out _ hlk) hv hat
          have HB1 : Hid (Below w1.heap.size w1 w2) := Lib.hid (HB.out.grown hg1 HB.out.size (fun k hk => by cases hk; exact Nat.le_refl _))
          have HR1 := Lib.hid hrg1
          have HLT := Lib.hid hlt
          have HV1 := Lib.hid (HV.out.kept hg1 (.inr fun e => row_ne_iter HV.out HR.out e.symm))
          have HL1 : Hid (∀ z, (left z && !z.sameKey (kL p)) = true → Maps.has q.Dn z = true) := Lib.hid fun z h => HL.out z (by simp only [Bool.and_eq_true] at h; exact h.1)
          have KPp := Lib.hid (KP.out p w2)
          have hpm := hpl
          dsimp only [mkP] at hen ⊢
          by_cases hdp : dirOf p = dir
          · have HI1 := Lib.hid (HI.out.yes HW.out hgj hlk hdp)
            rw [trim_name (may_slash (HW.out.mn _ (getE_some hgj))) hdp HDR.out.1 HDR.out.2.1, decide_eq_true hdp] at KPp
            have HMN : Hid (q.mn < w1.heap.size) := Lib.hid HO.out.lt
            have hs2 := HSZ.out
            clear hkey hlk hv hat hrg1 hlt hg1 hs1 hgj hbj hpl hdp hpm HR HB HV HI HL KP
            unfold stV at *
            go_wp2_with fail
            refine KPp.out.mono ?_
            rintro e w3 ⟨rfl, rfl⟩
            have HVa := Lib.hid (HV1.out.alloc (.cells #[.string (bs (nameOf p))] 9))
            have hlm : L.length ≤ 100000 := by omega
            have hb1s := HB1.out.size
            go_wp2_with (at_builtin; refine wpList_append_own_at _ rfl (.tmp 40) (.tmp 42) 32 rfl w1.heap.size 9 iS (.string ⟨#[]⟩) 1 16 Tryz.underlying32 hiS hzS hsS hbS rfl (by decide) _ L.length (L.map encStr) rfl HVa.out ⟨w3.heap.size, 0, none⟩ 1 1 [.string (bs (nameOf p))] rfl rfl (cell_one_new _ _ _) (by simp [Value.oneCell']) (by unfold maxLen; omega) (by omega) (by simp; omega) ?_; intro v4 w4 hown4 hg4 hnil4 hob4)
            have HR4 : Hid (w4.ranges Tryz.prog 9 ptrElem q.mn w1.heap.size q.nn q.Dn (fun z => left z && !z.sameKey (kL p)) cnt1) := Lib.hid ((HR1.out.alloc _).kept hg4 (row_ne_low HVa.out HMN.out) (row_ne_iter HVa.out (HR1.out.alloc _)))
            have HB4 : Hid (Below w1.heap.size w1 w4) := Lib.hid ((HB1.out.alloc HB1.out.size _).grown hg4 (by have := HB1.out.size; simp; omega) (fun k hk => (HVa.out.lt k hk).1))
            have HV4 : Hid (w4.ownsRow w1.heap.size 9 1 v4 (L ++ [nameOf p]).length ((L ++ [nameOf p]).map encStr)) := Lib.hid (by rw [List.length_append, List.map_append]; exact hown4)
            clear hown4 hg4 hnil4 hob4
            go_wp2_with fail
            go_roundg cnt1
            case rel => exact ⟨_, L ++ [nameOf p], HR4, HB4, HV4, HI1, HL1, by rw [List.length_append]; have := HLT.out; simp; omega⟩
            case measure => exact HLT.out
          · have HI1 := Lib.hid (HI.out.no (p := p) hdp)
            rw [decide_eq_false hdp] at KPp
            clear hkey hlk hv hat hrg1 hlt hg1 hs1 hgj hbj hpl hdp hpm HR HB HV HI HL KP
            unfold stV at *
            go_wp2_with fail
            refine KPp.out.mono ?_
            rintro e w3 ⟨rfl, rfl⟩
            go_wp2_with fail
            go_roundg cnt1
            case rel => exact ⟨_, L, HR1, HB1, HV1, HI1, HL1, by have := HLT.out; omega⟩
            case measure => exact HLT.out
end Go.Proofs.YtbpooaicmjkemaaGreatDoor
