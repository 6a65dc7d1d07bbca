/-
  Several texts in one (merge.py): SfRead, SfWait. Conditions: each part names its own.
-/
import Derived.Test.YtbpooaicmjkemaaGreatDoorRun5
/-! The walks of the program's Read, Dirs, waiting. Conditions: the lengths. -/
namespace Go.Proofs.YtbpooaicmjkemaaGreatDoor
open Go.RowKit Go.Maps
set_option linter.unusedVariables false
theorem OwnQ.clip {w : World} {base n c : Nat} {g : Option Nat} {A : Option Addr} {l : Tx} (h : OwnQ w base g (.slice A n c) l) : ∃ g', OwnQ w base g' (.slice A n n) l := by
  obtain ⟨A', c', e, h1, h2, h3⟩ := h
  injection e with e1 e2 e3
  subst e1 e2 e3
  rcases Nat.eq_zero_or_pos l.length with h0 | h0
  · exact ⟨none, A, l.length, rfl, Nat.le_refl _, by omega, .inl ⟨h0, rfl⟩⟩
  · rcases h3 with ⟨h3, -⟩ | ⟨g', off, rfl, rfl, hb, hl, hc, hf⟩
    · omega
    · exact ⟨some g', _, _, rfl, Nat.le_refl _, by omega, .inr ⟨g', off, rfl, rfl, hb, hl, hc, fun i hi => hf i (by omega)⟩⟩
def readM (d : Dk) (p : Tx) : Tx := if missM d p = 0 then (nodeM d (fileM d p)).now else []
def ReadPost (w : World) (l : Tx) (c : Int) (e : Ending) (w' : World) : Prop :=
  Below w.heap.size w w' ∧ ∃ g A, e = .returned (.tuple #[.slice A l.length l.length, .int .i64 c]) ∧ OwnQ w' w.heap.size g (.slice A l.length l.length) l
theorem read_walk {z : Nat} {w : World} {own : Nat → Nat × Nat} {db : Nat} {d : Dk} {q : DParts} (h : DSt z w own db d q) {K : Nat} (hw : Wf d K) (p : Tx) (hp : p.length ≤ maxLen) :
    Calls Tryz.prog 22 #[ptrV db, .string (bs p)] w (ReadPost w (readM d p) (missM d p)) := by
  have KF := Lib.hid (find_walk z w own db d q h hw p hp)
  by_cases hm : missM d p = 0
  · obtain ⟨i, b, x, e3, e4, hb, hx, hn, -, hF⟩ := found_at h hw hm
    obtain ⟨-, vn, gn, vl, gl, vw, gw, vs, hB, hO, -⟩ := hF
    have hR := hO.out
    have hxl := (hw.node i).ln
    rw [hn] at hxl
    obtain ⟨A, c, rfl, hc1, hc2, hcx⟩ := hO
    have HR := Lib.hid (RB.of_out' hR rfl)
    have hA0 : A = none → x.now.length = 0 := fun e => by
      rcases hcx with ⟨h0, -⟩ | ⟨g, o, -, h0, -⟩
      · omega
      · rw [e] at h0; cases h0
    have HA0 := Lib.hid hA0
    have k0 : w.cell? ⟨b, 0, none⟩ = some (.slice A x.now.length c) := hB.cell 0
    have e2 : findV d q.bl p = .pointer (some ⟨b, 0, none⟩) := by unfold findV; rw [if_pos hm, e4, hb]; rfl
    have e5 : readM d p = x.now := by unfold readM; rw [if_pos hm, e4, hn]
    rw [e2, hm] at KF
    rw [e5, hm]
    clear h hw hp hm e2 e3 e4 e5 hb hx hn hB hR hcx hA0 hc1 hc2
    unfold ptrV at *
    go_enter Tryz.func22, Tryz.ntmps22
    go_wp2_with fail
    refine KF.out.mono ?_
    rintro e w1 ⟨rfl, rfl⟩
    go_wp2_with fail
    refine (clone_walk _ A x.now x.now.length c rfl HR.out HA0.out (by omega)).mono ?_
    rintro e w2 ⟨hb2, g2, v2, rfl, hO2⟩
    have HB2 := Lib.hid hb2
    have HV2 := Lib.hid hO2
    obtain ⟨A2, c2, rfl, hc2, hm2, -⟩ := hO2
    clear hb2 k0 KF
    have KC := Lib.hid (clip_walk w2 A2 x.now.length c2 hc2 hm2)
    clear hc2 hm2
    go_wp2_with fail
    refine KC.out.mono ?_
    rintro e w3 ⟨rfl, rfl⟩
    go_wp2_with fail
    go_ret2
    obtain ⟨g', hg'⟩ := HV2.out.clip
    exact ⟨HB2.out, g', A2, rfl, hg'⟩
  · have e2 : findV d q.bl p = .pointer none := by unfold findV; rw [if_neg hm]
    have e5 : readM d p = [] := by unfold readM; rw [if_neg hm]
    have hm2 : (missM d p != 0) = true := by simpa using hm
    rw [e2] at KF
    rw [e5]
    clear h hw hp e2 e5 hm
    generalize missM d p = m at *
    unfold ptrV at *
    go_enter Tryz.func22, Tryz.ntmps22
    go_wp2_with fail
    refine KF.out.mono ?_
    rintro e w1 ⟨rfl, rfl⟩
    go_wp2_with fail
    go_ret2
    exact ⟨Below.refl _ _, none, none, rfl, OwnQ.nil _ _ none⟩
/-! ### names -/
theorem uxS : UX Tryz.prog 32 9 1 := by
  obtain ⟨i, h1, h2, h3, h4⟩ := info_parts (show (Tryz.prog.info? 9).map (fun i => (i.zero, i.size, i.bytes)) = some (some (.string ⟨#[]⟩), 1, 16) by kernel_rfl)
  exact ⟨Tryz.underlying32, ⟨i, _, h1, h2, rfl, h3, by omega⟩, by omega⟩
def stV (p : Tx) : Value := .string (bs p)
theorem oneS (L : List Tx) : ∀ u ∈ L.map stV, u.oneCell' = true := fun u hu => by
  obtain ⟨s, _, rfl⟩ := List.mem_map.1 hu
  rfl
theorem RSx.news {w : World} {A : Option Addr} {L : List Tx} (h : RSx w A L) : ∀ ad, A = some ad → ∀ j u, (L.map stV)[j]? = some u → w.cell? (ad.add j) = some u := by
  intro ad e j u hu
  rw [List.getElem?_map] at hu
  obtain ⟨l, hl, rfl⟩ := Option.map_eq_some_iff.1 hu
  rcases h with rfl | ⟨b, off, rfl, -, hc⟩
  · simp at hl
  · cases e
    rw [Addr.add_lit]
    exact hc j l hl
/-- a row of names of its own, in new memory -/
def RowPost (w : World) (L : List Tx) (e : Ending) (w' : World) : Prop :=
  Below w.heap.size w w' ∧ ∃ g v, e = .returned v ∧ OwnX 1 w' g v (L.map stV) ∧ ∀ k, g = some k → w.heap.size ≤ k
theorem sclone_walk (w : World) (A : Option Addr) (n c : Nat) (L : List Tx) (hn : n = L.length) (hr : RSx w A L) (hA : A = none → n = 0) (hl : n ≤ 1000000) :
    Calls Tryz.prog 31 #[.slice A n c] w (RowPost w L) := by
  rcases A with _ | ad
  · obtain rfl : n = 0 := hA rfl
    obtain rfl : L = [] := List.eq_nil_of_length_eq_zero hn.symm
    have he := fun w => Lib.run_eql_slice_nil (P := Tryz.prog) w 32 9 none 0 c 0 0 Tryz.underlying32
    clear hn hA hl hr
    go_enter Tryz.func31, Tryz.ntmps31
    go_wp2
    go_ret
    exact ⟨Below.refl _ _, none, _, rfl, OwnX.nil _ none, fun k hk => by cases hk⟩
  · have HR := Lib.hid hr
    have HN := Lib.hid hn
    have he := fun w => Lib.run_eql_slice_nil (P := Tryz.prog) w 32 9 (some ad) n c 0 0 Tryz.underlying32
    have hba := (Below.refl w.heap.size w).alloc (Nat.le_refl _) (.cells #[] 9)
    have HBa := Lib.hid hba
    clear hr hn hA hba
    go_enter Tryz.func31, Tryz.ntmps31
    go_wp2_with (at_builtin; refine wpList_appX _ uxS (.tmp 5) (.tmp 6) rfl rfl rfl (OwnX.nil _ (some ⟨w.heap.size, 0, none⟩)) (some ad) n c rfl (L.map stV) (by rw [List.length_map, Nat.mul_one]; exact HN.out.symm) (fun h => by cases h) (HR.out.below HBa.out).news (oneS L) (by simp; omega) ?_; intro v2 g2 w2 hX2 hg2 ho2; rw [List.nil_append] at hX2; have HX2 := Lib.hid hX2; have HB2 := Lib.hid (belowX HBa.out hg2 (fun k hk => by cases hk) (by simp)); have Ho2 := Lib.hid ho2; obtain ⟨A2, n2, c2, rfl, -⟩ := hX2.sl; clear hX2 hg2 ho2)
    go_ret
    refine ⟨HB2.out, g2, _, rfl, HX2.out, fun k hk => ?_⟩
    rcases Ho2.out with h | h
    · rw [h] at hk; cases hk
    · rw [h] at hk; injection hk with hk; simp at hk; omega
theorem sclip_walk (w : World) (A : Option Addr) (n c : Nat) (hc : n ≤ c) (hm : c ≤ maxLen) :
    Calls Tryz.prog 77 #[.slice A n c] w fun e w' => e = .returned (.slice A n n) ∧ w' = w := by
  unfold maxLen at hm
  have h1 : (n : Int) ≤ (c : Int) := by omega
  go_enter Tryz.func77, Tryz.ntmps77
  go_wp2
  go_ret
  exact ⟨rfl, rfl⟩
theorem OwnX.clip {w : World} {g : Option Nat} {A : Option Addr} {n c : Nat} {xs : List Value} (h : OwnX 1 w g (.slice A n c) xs) : ∃ g', OwnX 1 w g' (.slice A n n) xs ∧ ∀ k, g' = some k → g = some k := by
  obtain ⟨e1, e2, e3⟩ := h.form
  rcases Nat.eq_zero_or_pos n with h0 | h0
  · subst h0
    obtain rfl : xs = [] := List.eq_nil_of_length_eq_zero (by omega)
    exact ⟨none, OwnX.nil _ A, fun k hk => by cases hk⟩
  · obtain ⟨b, off, rfl, rfl, hl, hc, hf⟩ := h.at_ (by omega)
    exact ⟨some b, ⟨_, n, n, rfl, e1, Nat.le_refl _, by omega, .inr ⟨b, off, rfl, rfl, hl, hc, fun i hi => hf i (by omega)⟩⟩, fun k hk => hk⟩
theorem dirs_walk {z : Nat} {w : World} {own : Nat → Nat × Nat} {db : Nat} {d : Dk} {q : DParts} (h : DSt z w own db d q) (hl : d.dirs.length ≤ 16) (h0 : 0 < d.dirs.length) :
    Calls Tryz.prog 24 #[ptrV db] w (RowPost w d.dirs) := by
  obtain ⟨A, c, e, hc, hm, hr⟩ := h.rest.dirs.sx
  have k2 : w.cell? ⟨db, 2, none⟩ = some (.slice A d.dirs.length c) := by rw [← e]; exact h.blk.cell 2
  have hA : A = none → d.dirs.length = 0 := fun e => by
    rcases hr with hr | ⟨b, off, hr, -⟩
    · rw [hr]; rfl
    · rw [e] at hr; cases hr
  have KC := Lib.hid (sclone_walk w A d.dirs.length c d.dirs rfl hr hA (by omega))
  unfold ptrV
  clear h e hc hm hr hA
  generalize d.dirs = L at *
  go_enter Tryz.func24, Tryz.ntmps24
  go_wp2_with fail
  refine KC.out.mono ?_
  rintro e w2 ⟨hb2, g2, v2, rfl, hX2, hg2⟩
  have HB2 := Lib.hid hb2
  have HX2 := Lib.hid hX2
  have HG2 := Lib.hid hg2
  obtain ⟨A2, n2, c2, rfl, -, hc2, hm2⟩ := hX2.sl
  have KP := Lib.hid (sclip_walk w2 A2 n2 c2 hc2 hm2)
  clear hb2 hX2 hg2 hc2 hm2 k2
  go_wp2_with fail
  refine KP.out.mono ?_
  rintro e w3 ⟨rfl, rfl⟩
  go_wp2_with fail
  go_ret
  obtain ⟨g', h1, h2⟩ := HX2.out.clip
  exact ⟨HB2.out, g', _, rfl, h1, fun k hk => HG2.out k (h2 k hk)⟩
end Go.Proofs.YtbpooaicmjkemaaGreatDoor

/-! The walk of a file's waiting. Conditions: the lengths. -/
namespace Go.Proofs.YtbpooaicmjkemaaGreatDoor
open Go.RowKit Go.Maps
set_option linter.unusedVariables false
def lensW (ws : List Wr) : Nat := (ws.map fun w => w.b.length).sum
theorem lensW_snoc {ws : List Wr} {j : Nat} {x : Wr} (h : ws[j]? = some x) : lensW (ws.take (j + 1)) = lensW (ws.take j) + x.b.length := by
  obtain ⟨hj, rfl⟩ := List.getElem?_eq_some_iff.1 h
  unfold lensW
  rw [List.take_succ_eq_append_getElem hj, List.map_append, List.sum_append]
  simp only [List.map_cons, List.map_nil, List.sum_cons, List.sum_nil, Nat.add_zero]
theorem lensW_le {ws : List Wr} (h : ∀ w ∈ ws, w.b.length ≤ 67108864) : lensW ws ≤ ws.length * 67108864 := by
  induction ws with
  | nil => simp [lensW]
  | cons x r ih =>
    have h1 := ih fun w hw => h w (List.mem_cons_of_mem _ hw)
    have h2 := h x List.mem_cons_self
    unfold lensW at h1 ⊢
    simp only [List.map_cons, List.sum_cons, List.length_cons]
    omega
/-- write j as it lies in memory -/
theorem wr_at {w : World} {own : Nat → Nat × Nat} {g : Option Nat} {A : Option Addr} {n c : Nat} {vs : List Value} {ws : List Wr} (h : OwnX 2 w g (.slice A n c) (wrRow vs ws).flatten) (hv : WrsV w own vs ws) :
    n = ws.length ∧ n ≤ c ∧ c ≤ maxLen ∧ ∀ (j : Nat) (x : Wr), ws[j]? = some x → ∃ b off Ab cb, g = some b ∧ A = some ⟨b, off, none⟩ ∧ b < w.heap.size ∧ w.cell? ⟨b, off + j * 2, none⟩ = some (.int .i64 x.at_) ∧ w.cell? ⟨b, off + j * 2 + 1, none⟩ = some (.slice Ab x.b.length cb) ∧ FzV w own (.slice Ab x.b.length cb) x.b := by
  obtain ⟨e1, e2, e3⟩ := h.count (by decide) (wrRow_all vs ws)
  rw [wrRow_len hv.1] at e1
  refine ⟨e1, e2, e3, fun j x hx => ?_⟩
  have hj := (List.getElem?_eq_some_iff.1 hx).1
  obtain ⟨v, hvj⟩ : ∃ v, vs[j]? = some v := ⟨_, List.getElem?_eq_getElem (by rw [hv.1]; exact hj)⟩
  obtain ⟨-, -, -, -, b, off, rfl, rfl, hlt, hc⟩ := h.elem (by decide) (wrRow_all vs ws) (wrRow_at hvj hx)
  have hz := hv.2 j v x hvj hx
  obtain ⟨Ab, cb, rfl, hz1⟩ := hz
  exact ⟨b, off, Ab, cb, rfl, rfl, hlt, (hc 0 (by decide)).1, (hc 1 (by decide)).1, Ab, cb, rfl, hz1⟩
set_option maxHeartbeats 1000000 in
theorem waiting_walk {z i b K : Nat} {w : World} {own : Nat → Nat × Nat} {x : Nd} (h : FSt z w own i b x) (hk : NdOk x K) (hK : K ≤ 100000) :
    Calls Tryz.prog 44 #[ptrV b] w fun e w' => Below w.heap.size w w' ∧ e = .returned (.int .i64 (waitN x : Int)) := by
  obtain ⟨-, vn, gn, vl, gl, vw, gw, vs, hB, -, -, hW, hV, -⟩ := h
  obtain ⟨A, n, c, rfl, -⟩ := hW.sl
  obtain ⟨hn, hc, hm, hat⟩ := wr_at hW hV
  have k2 : w.cell? ⟨b, 2, none⟩ = some (.slice A n c) := hB.cell 2
  have HAT := Lib.hid hat
  have HN := Lib.hid hn
  have hKn : n ≤ 100000 := by have := hk.lw; omega
  have HLE : Hid (∀ j, lensW (x.waits.take j) ≤ 6710886400000) := Lib.hid fun j => by
    have h1 := lensW_le (ws := x.waits.take j) fun w hw => hk.lb w (List.mem_of_mem_take hw)
    have h2 := hk.lw
    have h3 : (x.waits.take j).length ≤ 100000 := by rw [List.length_take]; omega
    have := Nat.mul_le_mul_right 67108864 h3
    omega
  have HF : Hid (lensW (x.waits.take n) = waitN x) := Lib.hid (by rw [hn, List.take_length]; rfl)
  unfold ptrV
  clear hB hW hV hn hat hk hc hm
  go_enter Tryz.func44, Tryz.ntmps44
  go_wp2_with fail
  go_loopg [3, 5, 11] n (fun k s3 s5 s11 wr => ∃ j : Nat, s11 = .int .i64 (j : Int) ∧ s3 = .int .i64 (lensW (x.waits.take j) : Int) ∧ j + k = n ∧ Hid (Below w.heap.size w wr))
  case atStart => exact ⟨0, rfl, rfl, by omega, Lib.hid (Below.refl _ _)⟩
  case round =>
    obtain ⟨j, rfl, rfl, hj, HB⟩ := hrel
    by_cases hlt : j < n
    · have hlt1 : (j : Int) < (n : Int) := by omega
      obtain ⟨y, hy⟩ : ∃ y, x.waits[j]? = some y := ⟨_, List.getElem?_eq_getElem (by rw [← HN.out]; exact hlt)⟩
      obtain ⟨bb, off, Ab, cb, -, rfl, hbl, c0, c1, -⟩ := HAT.out j y hy
      have q0 := (HB.out.cell (p := ⟨bb, off + j * 2, none⟩) hbl).trans c0
      have q1 := (HB.out.cell (p := ⟨bb, off + j * 2 + 1, none⟩) hbl).trans c1
      have HS := Lib.hid (lensW_snoc hy)
      have b1 := HLE.out j
      have b2 := HLE.out (j + 1)
      have b3 : lensW (x.waits.take j) + y.b.length ≤ 6710886400000 := by rw [← HS.out]; exact b2
      clear b2 c0 c1 hy hbl
      generalize lensW (x.waits.take j) = s at *
      generalize y.b.length = yl at *
      go_wp2_with fail
      all_goals
        go_roundg (gk - 1)
        case rel => exact ⟨j + 1, by go_num, by rw [HS.out]; go_num, by omega, Lib.hid (by first | exact HB.out | exact HB.out.alloc HB.out.size _ | exact (HB.out.alloc HB.out.size _).setCell HB.out.size _)⟩
        case measure => omega
    · have hlt1 : ¬ (j : Int) < (n : Int) := by omega
      obtain rfl : j = n := by omega
      go_wp2_with fail
      go_ret
      exact ⟨HB.out, by rw [HF.out]; rfl⟩
end Go.Proofs.YtbpooaicmjkemaaGreatDoor
