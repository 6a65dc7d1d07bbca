/-
  The walk of the program's SyncDir. Conditions: the lengths. (Printed by gen_syd.py from XSfSyD.src.)
-/
import Derived.Test.YtbpooaicmjkemaaGreatDoorRun9
import Derived.ScopeJumps
import Derived.Scope
import Derived.WalkMore
import Derived.BigQuiet
import Derived.Test.YtbpooaicmjkemaaGreatDoorLibAll
namespace Go.Proofs.YtbpooaicmjkemaaGreatDoor
open Go.RowKit Go.Maps
set_option linter.unusedVariables false
theorem scope_again {P : Program} {a : Act} {w : World} {Q : Exit → Act → World → Prop} {c rest : Code} (l : Nat) (J : Act → World → Prop) (μ : Act → World → Nat) (hf : findLabel c l = some (Code.skip.seq rest))
    (pass : ∀ a w, J a w → rest.wp P (Exit.jump l (fun a' w' => J a' w' ∧ μ a' w' < μ a w) Q) a w) (first : Hid (∀ a w, J a w → rest.wp P (Exit.jump l J Q) a w) → c.wp P (Exit.jump l J Q) a w) : (Code.scope c).wp P Q a w := by
  refine wp_scope_jumps l J μ hf (first (Lib.hid fun a w h => wp_mono (pass a w h) fun e a' w' hq => ?_)) fun a w h => ?_
  · cases e with
    | goto l' => exact ⟨hq.1, hq.2.1⟩
    | normal => exact hq
    | exit id => exact hq
    | ret => exact hq
    | panic ch => exact hq
    | outgrown => exact hq
  · have := pass a w h
    go_wp2
    exact this
def intV : Value → Int | .int _ x => x | _ => 0
/-- what holds at the label -/
structure SyR (z : Nat) (w : World) (own : Nat → Nat × Nat) (db : Nat) (d : Dk) (q : DParts) (dir : Tx) (n : Nat) (w0 w1 wr : World) (i : Nat) (L : List Bool) : Prop where
  b0 : Below w.heap.size w w0
  o1 : Only db w0 w1
  hd : DSt z w1 own db d q
  eb : Blk w1 w.heap.size 9 #[.string (bs dir)]
  b1 : Below w1.heap.size w1 wr
  bo : BoB wr w1.heap.size L
  li : i ≤ n
  ln : L.length = n
  ls : L.drop i = broughtM dir (d.waits.drop i)
theorem set_drop {α : Type} (v : α) : ∀ (L : List α) (i : Nat), i < L.length → (L.set i v).drop i = v :: L.drop (i + 1)
  | [], i, h => by simp at h
  | x :: r, 0, h => rfl
  | x :: r, i + 1, h => set_drop v r i (by simpa using h)
theorem syd_fin {z db n i : Nat} {w w0 w1 wr w2 : World} {own : Nat → Nat × Nat} {d d2 : Dk} {q : DParts} {dir : Tx} {L : List Bool} {e : Ending} (hm : own db = (10 * z + 1, 0)) (h : SyR z w own db d q dir n w0 w1 wr i L) (hp : EntPost z wr own db d2 e w2) : OpPost z w own db (d2, 0) (.returned (.int .i64 0)) w2 := by
  obtain ⟨own', hd, ht, he⟩ := hp
  have h1 : Turn (isD z) w1 w2 own own' := (Turn.of_below h.b1 fun _ _ => rfl).trans ht
  exact OpPost.ent2 hm h.b0 h.o1 ⟨own', hd, h1, he⟩
set_option maxRecDepth 100000 in
set_option maxHeartbeats 4000000 in
theorem syncDir_walk (z : Nat) (w : World) (own : Nat → Nat × Nat) (db : Nat) (d : Dk) (q : DParts) (h : DSt z w own db d q) {K : Nat} (hw : Wf d K) (hs : SwOk d K) (hK : K ≤ 10000) (dir : Tx) (hp : dir.length ≤ maxLen) :
    Calls Tryz.prog 11 #[ptrV db, .string (bs dir)] w (OpPost z w own db (syncDirM d dir)) := by
  have H := Lib.hid h
  have hbx := (Below.refl w.heap.size w).alloc (Nat.le_refl _) (.cells #[.string (bs dir)] 9)
  have HBX := Lib.hid hbx
  have HEB := Lib.hid (Blk.new w 9 #[.string (bs dir)])
  have k7 : (w.alloc (.cells #[.string (bs dir)] 9)).cell? ⟨db, 7, none⟩ = some (.bool d.off) := (h.blk.alloc _).cell 7
  obtain ⟨Ad, cd, ed, hd1, hd2, hr⟩ := h.rest.dirs.sx
  have k2 : (w.alloc (.cells #[.string (bs dir)] 9)).cell? ⟨db, 2, none⟩ = some (.slice Ad d.dirs.length cd) := by rw [← ed]; exact (h.blk.alloc _).cell 2
  have e0 : (w.alloc (.cells #[.string (bs dir)] 9)).cell? ⟨w.heap.size, 0, none⟩ = some (.string (bs dir)) := HEB.out.cell 0
  have KC : Hid (∀ n, Calls Tryz.prog 38 #[.slice Ad d.dirs.length cd, .string (bs dir)] ((w.alloc (.cells #[.string (bs dir)] 9)).drewN n) fun e w' => e = .returned (.bool (d.dirs.contains dir)) ∧ w' = (w.alloc (.cells #[.string (bs dir)] 9)).drewN n) := Lib.hid fun n =>
    contains_walk _ Ad _ cd d.dirs dir (show RSx (w.alloc (.cells #[.string (bs dir)] 9)) Ad d.dirs from hr.below hbx) rfl (by unfold maxLen at hd2; omega)
  have KS : Hid (∀ w1, Below w.heap.size w w1 → Calls Tryz.prog 33 #[ptrV db] w1 (SwPost z w1 own db q (stepM d))) := Lib.hid fun w1 hb => step_walk z w1 own db d q (h.below hb) hs (by omega)
  have HST := Lib.hid (step_same d)
  have hnd : d.dirs.contains dir = true → 47 ∉ dir ∧ dir ≠ [] ∧ dir.length ≤ 32 := fun h => by
    have h1 := hw.dn dir (by simpa using h)
    have h2 := name_size h1
    exact ⟨name_noslash h1, fun e => by rw [e] at h2; simp at h2, h2.2⟩
  have HND := Lib.hid hnd
  cases ho : d.off with
  | true =>
    have E : Hid (syncDirM d dir = (d, 10)) := Lib.hid (by unfold syncDirM; rw [if_pos ho])
    rw [ho] at k7
    clear h hw hs hp ho KC KS HST hnd HND hbx ed hd1 hd2 hr k2
    unfold ptrV at *
    go_enter Tryz.func11, Tryz.ntmps11
    go_wp2_with fail
    refine scope_again 0 (fun _ _ => False) (fun _ _ => 0) rfl (fun _ _ h => h.elim) ?_
    intro hr
    clear hr
    go_wp2_with fail
    refine jump_ret ?_
    go_ret
    rw [E.out]
    exact OpPost.bl H.out HBX.out 10
  | false =>
    rw [ho] at k7
    cases hg : d.dirs.contains dir with
    | false =>
      have E : Hid (syncDirM d dir = (d, 12)) := Lib.hid (by unfold syncDirM; rw [if_neg (by rw [ho]; decide), if_pos hg])
      rw [hg] at KC
      clear h hw hs hp ho KS HST hnd HND hbx ed hd1 hd2 hr hg
      unfold ptrV at *
      go_enter Tryz.func11, Tryz.ntmps11
      go_wp2_with fail
      refine scope_again 0 (fun _ _ => False) (fun _ _ => 0) rfl (fun _ _ h => h.elim) ?_
      intro hr
      clear hr
      go_wp2_with fail
      go_quiet ((go_at_call 38; exact Calls.quiet_of_same (KC.out _)))
      go_wp2_with fail
      refine jump_ret ?_
      go_ret
      rw [E.out]
      exact OpPost.bl H.out (bdrewN HBX.out _) 12
    | true =>
      rw [hg] at KC
      obtain ⟨hd47, hdne, hd32⟩ := hnd hg
      cases he : (stepM d).2 == 0 with
      | false =>
        have t1 : ((stepM d).2 != 0) = true := by simpa using he
        have E : Hid (syncDirM d dir = stepM d) := Lib.hid (by unfold syncDirM; rw [if_neg (by rw [ho]; decide), if_neg (by rw [hg]; decide), if_pos (by simpa using he)])
        clear h hw hs hp ho HST hnd HND ed hd1 hd2 hr hg he
        unfold ptrV at *
        go_enter Tryz.func11, Tryz.ntmps11
        go_wp2_with fail
        refine scope_again 0 (fun _ _ => False) (fun _ _ => 0) rfl (fun _ _ h => h.elim) ?_
        intro hr
        clear hr
        go_wp2_with fail
        go_quiet ((go_at_call 38; exact Calls.quiet_of_same (KC.out _)))
        go_wp2_with fail
        refine (KS.out _ (bdrewN HBX.out _)).mono ?_
        rintro e w1 ⟨hd1, ho1, rfl⟩
        have HD1 := Lib.hid hd1
        have HO1 := Lib.hid ho1
        clear hd1 ho1
        generalize hsm : (stepM d).2 = se at *
        have HSM := Lib.hid hsm
        clear hsm
        go_wp2_with fail
        refine jump_ret ?_
        go_ret
        rw [E.out]
        exact OpPost.sw H.out.mark (bdrewN HBX.out _) ⟨HD1.out, HO1.out, by rw [HSM.out]; rfl⟩
      | true =>
        have he0 : (stepM d).2 = 0 := by simpa using he
        have KS2 : Hid (∀ w1, Below w.heap.size w w1 → Calls Tryz.prog 33 #[ptrV db] w1 fun e w' => (DSt z w' own db (stepM d).1 q ∧ Only db w1 w') ∧ e = .returned (.int .i64 0)) := Lib.hid fun w1 hb => (KS.out w1 hb).mono fun e w' ⟨h1, h2, h3⟩ => ⟨⟨h1, h2⟩, by rw [h3, he0]⟩
        have E : Hid (syncDirM d dir = (lastM (stepM d).1 (broughtM dir (stepM d).1.waits), 0)) := Lib.hid (by unfold syncDirM; rw [if_neg (by rw [ho]; decide), if_neg (by rw [hg]; decide), if_neg (by rw [he0]; decide), HST.out.2.2.2.2.1])
        have HW1 : Hid (Wf (stepM d).1 K) := Lib.hid hw.step
        have HKK := Lib.hid hK
        have HDR := Lib.hid (⟨hd47, hdne, hd32⟩ : 47 ∉ dir ∧ dir ≠ [] ∧ dir.length ≤ 32)
        generalize hsd : (stepM d).1 = d1 at *
        clear h hw hs hp ho HST hnd HND ed hd1 hd2 hr hg he he0 KS hK hd47 hdne hd32 hsd hbx
        obtain ⟨n, hn⟩ : ∃ n, d1.waits.length = n := ⟨_, rfl⟩
        have HN := Lib.hid hn
        have hn1 : n ≤ 10000 := by have := HW1.out.wk; have := HKK.out; omega
        clear hn
        unfold ptrV at *
        go_enter Tryz.func11, Tryz.ntmps11
        go_wp2_with fail
        refine scope_again 0 (fun a' wr => ∃ (w0 w1 : World) (i : Nat) (L : List Bool) (u2 u5 u8 u9 u10 u11 u12 u13 u14 u15 u16 u17 u18 u19 u20 u21 u22 u23 u24 u25 u26 u27 u28 u29 u30 u31 u32 u33 u34 u35 u36 u37 u38 u39 u40 u41 u42 u43 u44 u45 u46 u47 u48 u49 u50 u51 u52 u53 u54 u55 u56 u57 u58 u59 u60 u61 u62 u63 u64 u65 u66 u67 u68 u69 u70 u71 u72 u73 u74 u75 u76 u77 u78 u79 u80 u81 u82 u83 u84 u85 u86 u87 u88 u89 u90 u91 u92 u93 u94 u95 : Value), a' = { tmps := #[.pointer (some ⟨db, 0, none⟩), .string (bs dir), u2, .pointer (some ⟨w.heap.size, 0, none⟩), .int .i64 0, u5, .slice (some ⟨w1.heap.size, 0, none⟩) n n, .int .i64 (i : Int), u8, u9, u10, u11, u12, u13, u14, u15, u16, u17, u18, u19, u20, u21, u22, u23, u24, u25, u26, u27, u28, u29, u30, u31, u32, u33, u34, u35, u36, u37, u38, u39, u40, u41, u42, u43, u44, u45, u46, u47, u48, u49, u50, u51, u52, u53, u54, u55, u56, u57, u58, u59, u60, u61, u62, u63, u64, u65, u66, u67, u68, u69, u70, u71, u72, u73, u74, u75, u76, u77, u78, u79, u80, u81, u82, u83, u84, u85, u86, u87, u88, u89, u90, u91, u92, u93, u94, u95], defers := [] } ∧ SyR z w own db d1 q dir n w0 w1 wr i L) (fun a' _ => (intV (a'.tmps.getD 7 undef)).toNat) rfl ?_ ?_
        case refine_2 =>
          intro hr
          go_wp2_with fail
          go_quiet ((go_at_call 38; exact Calls.quiet_of_same (KC.out _)))
          go_wp2_with fail
          refine (KS2.out _ (bdrewN HBX.out _)).mono ?_
          rintro e w1 ⟨⟨hd1, ho1⟩, rfl⟩
          have HD1 := Lib.hid hd1
          have HO1 := Lib.hid ho1
          obtain ⟨Aw, nw, cw, ew, hxw, hnw, hmw⟩ := hd1.rest.chs.sl
          obtain rfl : n = nw := by
            rw [flat_len (chs_all _ _), List.length_map, HN.out] at hxw
            omega
          have c6 : w1.cell? ⟨db, 6, none⟩ = some (.slice Aw n cw) := by rw [← ew]; exact hd1.blk.cell 6
          have hmk := mk_bo w1 n (by omega)
          have c6a : (w1.alloc (.cells (boA (List.replicate n false)) 4)).cell? ⟨db, 6, none⟩ = some (.slice Aw n cw) := by rw [← ew]; exact (hd1.blk.alloc _).cell 6
          clear hd1 ho1 hxw ew
          go_wp2_with fail
          go_step3
          rename_i K0 hK0
          refine hK0 _ _ (hr.out _ _ ?_)
          refine ⟨(w.alloc (.cells #[.string (bs dir)] 9)).drewN nq, w1, n, List.replicate n false, _, _, _, _, _, _, _, _, _, _, _, _, _, _, _, _, _, _, _, _, _, _, _, _, _, _, _, _, _, _, _, _, _, _, _, _, _, _, _, _, _, _, _, _, _, _, _, _, _, _, _, _, _, _, _, _, _, _, _, _, _, _, _, _, _, _, _, _, _, _, _, _, _, _, _, _, _, _, _, _, _, _, _, _, _, _, _, _, _, _, rfl, ?_⟩
          have hdb := H.out.blk.lt
          exact ⟨bdrewN HBX.out _, HO1.out, HD1.out, (show Blk ((w.alloc (.cells #[.string (bs dir)] 9)).drewN nq) w.heap.size _ _ from HEB.out).only HO1.out (by omega), (Below.refl _ _).alloc (Nat.le_refl _) _, Blk.new _ _ _, Nat.le_refl _, List.length_replicate, by
            rw [List.drop_of_length_le (by rw [List.length_replicate]; exact Nat.le_refl _), List.drop_of_length_le (by rw [HN.out]; exact Nat.le_refl _)]; rfl⟩
        case refine_1 =>
          rintro a' wo ⟨w0, w1, i, L, u2, u5, u8, u9, u10, u11, u12, u13, u14, u15, u16, u17, u18, u19, u20, u21, u22, u23, u24, u25, u26, u27, u28, u29, u30, u31, u32, u33, u34, u35, u36, u37, u38, u39, u40, u41, u42, u43, u44, u45, u46, u47, u48, u49, u50, u51, u52, u53, u54, u55, u56, u57, u58, u59, u60, u61, u62, u63, u64, u65, u66, u67, u68, u69, u70, u71, u72, u73, u74, u75, u76, u77, u78, u79, u80, u81, u82, u83, u84, u85, u86, u87, u88, u89, u90, u91, u92, u93, u94, u95, rfl, hR⟩
          have HR := Lib.hid hR
          have hli := hR.li
          clear hR
          rcases Nat.eq_zero_or_pos i with hi0 | hi0
          · subst hi0
            have hLB : Hid (L = broughtM dir d1.waits) := Lib.hid (by have := HR.out.ls; simpa using this)
            have KL : Hid (Calls Tryz.prog 43 #[.pointer (some ⟨db, 0, none⟩), .slice (some ⟨w1.heap.size, 0, none⟩) n n] wo (EntPost z wo own db (lastM d1 (broughtM dir d1.waits)))) := Lib.hid (by
              obtain ⟨q', hq', hn1, hn2⟩ := (HR.out.hd.below HR.out.b1).norm HW1.out (by have := HKK.out; omega)
              have := HKK.out
              rw [← hLB.out]
              exact last_walk z wo own db d1 q' hq' HW1.out (by omega) (by omega) L _ n n HR.out.ln (by rw [HR.out.ln, HN.out]) (by rw [hLB.out]; exact brought_closed _ _) HR.out.bo.row)
            have hwi : IntKind.i64.wrap (((0 : Nat) : Int) - 1) = -1 := by decide
            go_wp2_with fail
            refine KL.out.mono ?_
            rintro e w2 hp2
            have HP2 := Lib.hid hp2
            obtain ⟨-, -, -, rfl⟩ := hp2
            go_wp2_with fail
            refine jump_ret ?_
            go_ret
            rw [E.out]
            exact syd_fin H.out.mark HR.out HP2.out
          · obtain ⟨i', hi'⟩ : ∃ i', i = i' + 1 := ⟨i - 1, by omega⟩
            have hwi : IntKind.i64.wrap ((i : Int) - 1) = (i' : Int) := by
              rw [show (i : Int) - 1 = (i' : Int) by omega]
              exact IntWalk.i64_in _ (by omega)
            have hin : i' < n := by omega
            have hin1 : (i' : Int) < (n : Int) := by omega
            have hge : (0 : Int) ≤ (i' : Int) := by omega
            obtain ⟨x, hx⟩ : ∃ x, d1.waits[i']? = some x := ⟨_, List.getElem?_eq_getElem (by rw [HN.out]; exact hin)⟩
            obtain ⟨A, nw, c, ev, -⟩ := HR.out.hd.rest.chs.sl
            have hX := HR.out.hd.rest.chs
            rw [ev] at hX
            obtain ⟨hnw, hnc, hm, hat⟩ := ch_at hX
            obtain rfl : n = nw := by rw [hnw, HN.out]
            have c6 : wo.cell? ⟨db, 6, none⟩ = some (.slice A n c) := by rw [← ev]; exact (HR.out.hd.blk.keep HR.out.b1).cell 6
            obtain ⟨bb, off, -, rfl, hbl, c0, c1, c2, c3⟩ := hat i' x hx
            obtain ⟨P, hP⟩ := chP_ptr q.bl x
            have HAT := Lib.hid hat
            rw [hP] at c3
            have hb1 := HR.out.b1
            have q0 : wo.cell? ⟨bb, off + i' * 4, none⟩ = some (.int .i64 x.kind) := (hb1.cell (p := ⟨bb, off + i' * 4, none⟩) hbl).trans c0
            have q1 : wo.cell? ⟨bb, off + i' * 4 + 1, none⟩ = some (.string (bs x.fr)) := (hb1.cell (p := ⟨bb, off + i' * 4 + 1, none⟩) hbl).trans c1
            have q2 : wo.cell? ⟨bb, off + i' * 4 + 2, none⟩ = some (.string (bs x.tt)) := (hb1.cell (p := ⟨bb, off + i' * 4 + 2, none⟩) hbl).trans c2
            have q3 : wo.cell? ⟨bb, off + i' * 4 + 3, none⟩ = some (.pointer P) := (hb1.cell (p := ⟨bb, off + i' * 4 + 3, none⟩) hbl).trans c3
            have HBC := Lib.hid (Blk.new wo 80 #[.int .i64 x.kind, .string (bs x.fr), .string (bs x.tt), .pointer P])
            have x0 : (wo.alloc (.cells #[.int .i64 x.kind, .string (bs x.fr), .string (bs x.tt), .pointer P] 80)).cell? ⟨wo.heap.size, 0, none⟩ = some (.int .i64 x.kind) := HBC.out.cell 0
            have x1 : (wo.alloc (.cells #[.int .i64 x.kind, .string (bs x.fr), .string (bs x.tt), .pointer P] 80)).cell? ⟨wo.heap.size, 1, none⟩ = some (.string (bs x.fr)) := HBC.out.cell 1
            have x2 : (wo.alloc (.cells #[.int .i64 x.kind, .string (bs x.fr), .string (bs x.tt), .pointer P] 80)).cell? ⟨wo.heap.size, 2, none⟩ = some (.string (bs x.tt)) := HBC.out.cell 2
            have x3 : (wo.alloc (.cells #[.int .i64 x.kind, .string (bs x.fr), .string (bs x.tt), .pointer P] 80)).cell? ⟨wo.heap.size, 3, none⟩ = some (.pointer P) := HBC.out.cell 3
            have KP := Lib.hid (paths_walk (wo.alloc (.cells #[.int .i64 x.kind, .string (bs x.fr), .string (bs x.tt), .pointer P] 80)) x (.pointer P) (by cases P <;> simp))
            have HB2 : Hid (Below w1.heap.size w1 (wo.alloc (.cells #[.int .i64 x.kind, .string (bs x.fr), .string (bs x.tt), .pointer P] 80))) := Lib.hid (hb1.alloc hb1.size _)
            have HBO2 : Hid (BoB (wo.alloc (.cells #[.int .i64 x.kind, .string (bs x.fr), .string (bs x.tt), .pointer P] 80)) w1.heap.size L) := Lib.hid (HR.out.bo.alloc _)
            have hbw := HR.out.bo.lt
            have hpl := paths_le x
            have HX6 := Lib.hid c6
            have HEV := Lib.hid ev
            clear c0 c1 c2 c3 hb1 ev hX hm hat hnw
            go_wp2_with fail
            refine KP.out.mono ?_
            rintro e1 w3 ⟨hb3, A3, cc3, rfl, hr3⟩
            have HB3 : Hid (Below w1.heap.size w1 w3) := Lib.hid (HB2.out.trans (hb3.mono (by simp; omega)))
            have HBO3 : Hid (BoB w3 w1.heap.size L) := Lib.hid (HBO2.out.keep hb3)
            have HBC3 := Lib.hid (HBC.out.keep hb3)
            have HEB3 : Hid (Blk w3 w.heap.size 9 #[.string (bs dir)]) := Lib.hid (HR.out.eb.below HB3.out HR.out.eb.lt)
            have KF := Lib.hid (contains_sync w3 A3 (pathsC x).length cc3 (pathsC x) (fun s => Lib.hasPrefix s (dir ++ [47])) w.heap.size hr3 rfl (by omega) (fun W p hb _ => sync1_walk W p dir w.heap.size HDR.out.2.2 (HEB3.out.keep hb)))
            rw [paths_within HDR.out.1 HDR.out.2.1] at KF
            obtain ⟨wv, hwv⟩ : ∃ wv, withinC x dir = wv := ⟨_, rfl⟩
            rw [hwv] at KF
            have HWV := Lib.hid hwv
            have hs3 : wo.heap.size + 1 ≤ w3.heap.size := by have := hb3.size; simpa using this
            clear hb3 hr3 hwv
            go_wp2_with fail
            refine KF.out.mono ?_
            rintro e2 w4 ⟨hb4, rfl⟩
            have HB4 : Hid (Below w1.heap.size w1 w4) := Lib.hid (HB3.out.trans (hb4.mono (by omega)))
            have hBO4 : BoB w4 w1.heap.size L := HBO3.out.keep hb4
            have HBC4 := Lib.hid (HBC3.out.keep hb4)
            obtain ⟨bx, hbx⟩ : ∃ bx, L[i']? = some bx := ⟨_, List.getElem?_eq_getElem (by rw [HR.out.ln]; exact hin)⟩
            have d0 : w4.cell? ⟨w1.heap.size, i', none⟩ = some (.bool bx) := hBO4.cell hbx
            have f0 : w4.frozen? ⟨w1.heap.size, i', none⟩ = false := hBO4.free _
            have hs4 : wo.heap.size + 1 ≤ w4.heap.size := by have := hb4.size; omega
            have HBO5 : Hid (BoB (w4.setCell ⟨w1.heap.size, i', none⟩ (.bool wv)) w1.heap.size (L.set i' wv)) := Lib.hid (hBO4.set_ i' wv)
            have HBC5 : Hid (Blk (w4.setCell ⟨w1.heap.size, i', none⟩ (.bool wv)) wo.heap.size 80 #[.int .i64 x.kind, .string (bs x.fr), .string (bs x.tt), .pointer P]) := Lib.hid (HBC4.out.far (p := ⟨w1.heap.size, i', none⟩) (by show wo.heap.size ≠ w1.heap.size; omega) _)
            have HB5 : Hid (Below w1.heap.size w1 (w4.setCell ⟨w1.heap.size, i', none⟩ (.bool wv))) := Lib.hid (HB4.out.setCell (Nat.le_refl _) _)
            have c65 : (w4.setCell ⟨w1.heap.size, i', none⟩ (.bool wv)).cell? ⟨db, 6, none⟩ = some (.slice (some ⟨bb, off, none⟩) n c) := by rw [← HEV.out]; exact (HR.out.hd.blk.keep HB5.out).cell 6
            clear hb4 hBO4 hbx
            go_wp2_with fail
            all_goals
              have HBOL : Hid (bvM x dir (d1.waits.drop (i' + 1)) 0 = wv) := Lib.hid ((bvM_zero _ _ _).trans HWV.out)
              have hdr : d1.waits.drop i' = x :: d1.waits.drop (i' + 1) := by
                obtain ⟨h1, h2⟩ := List.getElem?_eq_some_iff.1 hx
                rw [List.drop_eq_getElem_cons h1, h2]
              have HDRP := Lib.hid hdr
              have HLS : Hid (L.drop (i' + 1) = broughtM dir (d1.waits.drop (i' + 1))) := Lib.hid (by rw [← hi']; exact HR.out.ls)
              have HI := Lib.hid hi'
              have HLN := Lib.hid HR.out.ln
              have hbwo : w1.heap.size < wo.heap.size := hbw
              clear hdr hx hi' hli hi0 hP q0 q1 q2 q3 x0 x1 x2 x3 c6 c65 d0 f0 hwi
              obtain ⟨m, hm1, hm2⟩ : ∃ m, m + (i' + 1) ≤ n ∧ n ≤ m + (i' + 1) := ⟨n - (i' + 1), by omega, by omega⟩
              go_loopg [9, 10, 66] m (fun k s9 s10 s66 wr => ∃ j : Nat, s66 = .int .i64 (j : Int) ∧ j + k = m ∧ Hid (BoB wr w1.heap.size (L.set i' (bvM x dir (d1.waits.drop (i' + 1)) j))) ∧ Hid (Blk wr wo.heap.size 80 #[.int .i64 x.kind, .string (bs x.fr), .string (bs x.tt), .pointer P]) ∧ Hid (Below w1.heap.size w1 wr))
              case atStart => exact ⟨0, rfl, by omega, by rw [HBOL.out]; exact HBO5, HBC5, HB5⟩
              case round =>
                obtain ⟨j, rfl, hj, HBO, HBX8, HBL⟩ := hrel
                by_cases hlt : j < m
                · have hlt1 : (j : Int) < ((n - (i' + 1) : Nat) : Int) := by omega
                  first
                  | (exfalso; omega)
                  | (have hji : i' + 1 + j < n := by omega
                     obtain ⟨y, hy⟩ : ∃ y, d1.waits[i' + 1 + j]? = some y := ⟨_, List.getElem?_eq_getElem (by rw [HN.out]; exact hji)⟩
                     obtain ⟨bb2, off2, -, he2, hbl2, c0, c1, c2, c3⟩ := HAT.out _ y hy
                     injection he2 with he2
                     injection he2 with he3 he4 _
                     subst he3; subst he4
                     obtain ⟨P2, hP2⟩ := chP_ptr q.bl y
                     rw [hP2] at c3
                     have ee : off + (i' + 1 + j) * 4 = off + (i' + 1) * 4 + j * 4 := by omega
                     rw [ee] at c0 c1 c2 c3
                     have hb1 := HBL.out
                     have q0 : wr.cell? ⟨bb, off + (i' + 1) * 4 + j * 4, none⟩ = some (.int .i64 y.kind) := (hb1.cell (p := ⟨bb, off + (i' + 1) * 4 + j * 4, none⟩) hbl).trans c0
                     have q1 : wr.cell? ⟨bb, off + (i' + 1) * 4 + j * 4 + 1, none⟩ = some (.string (bs y.fr)) := (hb1.cell (p := ⟨bb, off + (i' + 1) * 4 + j * 4 + 1, none⟩) hbl).trans c1
                     have q2 : wr.cell? ⟨bb, off + (i' + 1) * 4 + j * 4 + 2, none⟩ = some (.string (bs y.tt)) := (hb1.cell (p := ⟨bb, off + (i' + 1) * 4 + j * 4 + 2, none⟩) hbl).trans c2
                     have q3 : wr.cell? ⟨bb, off + (i' + 1) * 4 + j * 4 + 3, none⟩ = some (.pointer P2) := (hb1.cell (p := ⟨bb, off + (i' + 1) * 4 + j * 4 + 3, none⟩) hbl).trans c3
                     have HY : Hid ((d1.waits.drop (i' + 1))[j]? = some y) := Lib.hid (by rw [List.getElem?_drop]; exact hy)
                     clear c0 c1 c2 c3 hb1 hy hP2 ee
                     have hwsz : w1.heap.size < wr.heap.size := HBO.out.lt
                     have hosz : wo.heap.size < wr.heap.size := HBX8.out.lt
                     have HBY := Lib.hid (Blk.new wr 80 #[.int .i64 y.kind, .string (bs y.fr), .string (bs y.tt), .pointer P2])
                     have hBO1 : BoB (wr.alloc (.cells #[.int .i64 y.kind, .string (bs y.fr), .string (bs y.tt), .pointer P2] 80)) w1.heap.size (L.set i' (bvM x dir (d1.waits.drop (i' + 1)) j)) := HBO.out.alloc _
                     have hBX1 := HBX8.out.alloc (.cells #[.int .i64 y.kind, .string (bs y.fr), .string (bs y.tt), .pointer P2] 80)
                     have HBO1 := Lib.hid hBO1
                     have HBX1 := Lib.hid hBX1
                     have HBL1 : Hid (Below w1.heap.size w1 (wr.alloc (.cells #[.int .i64 y.kind, .string (bs y.fr), .string (bs y.tt), .pointer P2] 80))) := Lib.hid (HBL.out.alloc HBL.out.size _)
                     have y0 : (wr.alloc (.cells #[.int .i64 y.kind, .string (bs y.fr), .string (bs y.tt), .pointer P2] 80)).cell? ⟨wr.heap.size, 0, none⟩ = some (.int .i64 y.kind) := HBY.out.cell 0
                     have y1 : (wr.alloc (.cells #[.int .i64 y.kind, .string (bs y.fr), .string (bs y.tt), .pointer P2] 80)).cell? ⟨wr.heap.size, 1, none⟩ = some (.string (bs y.fr)) := HBY.out.cell 1
                     have y2 : (wr.alloc (.cells #[.int .i64 y.kind, .string (bs y.fr), .string (bs y.tt), .pointer P2] 80)).cell? ⟨wr.heap.size, 2, none⟩ = some (.string (bs y.tt)) := HBY.out.cell 2
                     have y3 : (wr.alloc (.cells #[.int .i64 y.kind, .string (bs y.fr), .string (bs y.tt), .pointer P2] 80)).cell? ⟨wr.heap.size, 3, none⟩ = some (.pointer P2) := HBY.out.cell 3
                     have z0 : (wr.alloc (.cells #[.int .i64 y.kind, .string (bs y.fr), .string (bs y.tt), .pointer P2] 80)).cell? ⟨wo.heap.size, 0, none⟩ = some (.int .i64 x.kind) := hBX1.cell 0
                     have z1 : (wr.alloc (.cells #[.int .i64 y.kind, .string (bs y.fr), .string (bs y.tt), .pointer P2] 80)).cell? ⟨wo.heap.size, 1, none⟩ = some (.string (bs x.fr)) := hBX1.cell 1
                     have z2 : (wr.alloc (.cells #[.int .i64 y.kind, .string (bs y.fr), .string (bs y.tt), .pointer P2] 80)).cell? ⟨wo.heap.size, 2, none⟩ = some (.string (bs x.tt)) := hBX1.cell 2
                     have z3 : (wr.alloc (.cells #[.int .i64 y.kind, .string (bs y.fr), .string (bs y.tt), .pointer P2] 80)).cell? ⟨wo.heap.size, 3, none⟩ = some (.pointer P) := hBX1.cell 3
                     obtain ⟨v0, hv0⟩ : ∃ v0, bvM x dir (d1.waits.drop (i' + 1)) j = v0 := ⟨_, rfl⟩
                     have HV0 := Lib.hid hv0
                     rw [hv0] at hBO1
                     obtain ⟨v1, hv1⟩ : ∃ v1, L[i' + 1 + j]? = some v1 := ⟨_, List.getElem?_eq_getElem (by rw [HLN.out]; exact hji)⟩
                     have HV1 : Hid ((broughtM dir (d1.waits.drop (i' + 1)))[j]? = some v1) := Lib.hid (by rw [← HLS.out, List.getElem?_drop]; exact hv1)
                     have d0 : (wr.alloc (.cells #[.int .i64 y.kind, .string (bs y.fr), .string (bs y.tt), .pointer P2] 80)).cell? ⟨w1.heap.size, i', none⟩ = some (.bool v0) := hBO1.cell (List.getElem?_set_self (by rw [HLN.out]; exact hin))
                     have d1' : (wr.alloc (.cells #[.int .i64 y.kind, .string (bs y.fr), .string (bs y.tt), .pointer P2] 80)).cell? ⟨w1.heap.size, i' + 1 + j, none⟩ = some (.bool v1) := hBO1.cell (by rw [List.getElem?_set_ne (by omega)]; exact hv1)
                     have f0 : (wr.alloc (.cells #[.int .i64 y.kind, .string (bs y.fr), .string (bs y.tt), .pointer P2] 80)).frozen? ⟨w1.heap.size, i', none⟩ = false := hBO1.free _
                     have KL := Lib.hid (leans_walk (wr.alloc (.cells #[.int .i64 y.kind, .string (bs y.fr), .string (bs y.tt), .pointer P2] 80)) y x (.pointer P2) (.pointer P) (by cases P2; exact .inl rfl; exact .inr ⟨_, rfl⟩) (by cases P; exact .inl rfl; exact .inr ⟨_, rfl⟩))
                     unfold chA at KL
                     have HSU : Hid (bvM x dir (d1.waits.drop (i' + 1)) (j + 1) = (v0 || (v1 && shareC x y))) := Lib.hid (by rw [bvM_succ HY.out HV1.out, hv0])
                     have hji1 : (i' : Int) + 1 + (j : Int) < (n : Int) := by omega
                     clear hBO1 hBX1 hv0 hv1
                     cases v0 with
                     | true =>
                       go_wp2_with fail
                       go_roundg (gk - 1)
                       case rel => exact ⟨j + 1, by go_num, by omega, Lib.hid (by
                         have := HBO.out.set_ i' true
                         rw [List.set_set] at this
                         rw [HSU.out, Bool.true_or]
                         exact this.alloc _), Lib.hid ((HBX8.out.far (p := ⟨w1.heap.size, i', none⟩) (by show wo.heap.size ≠ w1.heap.size; omega) _).alloc _), Lib.hid ((HBL.out.setCell (p := ⟨w1.heap.size, i', none⟩) (Nat.le_refl _) _).alloc (by simp; exact HBL.out.size) _)⟩
                       case measure => omega
                     | false =>
                       cases v1 with
                       | false =>
                         go_wp2_with fail
                         go_roundg (gk - 1)
                         case rel => exact ⟨j + 1, by go_num, by omega, Lib.hid (by
                           have := HBO.out.set_ i' false
                           rw [List.set_set] at this
                           rw [HSU.out, Bool.false_and, Bool.or_false]
                           exact this.alloc _), Lib.hid ((HBX8.out.far (p := ⟨w1.heap.size, i', none⟩) (by show wo.heap.size ≠ w1.heap.size; omega) _).alloc _), Lib.hid ((HBL.out.setCell (p := ⟨w1.heap.size, i', none⟩) (Nat.le_refl _) _).alloc (by simp; exact HBL.out.size) _)⟩
                         case measure => omega
                       | true =>
                         obtain ⟨F, hF⟩ : ∃ F, shareC x y = F := ⟨_, rfl⟩
                         have HF := Lib.hid hF
                         rw [hF] at KL
                         clear hF
                         go_wp2_with fail
                         refine KL.out.mono ?_
                         rintro e1 w8 ⟨hb8, rfl⟩
                         have hB8 : BoB w8 w1.heap.size (L.set i' (bvM x dir (d1.waits.drop (i' + 1)) j)) := HBO1.out.keep hb8
                         rw [HV0.out] at hB8
                         have HB8 := Lib.hid hB8
                         have HX8 := Lib.hid (HBX1.out.keep hb8)
                         have HL8 : Hid (Below w1.heap.size w1 w8) := Lib.hid (HBL1.out.trans (hb8.mono (by simp; omega)))
                         have d8 : w8.cell? ⟨w1.heap.size, i', none⟩ = some (.bool false) := hB8.cell (List.getElem?_set_self (by rw [HLN.out]; exact hin))
                         have f8 : w8.frozen? ⟨w1.heap.size, i', none⟩ = false := hB8.free _
                         clear hb8 hB8
                         go_wp2_with fail
                         go_roundg (gk - 1)
                         case rel => exact ⟨j + 1, by go_num, by omega, Lib.hid (by
                           have := HB8.out.set_ i' F
                           rw [List.set_set] at this
                           rw [HSU.out, HF.out, Bool.false_or, Bool.true_and]
                           exact this), Lib.hid (HX8.out.far (p := ⟨w1.heap.size, i', none⟩) (by show wo.heap.size ≠ w1.heap.size; omega) _), Lib.hid (HL8.out.setCell (Nat.le_refl _) _)⟩
                         case measure => omega)
                · have hlt1 : ¬ (j : Int) < ((n - (i' + 1) : Nat) : Int) := by omega
                  obtain rfl : j = m := by omega
                  go_wp2_with fail
                  go_step3
                  have hSy : SyR z w own db d1 q dir n w0 w1 wr i' (L.set i' (bvM x dir (d1.waits.drop (i' + 1)) j)) := ⟨HR.out.b0, HR.out.o1, HR.out.hd, HR.out.eb, HBL.out, HBO.out, by omega, by rw [List.length_set]; exact HLN.out, by
                    rw [set_drop _ _ _ (by rw [HLN.out]; exact hin), HDRP.out, bvM_full (k := j) (by rw [List.length_drop, HN.out]; omega), HLS.out]⟩
                  refine ⟨rfl, ⟨w0, w1, i', _, _, _, _, _, _, _, _, _, _, _, _, _, _, _, _, _, _, _, _, _, _, _, _, _, _, _, _, _, _, _, _, _, _, _, _, _, _, _, _, _, _, _, _, _, _, _, _, _, _, _, _, _, _, _, _, _, _, _, _, _, _, _, _, _, _, _, _, _, _, _, _, _, _, _, _, _, _, _, _, _, _, _, _, _, _, _, _, _, _, _, rfl, hSy⟩, ?_⟩
                  have := HI.out
                  simp only [intV]
                  simp
                  omega
end Go.Proofs.YtbpooaicmjkemaaGreatDoor
