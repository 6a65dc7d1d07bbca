/-
  Several texts in one: ScNw, ScNmd2. Conditions: each part names its own.
-/
import Derived.Test.YtjnjnccfojfghaaGreatDoorMg25
import Derived.Deep.CutBlock
import Derived.Deep.DeepCutAuto
import Derived.Test.YtjnjnccfojfghaaGreatDoorMg14
set_option linter.unusedSimpArgs false
/-! The walk of smtpc's New. Conditions: the lengths, what the library's variables hold. -/
namespace Go.Proofs.YtjnjnccfojfghaaGreatDoor
open Go.RowKit
set_option linter.unusedVariables false
theorem NwI_row_sl {w : World} {base E size n : Nat} {v : Value} {xs : List Value} (h : w.ownsRow base E size v n xs) : ∃ A c, v = .slice A n c := by
  rcases h.2 with ⟨rfl, rfl⟩ | ⟨g, cap, cur, rfl, -⟩
  · exact ⟨none, 0, rfl⟩
  · exact ⟨_, _, rfl⟩
theorem domain_any (s : Tx) (w : World) (T : TabC w) (hs : s.length ≤ 1073741824) :
    Calls Tryz.prog 29 #[.string (bs s)] w fun e w' => Below w.heap.size w w' ∧ ∃ f b, e = .returned (.tuple #[.string f, .bool b, .int .i64 (domE s : Int)]) := by
  rcases brack_case s with ⟨h1, h2⟩ | ⟨h1, h2⟩
  · exact domain_plain s h1 h2 w T hs
  · exact domain_brack s h1 h2 w T hs
def CNewPost (w : World) (o : OrdM) (e : Ending) (w' : World) : Prop :=
  Below w.heap.size w w' ∧ ((newOk o ∧ ∃ cb pb bb q, e = .returned (.tuple #[.pointer (some ⟨cb, 0, none⟩), .int .i64 0]) ∧ CliB w.heap.size w' cb pb bb (newM o) q ∧ (∀ k, bb = some k → w.heap.size ≤ k) ∧ q.lw = none) ∨ (¬ newOk o ∧ e = .returned (.tuple #[.pointer none, .int .i64 1])))
/-- a client on its way: its people so far -/
structure NwI (w wr : World) (cb : Nat) (o : OrdM) (j : Nat) (v : Value) : Prop where
  blk : Blk wr cb 72 (cliC o.name (angleT o.frm) v (.slice none 0 0) 0 0 (.slice none 0 0) (.slice none 0 0) 0 false)
  row : wr.ownsRow (cb + 1) 74 5 v j (((o.rcpts.map persM).take j).map persV).flatten
  bel : Below w.heap.size w wr
  ok : ∀ i p, i < j → o.rcpts[i]? = some p → rightM p = 0 ∧ p.nul = false
theorem NwI.same {w wr w' : World} {cb : Nat} {o : OrdM} {j : Nat} {v : Value} (h : NwI w wr cb o j v) (hb : Below wr.heap.size wr w') : NwI w w' cb o j v :=
  ⟨h.blk.keep hb, World.ownsRow.kept h.row (grownBy_of_below hb none) (by cases v.ownBlock <;> simp), h.bel.trans (hb.mono h.bel.size), h.ok⟩
/-- the end: a client put together -/
theorem NwI.done {w wr : World} {cb : Nat} {o : OrdM} {v : Value} (h : NwI w wr cb o o.rcpts.length v) (hcb : w.heap.size ≤ cb) (hok : newOk o) (h1 : o.name.length ≤ 1048576) (h2 : o.data.length ≤ 1048576) {w5 : World} (hb : Below wr.heap.size wr w5) {A5 : Option Addr} {n5 c5 : Nat} (hn5 : n5 = (stuffP o.data).length) (hV : OwnV w5 wr.heap.size (.slice A5 n5 c5) (stuffP o.data)) :
    ∃ pb bb q, CliB w.heap.size (w5.setCell ⟨cb, 3, none⟩ (.slice A5 n5 c5)) cb pb bb (newM o) q ∧ (∀ k, bb = some k → w.heap.size ≤ k) ∧ q.lw = none := by
  have h5 := h.same hb
  have hcl := h.blk.lt
  have hz := h.bel.size
  have hfl : ((newM o).ppl.map persV).flatten = (((o.rcpts.map persM).take o.rcpts.length).map persV).flatten := by
    rw [List.take_of_length_le (by rw [List.length_map]; exact Nat.le_refl _)]
    rfl
  obtain ⟨g, cap, hv, hg1, hg2⟩ := World.ownsRow.form h.row (by have := hok.2.1; omega)
  have hrow := h5.row
  rw [hv, ← hfl] at hrow
  have hpl : (newM o).ppl.length = o.rcpts.length := List.length_map ..
  have hP : PplB w5 g (newM o).ppl := PplB.of_row (base := cb + 1) (by rw [hpl]; exact hrow)
  have hs : (w5.setCell ⟨cb, 3, none⟩ (.slice A5 n5 c5)).heap.size = w5.heap.size := by simp
  have hk : ∀ k, k ≠ cb → (w5.setCell ⟨cb, 3, none⟩ (.slice A5 n5 c5)).heap[k]? = w5.heap[k]? := fun k hk => Below.heap_setCell w5 ⟨cb, 3, none⟩ _ k hk
  obtain ⟨A', c', e, hle, hmx, hd⟩ := hV
  injection e with e1 e2 e3
  subst e1 e3
  have hblk : Blk (w5.setCell ⟨cb, 3, none⟩ (.slice A5 n5 c5)) cb 72 (cliC (newM o).name (newM o).frm (.slice (some ⟨g, 0, none⟩) (newM o).ppl.length cap) (.slice A5 (newM o).body.length c5) 0 0 (.slice none 0 0) (.slice none 0 0) 0 false) := by
    have := h5.blk.set_ 3 (.slice A5 n5 c5)
    rw [hv] at this
    rw [hpl]
    rw [hn5] at this ⊢
    exact this
  obtain ⟨g', off, rfl, hg3, hg4, hc⟩ : ∃ g' off, A5 = some ⟨g', off, none⟩ ∧ wr.heap.size ≤ g' ∧ g' < w5.heap.size ∧ ∀ i, i < (stuffP o.data).length → w5.cell? ⟨g', off + i, none⟩ = some (.int .u8 (bt (stuffP o.data) i)) ∧ w5.frozen? ⟨g', off + i, none⟩ = false := by
    rcases hd with hd | hd
    · exfalso
      have := congrArg List.length hd
      unfold stuffP at this
      rw [List.length_append] at this
      simp at this
    · exact hd
  refine ⟨g, some g', ⟨cap, c5, some ⟨g', off, none⟩, .slice none 0 0, .slice none 0 0, none⟩, ⟨⟨hblk, hP.same (hk g (by omega)), ?_, fun a ha => by cases ha; rfl, OwnQ.nil _ _ none, OwnB.nil _ _ _, (fun e => by cases e), (fun e => by cases e), (fun e => by cases e), (fun e => by cases e), (fun k e => by cases e), (fun k _ e => by cases e), (fun k _ e => by cases e), by omega, ?_, ?_, ?_⟩, newM_ok hok h1 h2, hcb, by omega, (fun k e => by cases e), (fun k e => by cases e), by show (0 : Nat) ≤ 300; omega⟩, ?_, rfl⟩
  · exact .inr ⟨g', off, rfl, by rw [hs]; exact hg4, fun i hi => (World.cell?_setCell_far w5 ⟨cb, 3, none⟩ ⟨g', off + i, none⟩ _ (by show cb ≠ g'; omega)).trans (hc i hi).1⟩
  · intro e; injection e with e; omega
  · intro e; injection e with e; omega
  · intro k e; injection e with e; rw [hs]; omega
  · intro k e; injection e with e; omega
set_option maxRecDepth 100000 in
set_option maxHeartbeats 8000000 in
theorem cnew_walk (w : World) (T : TabC w) (o : OrdM) (m : OrdV) (ho : OrdR w w.heap.size o m) (fit : o.Fit m 1048576) :
    Calls Tryz.prog 12 #[.string (bs o.name), o.frm.val, .slice m.Ar o.rcpts.length m.cr, .slice m.Ad o.data.length m.cd] w (CNewPost w o) := by
  have NO : Hid (∀ w', Below w.heap.size w w' → ¬ newOk o → CNewPost w o (.returned (.tuple #[.pointer none, .int .i64 1])) w') := Lib.hid fun w' h1 h2 => ⟨h1, .inr ⟨h2, rfl⟩⟩
  have YES : Hid (∀ w' cb pb bb q, Below w.heap.size w w' → newOk o → CliB w.heap.size w' cb pb bb (newM o) q → ((∀ k, bb = some k → w.heap.size ≤ k) ∧ q.lw = none) → CNewPost w o (.returned (.tuple #[.pointer (some ⟨cb, 0, none⟩), .int .i64 0])) w') := Lib.hid fun w' cb pb bb q h1 h2 h3 h4 => ⟨h1, .inl ⟨h2, cb, pb, bb, q, rfl, h3, h4⟩⟩
  generalize CNewPost w o = Post at *
  have HT := Lib.hid T
  have HO := Lib.hid ho
  have HF := Lib.hid fit
  have KD := Lib.hid (fun W TW => domain_any o.name W TW (by have := fit.nm; omega))
  have KA := Lib.hid (fun W TW => angle_walk o.frm W TW (by have := fit.f1; omega) (by have := fit.f2; omega))
  have hnl : o.rcpts.length ≤ 1048576 := Nat.le_trans ho.lr fit.cr
  obtain ⟨w1, hw1⟩ : ∃ w1, w.alloc (.cells #[.bool o.frm.nul, .string (bs o.frm.loc), .string (bs o.frm.dom), .bool o.frm.lit] 23) = w1 := ⟨_, rfl⟩
  have hb1 : Below w.heap.size w w1 := by rw [← hw1]; exact (Below.refl _ _).alloc (Nat.le_refl _) _
  have hx1 : Blk w1 w.heap.size 23 #[.bool o.frm.nul, .string (bs o.frm.loc), .string (bs o.frm.dom), .bool o.frm.lit] := by rw [← hw1]; exact Blk.new _ _ _
  have HB1 := Lib.hid hb1
  have HX1 := Lib.hid hx1
  have ev : o.frm.val = .agg #[.bool o.frm.nul, .string (bs o.frm.loc), .string (bs o.frm.dom), .bool o.frm.lit] := rfl
  rw [ev] at KA ⊢
  clear T ho fit hb1 hx1 ev
  go_enter Tryz.func12, Tryz.ntmps12
  go_upto_region 1 with fail
  clear hw1
  go_wp2_with fail
  refine (KD.out w1 (HT.out.keep HB1.out)).mono ?_
  rintro e w2 ⟨hb2, fs, fb, rfl⟩
  have HB2 := Lib.hid (HB1.out.trans (hb2.mono HB1.out.size))
  have HX2 := Lib.hid (HX1.out.keep hb2)
  clear hb2 KD
  by_cases h1 : domE o.name = 0 ∧ 1 ≤ o.rcpts.length ∧ o.rcpts.length ≤ 50
  case neg =>
    have HN := Lib.hid (NO.out w2 HB2.out (fun h => h1 ⟨h.1, h.2.1, h.2.2.1⟩))
    have hcase : ((domE o.name : Int) != 0) = true ∨ (((domE o.name : Int) != 0) = false ∧ (o.rcpts.length : Int) < 1) ∨ (((domE o.name : Int) != 0) = false ∧ ¬ (o.rcpts.length : Int) < 1 ∧ (o.rcpts.length : Int) > 50) := by
      by_cases h2 : domE o.name = 0
      · have h3 : ((domE o.name : Int) != 0) = false := by rw [h2]; rfl
        by_cases h4 : o.rcpts.length < 1
        · exact .inr (.inl ⟨h3, by omega⟩)
        · exact .inr (.inr ⟨h3, by omega, by
            by_cases h5 : o.rcpts.length ≤ 50
            · exact absurd ⟨h2, by omega, h5⟩ h1
            · omega⟩)
      · exact .inl (bne_iff_ne.2 (by omega))
    clear h1
    rcases hcase with h2 | ⟨h2, h3⟩ | ⟨h2, h3, h4⟩
    all_goals
      go_wp2_with fail
      exact HN.out
  case pos =>
    obtain ⟨h2, h3, h4⟩ := h1
    have g2 : ((domE o.name : Int) != 0) = false := by rw [h2]; rfl
    have g3 : ¬ (o.rcpts.length : Int) < 1 := by omega
    have g4 : ¬ (o.rcpts.length : Int) > 50 := by omega
    have H1 : Hid (domE o.name = 0 ∧ 1 ≤ o.rcpts.length ∧ o.rcpts.length ≤ 50) := Lib.hid ⟨h2, h3, h4⟩
    have x0 : w2.cell? ⟨w.heap.size, 0, none⟩ = some (.bool o.frm.nul) := HX2.out.cell 0
    have x1 : w2.cell? ⟨w.heap.size, 1, none⟩ = some (.string (bs o.frm.loc)) := HX2.out.cell 1
    have x2 : w2.cell? ⟨w.heap.size, 2, none⟩ = some (.string (bs o.frm.dom)) := HX2.out.cell 2
    have x3 : w2.cell? ⟨w.heap.size, 3, none⟩ = some (.bool o.frm.lit) := HX2.out.cell 3
    clear h2 h3 h4
    go_wp2_with fail
    refine (KA.out w2 (HT.out.keep HB2.out)).mono ?_
    rintro e w3 ⟨hb3, rfl⟩
    have HB3 := Lib.hid (HB2.out.trans (hb3.mono HB2.out.size))
    clear hb3 KA x0 x1 x2 x3 g2 g3 g4 HX2 HX1
    by_cases h5 : rightM o.frm = 0
    case neg =>
      have HN := Lib.hid (NO.out w3 HB3.out (fun h => h5 h.2.2.2.1))
      have g5 : ((rightM o.frm : Int) != 0) = true := bne_iff_ne.2 (by omega)
      clear h5
      go_wp2_with fail
      exact HN.out
    case pos =>
      have g5 : ((rightM o.frm : Int) != 0) = false := by rw [h5]; rfl
      have H5 := Lib.hid h5
      clear h5
      have HI0 : Hid (NwI w (w3.alloc (.cells (cliC o.name (angleT o.frm) (.slice none 0 0) (.slice none 0 0) 0 0 (.slice none 0 0) (.slice none 0 0) 0 false) 72)) w3.heap.size o 0 (.slice none 0 0)) := Lib.hid ⟨Blk.new _ _ _, World.ownsRow_nil _ _ _ _, HB3.out.alloc HB3.out.size _, fun i p hi => by omega⟩
      have HSZ3 : Hid (w.heap.size ≤ w3.heap.size) := Lib.hid HB3.out.size
      clear HB3 HB2 HB1
      have HSZ := HSZ3.out
      obtain ⟨cb, hcb⟩ : ∃ cb, w3.heap.size = cb := ⟨_, rfl⟩
      rw [hcb] at HI0 HSZ
      go_wp2_with fail
      have HCB : Hid (w.heap.size ≤ cb) := Lib.hid HSZ
      have HV0 : Hid (∃ v, NwI w (w3.alloc (.cells (cliC o.name (angleT o.frm) (.slice none 0 0) (.slice none 0 0) 0 0 (.slice none 0 0) (.slice none 0 0) 0 false) 72)) cb o 0 v) := Lib.hid ⟨_, HI0.out⟩
      obtain ⟨b, off, hA, HC⟩ : ∃ b off, m.Ar = some ⟨b, off, none⟩ ∧ Hid (∀ wr, Below w.heap.size w wr → ∀ i p, o.rcpts[i]? = some p → ∀ k v, (pathC p)[k]? = some v → wr.cell? ⟨b, off + i * 4 + k, none⟩ = some v) := by
        rcases HO.out.rp with h | ⟨b, off, hA, hbB, hc⟩
        · have := H1.out.2.1
          rw [h] at this
          simp at this
        · exact ⟨b, off, hA, Lib.hid fun wr hb i p hp k v hv => by rw [hb.cell (show b < w.heap.size from hbB)]; exact hc i p hp k v hv⟩
      rw [hA]
      clear hcb HI0 HSZ HSZ3 g5 hA
      go_loopg [17, 18, 19, 51] o.rcpts.length (fun k s17 s18 s19 i wr => ∃ j : Nat, i = .int .i64 (j : Int) ∧ j + k = o.rcpts.length ∧ Hid (∃ v, NwI w wr cb o j v))
      case atStart => exact ⟨0, rfl, by omega, HV0⟩
      case round =>
        obtain ⟨j, rfl, hj, HV⟩ := hrel
        obtain ⟨v, hi⟩ := HV.out
        have HI := Lib.hid hi
        clear HV HV0 hi
        have HJ := Lib.hid hj
        by_cases hlt : j < o.rcpts.length
        · have hj1 : (j : Int) < (o.rcpts.length : Int) := by omega
          have hj0 : (0 : Int) ≤ (j : Int) := by omega
          have HLT := Lib.hid hlt
          obtain ⟨p, hp⟩ : ∃ p, o.rcpts[j]? = some p := ⟨_, List.getElem?_eq_getElem hlt⟩
          have hc := HC.out wr HI.out.bel
          have c0 : wr.cell? ⟨b, off + j * 4, none⟩ = some (.bool p.nul) := hc j p hp 0 _ rfl
          have c1 : wr.cell? ⟨b, off + j * 4 + 1, none⟩ = some (.string (bs p.loc)) := hc j p hp 1 _ rfl
          have c2 : wr.cell? ⟨b, off + j * 4 + 2, none⟩ = some (.string (bs p.dom)) := hc j p hp 2 _ rfl
          have c3 : wr.cell? ⟨b, off + j * 4 + 3, none⟩ = some (.bool p.lit) := hc j p hp 3 _ rfl
          have hpm := List.mem_of_getElem? hp
          have KP := Lib.hid (fun W TW => angle_walk p W TW (by have := (HF.out.rs p hpm).1; omega) (by have := (HF.out.rs p hpm).2; omega))
          rw [show p.val = .agg #[.bool p.nul, .string (bs p.loc), .string (bs p.dom), .bool p.lit] from rfl] at KP
          have HB4 : Hid (Below wr.heap.size wr (wr.alloc (.cells #[.bool p.nul, .string (bs p.loc), .string (bs p.dom), .bool p.lit] 23))) := Lib.hid ((Below.refl _ _).alloc (Nat.le_refl _) _)
          have HX4 : Hid (Blk (wr.alloc (.cells #[.bool p.nul, .string (bs p.loc), .string (bs p.dom), .bool p.lit] 23)) wr.heap.size 23 #[.bool p.nul, .string (bs p.loc), .string (bs p.dom), .bool p.lit]) := Lib.hid (Blk.new _ _ _)
          have HP := Lib.hid hp
          clear hc hp hj hlt hpm
          go_wp2_with fail
          refine (KP.out _ (HT.out.keep (HI.out.bel.trans (HB4.out.mono HI.out.bel.size)))).mono ?_
          rintro e w5 ⟨hb5, rfl⟩
          have HX5 := Lib.hid (HX4.out.keep hb5)
          have HI5 := Lib.hid (HI.out.same (HB4.out.trans (hb5.mono HB4.out.size)))
          clear hb5 KP HB4 HX4 HI c0 c1 c2 c3
          by_cases hpo : rightM p = 0 ∧ p.nul = false
          case neg =>
            have HN := Lib.hid (NO.out w5 HI5.out.bel (fun h => hpo (h.2.2.2.2.1 p (List.mem_of_getElem? HP.out))))
            have hcase : ((rightM p : Int) != 0) = true ∨ (((rightM p : Int) != 0) = false ∧ p.nul = true) := by
              by_cases h2 : rightM p = 0
              · refine .inr ⟨by rw [h2]; rfl, ?_⟩
                cases hnul : p.nul
                · exact absurd ⟨h2, hnul⟩ hpo
                · rfl
              · exact .inl (bne_iff_ne.2 (by omega))
            clear hpo
            rcases hcase with h2 | ⟨h2, h3⟩
            · clear HX5 HI5 HP HJ HLT
              go_wp2_with fail
              exact HN.out
            · have x0 : w5.cell? ⟨wr.heap.size, 0, none⟩ = some (.bool true) := by rw [← h3]; exact HX5.out.cell 0
              clear HX5 HI5 HP HJ HLT h3
              go_wp2_with fail
              exact HN.out
          case pos =>
            have h2 : ((rightM p : Int) != 0) = false := by rw [hpo.1]; rfl
            have x0 : w5.cell? ⟨wr.heap.size, 0, none⟩ = some (.bool false) := by rw [← hpo.2]; exact HX5.out.cell 0
            have HPO := Lib.hid hpo
            have HT1 : Hid ((((o.rcpts.map persM).take (j + 1)).map persV).flatten = (((o.rcpts.map persM).take j).map persV).flatten ++ [.string (bs (angleT p)), .bool false, .int .i64 0, .int .i64 0, .string ⟨#[]⟩]) := Lib.hid (by
              rw [List.take_add_one, List.getElem?_map, HP.out]
              simp [persV, persM, bs])
            obtain ⟨Av, cv, rfl⟩ := NwI_row_sl HI5.out.row
            have k2 : w5.cell? ⟨cb, 2, none⟩ = some (.slice Av j cv) := HI5.out.blk.cell 2
            have HZ5 : Hid (cb + 1 ≤ w5.heap.size) := Lib.hid HI5.out.blk.lt
            have HBA : Hid (Below w.heap.size w (w5.alloc (.cells #[.string (bs (angleT p)), .bool false, .int .i64 0, .int .i64 0, .string ⟨#[]⟩] 74))) := Lib.hid (HI5.out.bel.alloc HI5.out.bel.size _)
            have HKA := Lib.hid (HI5.out.blk.alloc (.cells #[.string (bs (angleT p)), .bool false, .int .i64 0, .int .i64 0, .string ⟨#[]⟩] 74))
            have HZA : Hid (cb + 1 ≤ (w5.alloc (.cells #[.string (bs (angleT p)), .bool false, .int .i64 0, .int .i64 0, .string ⟨#[]⟩] 74)).heap.size) := Lib.hid (Nat.le_trans HZ5.out ((Below.refl w5.heap.size w5).alloc (Nat.le_refl _) _).size)
            clear hpo HX5
            go_wp2_with (at_builtin; go_loud (refine wpList_appN _ uxP (.tmp 70) (.tmp 73) rfl rfl rfl (HI5.out.row.alloc _) ⟨w5.heap.size, 0, none⟩ 1 1 rfl [.string (bs (angleT p)), .bool false, .int .i64 0, .int .i64 0, .string ⟨#[]⟩] rfl (fun j u hu => newsR w5 74 [.string (bs (angleT p)), .bool false, .int .i64 0, .int .i64 0, .string ⟨#[]⟩] _ rfl j u hu) (persV_one (persM p)) (by omega) HZA.out ?_; intro v6 w6 hR6 hb6); obtain ⟨A6, c6, rfl⟩ := NwI_row_sl hR6; have HR6 := Lib.hid hR6; have HB6 := Lib.hid hb6; have HK6 : Hid (Blk w6 cb 72 (cliC o.name (angleT o.frm) (.slice Av j cv) (.slice none 0 0) 0 0 (.slice none 0 0) (.slice none 0 0) 0 false)) := Lib.hid ((hb6.block cb (Nat.lt_succ_self _)).trans HKA.out); have z2 : w6.cell? ⟨cb, 2, none⟩ = some (.slice Av j cv) := HK6.out.cell 2; have g2 := HK6.out.frozen 2; clear hR6 hb6)
            go_roundg (gk - 1)
            case rel =>
              refine ⟨j + 1, by go_num, by have := HJ.out; have := HLT.out; omega, Lib.hid ⟨.slice A6 (j + 1) c6, ?_, ?_, ?_, ?_⟩⟩
              · exact HK6.out.set_ 2 _
              · rw [HT1.out]
                exact World.ownsRow.kept HR6.out (row := some cb) ⟨rfl, rfl, rfl, by simp, fun i hi hne => Below.heap_setCell w6 ⟨cb, 2, none⟩ _ i (fun e => hne (by rw [e]))⟩ (by
                  by_cases hne : Value.ownBlock (.slice A6 (j + 1) c6) = some cb
                  · have := (World.ownsRow.lt HR6.out _ hne).1
                    omega
                  · exact .inr hne)
              · exact (HBA.out.trans (HB6.out.mono (Nat.le_succ_of_le HCB.out))).setCell HCB.out _
              · intro i q hi hq
                by_cases hij : i < j
                · exact HI5.out.ok i q hij hq
                · obtain rfl : i = j := by omega
                  rw [HP.out] at hq
                  obtain rfl := Option.some.inj hq
                  exact HPO.out
            case measure => have := HJ.out; have := HLT.out; omega
        · have hj1 : ¬ (j : Int) < (o.rcpts.length : Int) := by omega
          obtain rfl : j = o.rcpts.length := by omega
          have HALL : Hid (∀ p ∈ o.rcpts, rightM p = 0 ∧ p.nul = false) := Lib.hid fun p hp => by
            obtain ⟨i, hi⟩ := List.mem_iff_getElem?.1 hp
            exact HI.out.ok i p (List.getElem?_eq_some_iff.1 hi).1 hi
          have hdl : o.data.length ≤ 1048576 := Nat.le_trans HO.out.ld HF.out.cd
          have KS := Lib.hid (stuff_walk wr (HT.out.keep HI.out.bel).tl m.Ad o.data o.data.length m.cd rfl ((HO.out.rd.below HI.out.bel).mono HI.out.bel.size) HO.out.ld HO.out.nd (by have := HO.out.md; unfold maxLen at this; omega) (by omega))
          have HDL := Lib.hid hdl
          clear hlt hj hdl
          go_wp2_with fail
          refine KS.out.mono ?_
          rintro e w5 ⟨hb5, v5, rfl, hV5⟩
          obtain ⟨A5, c5, rfl, -⟩ := id hV5
          have HV5 := Lib.hid hV5
          have HB5 := Lib.hid hb5
          have z3 : w5.cell? ⟨cb, 3, none⟩ = some (.slice none 0 0) := (HI.out.same hb5).blk.cell 3
          have g3 := (HI.out.same hb5).blk.frozen 3
          clear hb5 hV5 KS
          by_cases h6 : contP o.data = 0
          case neg =>
            have HN := Lib.hid (NO.out (w5.setCell ⟨cb, 3, none⟩ (.slice A5 (if contP o.data = 0 then stuffP o.data else []).length c5)) (((HI.out.same HB5.out).bel).setCell HCB.out _) (fun h => h6 h.2.2.2.2.2))
            have g6 : (contP o.data != 0) = true := bne_iff_ne.2 h6
            rw [if_neg h6] at HN ⊢
            clear h6 HV5
            go_wp2_with fail
            exact HN.out
          case pos =>
            have hok : newOk o := ⟨H1.out.1, H1.out.2.1, H1.out.2.2, H5.out, HALL.out, h6⟩
            have hV := HV5.out
            rw [if_pos h6] at hV
            obtain ⟨pb, bb, q, hq, hbk⟩ := HI.out.done HCB.out hok HF.out.nm HDL.out HB5.out rfl hV
            have HY := Lib.hid (YES.out _ cb pb bb q (((HI.out.same HB5.out).bel).setCell HCB.out _) hok hq hbk)
            have g6 : (contP o.data != 0) = false := by rw [h6]; rfl
            rw [if_pos h6]
            have HCP : Hid (contP o.data = 0) := Lib.hid h6
            clear h6 HV5 hok hV hq hbk
            go_wp2_with fail
            exact HY.out
end Go.Proofs.YtjnjnccfojfghaaGreatDoor

/-! smtpc's named on the bundle, to a yes. No condition but the lengths. -/
namespace Go.Proofs.YtjnjnccfojfghaaGreatDoor
open Go.RowKit
set_option linter.unusedVariables false
theorem DoPost.from3 {w w1 w' : World} {cb pb : Nat} {bb : Option Nat} {q : CPts} {c' : ClM} {e : Ending} (hs1 : w.heap.size ≤ w1.heap.size) (hs : Safe (fun k => k < w.heap.size ∧ k ≠ cb ∧ k ≠ pb) w w1) (h : DoPost w1 cb pb bb q c' e w') : DoPost w cb pb bb q c' e w' := by
  obtain ⟨rfl, v', h1, h2, h3⟩ := h
  refine ⟨rfl, v', h1, ?_, (hs.mono fun k hk => ⟨hk.1.1, hk.1.2.1, hk.2⟩).trans (h3.mono fun k hk => ⟨⟨by have := hk.1.1; omega, hk.1.2.1, hk.1.2.2⟩, hk.2⟩)⟩
  rcases h2 with h2 | ⟨p, h2, hp⟩
  · exact .inl h2
  · exact .inr ⟨p, h2, by omega⟩
set_option maxRecDepth 4000 in
set_option maxHeartbeats 4000000 in
theorem named_yes {w : World} {cb pb : Nat} {bb : Option Nat} {c : ClM} {q : CPts} (h : CliP w cb pb bb c q) (hl : CLen c) (hn : c.ppl.length ≤ 1000) {p : Pers} (hp : c.ppl[c.pos]? = some p) {r : Rep} (hr : RepAt w pb r) (hl1 : CLen (nmC0 c 2 r p)) :
    Calls Tryz.prog 59 #[.pointer (some ⟨cb, 0, none⟩), .int .i64 2, r.val] w (DoPost w cb pb bb q (namedC c 2 r p)) := by
  obtain ⟨w1, hw1⟩ : ∃ w1, w.alloc (.cells #[.int .i64 r.code, .slice (some ⟨r.lb, r.lo, none⟩) r.nl r.cl] 57) = w1 := ⟨_, rfl⟩
  have hb1 : Below w.heap.size w w1 := by rw [← hw1]; exact (Below.refl _ _).alloc (Nat.le_refl _) _
  have ev : r.val = .agg #[.int .i64 r.code, .slice (some ⟨r.lb, r.lo, none⟩) r.nl r.cl] := rfl
  have hc1 := h.same hb1
  have hpos := (List.getElem?_eq_some_iff.1 hp).1
  have k2 : w1.cell? ⟨cb, 2, none⟩ = some (.slice (some ⟨pb, 0, none⟩) c.ppl.length q.cpp) := hc1.blk.cell 2
  have k5 : w1.cell? ⟨cb, 5, none⟩ = some (.int .i64 (c.pos : Int)) := hc1.blk.cell 5
  have hpi : (c.pos : Int) < (c.ppl.length : Int) := by omega
  have hp0 : (0 : Int) ≤ (c.pos : Int) := by omega
  have HC := Lib.hid hc1
  have HB1 := Lib.hid hb1
  have HPP := Lib.hid hp
  have HL := Lib.hid hl
  have HN := Lib.hid hn
  rw [ev]
  have PO : Hid (∀ w4 w' e, w.heap.size ≤ w4.heap.size → Safe (fun k => k < w.heap.size ∧ k ≠ cb ∧ k ≠ pb) w w4 → DoPost w4 cb pb bb q (begC (nmC0 c 2 r p) (nmK (nmC0 c 2 r p))) e w' → DoPost w cb pb bb q (namedC c 2 r p) e w') := Lib.hid fun w4 w' e h1 h2 h3 => DoPost.from3 h1 h2 h3
  have HNP : Hid (nmC0 c 2 r p = { c with ppl := c.ppl.set c.pos { p with taken := true }, pos := c.pos + 1 }) := Lib.hid rfl
  have HL1 := Lib.hid hl1
  generalize DoPost w cb pb bb q (namedC c 2 r p) = Post at *
  have hpc := h.pc
  have hcp : cb ≠ pb := fun e => hpc e.symm
  clear h hr hb1 hc1 hp hl hl1
  go_enter Tryz.func59, Tryz.ntmps59
  go_upto_region 1 with fail
  go_quiet (fail)
  go_upto_region 2 with fail
  have HB2 := Lib.hid (bdrewN HB1.out nq)
  have HC2 := Lib.hid (HC.out.same (bdrewN (Below.refl _ _) nq))
  generalize w1.drewN nq = w2 at *
  obtain ⟨c0, c1, c2', c3, c4⟩ := HC2.out.ppl.at_ HPP.out
  have f1 := HC2.out.ppl.fz (c.pos * 5 + 1)
  have k5b : w2.cell? ⟨cb, 5, none⟩ = some (.int .i64 (c.pos : Int)) := HC2.out.blk.cell 5
  have f5 := HC2.out.blk.frozen 5
  have hwr : IntKind.i64.wrap ((c.pos : Int) + 1) = (c.pos : Int) + 1 := IntWalk.i64_in _ (by omega)
  have HS3 : Hid (CliP ((w2.setCell ⟨pb, c.pos * 5 + 1, none⟩ (.bool true)).setCell ⟨cb, 5, none⟩ (.int .i64 ((c.pos : Int) + 1))) cb pb bb (nmC0 c 2 r p) q) := Lib.hid (by
    rw [HNP.out]
    exact (HC2.out.people ((Only.refl w2).set_ _ _) (by rw [List.length_set]) (HC2.out.ppl.take_ HPP.out true)).pos_ (c.pos + 1))
  have HF3 : Hid (Safe (fun k => k < w.heap.size ∧ k ≠ cb ∧ k ≠ pb) w ((w2.setCell ⟨pb, c.pos * 5 + 1, none⟩ (.bool true)).setCell ⟨cb, 5, none⟩ (.int .i64 ((c.pos : Int) + 1)))) := Lib.hid (((Safe.of_below HB2.out (fun k hk => hk.1)).set_ (p := ⟨pb, c.pos * 5 + 1, none⟩) (fun hk => hk.2.2 rfl) _).set_ (p := ⟨cb, 5, none⟩) (fun hk => hk.2.1 rfl) _)
  have HZ3 : Hid (w.heap.size ≤ ((w2.setCell ⟨pb, c.pos * 5 + 1, none⟩ (.bool true)).setCell ⟨cb, 5, none⟩ (.int .i64 ((c.pos : Int) + 1))).heap.size) := Lib.hid (by simp; exact HB2.out.size)
  clear k2 k5
  go_upto_region 7 with fail
  generalize (w2.setCell ⟨pb, c.pos * 5 + 1, none⟩ (.bool true)).setCell ⟨cb, 5, none⟩ (.int .i64 ((c.pos : Int) + 1)) = w3 at *
  have HAN : Hid ((nmC0 c 2 r p).ppl.any (·.taken) = true) := Lib.hid (by
    rw [HNP.out]
    refine List.any_eq_true.2 ⟨{ p with taken := true }, ?_, rfl⟩
    exact List.mem_of_getElem? (List.getElem?_set_self (List.getElem?_eq_some_iff.1 HPP.out).1))
  have HLE : Hid ((nmC0 c 2 r p).ppl.length ≤ 1000) := Lib.hid (by rw [HNP.out]; show (c.ppl.set _ _).length ≤ 1000; rw [List.length_set]; exact HN.out)
  have HKK : Hid (∀ c1, nmK c1 = if c1.pos < c1.ppl.length then 4 else if c1.ppl.any (·.taken) then 5 else 7) := Lib.hid fun _ => rfl
  obtain ⟨d, hd⟩ : ∃ d, nmC0 c 2 r p = d := ⟨_, rfl⟩
  rw [hd] at HAN HLE HS3 PO HL1
  clear hd
  have k2c : w3.cell? ⟨cb, 2, none⟩ = some (.slice (some ⟨pb, 0, none⟩) d.ppl.length q.cpp) := HS3.out.blk.cell 2
  have k5c : w3.cell? ⟨cb, 5, none⟩ = some (.int .i64 (d.pos : Int)) := HS3.out.blk.cell 5
  clear c0 c1 c2' c3 c4 f1 k5b f5 hwr
  go_quiet (fail)
  have HS4 := Lib.hid (HS3.out.same (bdrewN (Below.refl _ _) nq))
  have HF4 : Hid (Safe (fun k => k < w.heap.size ∧ k ≠ cb ∧ k ≠ pb) w (w3.drewN nq)) := Lib.hid (HF3.out.drewN nq)
  have HZ4 : Hid (w.heap.size ≤ (w3.drewN nq).heap.size) := Lib.hid HZ3.out
  have k2d : (w3.drewN nq).cell? ⟨cb, 2, none⟩ = some (.slice (some ⟨pb, 0, none⟩) d.ppl.length q.cpp) := k2c
  clear k2c k5c
  generalize w3.drewN nq = w4 at *
  by_cases hlt : d.pos < d.ppl.length
  · have hk : nmK d = 4 := by rw [HKK.out, if_pos hlt]
    rw [hk] at PO
    have hli : (d.pos : Int) < (d.ppl.length : Int) := by omega
    have K := Lib.hid ((do_begin HS4.out HL1.out 4 (by decide) (by decide) (fun _ => hlt)).mono (fun e w' hd => (⟨hd.1, PO.out _ _ _ HZ4.out HF4.out hd⟩ : e = .returned (.tuple #[]) ∧ Post e w')))
    clear hlt hk
    go_wp2_with fail
    refine K.out.mono ?_
    rintro e w5 ⟨rfl, hp⟩
    have HP := Lib.hid hp
    clear hp
    go_wp2_with fail
    refine bodyPost_end (v := .tuple #[]) (by simp [results, show (Tryz.f59).results = #[] from rfl]) rfl ?_
    exact HP.out
  · have hk : nmK d = 5 := by rw [HKK.out, if_neg hlt, HAN.out]; rfl
    rw [hk] at PO
    have hli : ¬ (d.pos : Int) < (d.ppl.length : Int) := by omega
    have KA := Lib.hid (any_walk w4 pb q.cpp d.ppl d.ppl.length rfl HS4.out.ppl HLE.out)
    rw [HAN.out] at KA
    have K := Lib.hid (fun w5 (hb5 : Below w4.heap.size w4 w5) => (do_begin (HS4.out.same hb5) HL1.out 5 (by decide) (by decide) (fun h => by cases h)).mono (fun e w' hd => (⟨hd.1, PO.out _ _ _ HZ4.out HF4.out (DoPost.from_ hb5 hd)⟩ : e = .returned (.tuple #[]) ∧ Post e w')))
    clear hlt hk
    go_wp2_with fail
    refine KA.out.mono ?_
    rintro e w5 ⟨hb5, rfl⟩
    have K5 := Lib.hid (K.out w5 hb5)
    clear hb5
    go_wp2_with fail
    refine K5.out.mono ?_
    rintro e w6 ⟨rfl, hp⟩
    have HP := Lib.hid hp
    clear hp
    go_wp2_with fail
    refine bodyPost_end (v := .tuple #[]) (by simp [results, show (Tryz.f59).results = #[] from rfl]) rfl ?_
    exact HP.out
end Go.Proofs.YtjnjnccfojfghaaGreatDoor
