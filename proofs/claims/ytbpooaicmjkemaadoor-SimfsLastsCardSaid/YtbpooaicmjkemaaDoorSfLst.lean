/-
  The walk of SimfsLasts (printed by gen_lst.py). Conditions: the sizes.
-/
import Derived.Test.YtbpooaicmjkemaaDoorSfLw
import Derived.Deep.CutBlock
import Derived.Deep.DeepCutAuto
namespace Go.Proofs.YtbpooaicmjkemaaDoor
open Go.RowKit Go.Maps
set_option linter.unusedVariables false
def pkp : Tx := [97, 47, 107, 101, 101, 112]
def cus : Tx := [99, 117, 115, 116, 111, 100, 121]
def l1M (d : Dk) (x : Dd) : Dk := if x.kind < 7 then (doesM d x).1 else d
def l2M (d : Dk) (x : Dd) : Dk := if x.kind < 7 ∧ ¬ x.path = pkp ∧ ¬ x.tt = pkp then (doesM d x).1 else d
section
variable {d : Dk} {K : Nat}
theorem l1_calm (h : Wf d K) (hc : Calm d) {x : Dd} (hk : x.kind < 7) : Calm (doesM d x).1 :=
  (apart_does (S := fun _ => False) (fun p h => h.elim) h hc hk (fun h => h) (fun h => h)).calm
theorem pkp_ne : pkp ≠ [] := by unfold pkp; decide
theorem l2_la (h : Wf d K) (hl : LaI pkp cus d) {x : Dd} (hk : x.kind < 7) (hp : ¬ x.path = pkp) (ht : ¬ x.tt = pkp) : LaI pkp cus (doesM d x).1 :=
  hl.apart pkp_ne h (apart_does (S := (· = pkp)) (fun p hp => by rw [hp]; exact pkp_ne) h hl.calm hk hp ht)
end
theorem ini_calm (q : Int) : Calm (ini q) := ⟨rfl, rfl, rfl⟩
set_option maxRecDepth 100000 in
set_option maxHeartbeats 8000000 in
theorem lasts_walk (W : World) (A0 A1 : Option Addr) (D0 D1 : List Dd) (n0 c0 n1 c1 : Nat) (hn0 : n0 = D0.length) (hn1 : n1 = D1.length) (hc0 : n0 ≤ 140737488351232) (hc1 : n1 ≤ 140737488351232) (h0 : RDs W W.heap.size A0 D0) (h1 : RDs W W.heap.size A1 D1) (m : DdV) (kc : List Bool) (kw : List Int) (hk : KeepR W W.heap.size kc kw m) :
    Calls Tryd.prog 3 #[.slice A0 n0 c0, .slice A1 n1 c1, .agg #[.slice m.Ac kc.length m.cc, .slice m.Aw kw.length m.cw]] W fun e W' => Below W.heap.size W W' ∧ e = .returned (.bool true) := by
  obtain ⟨mA, mc, Ac, cc, Aw, cw⟩ := m
  show Calls _ _ #[.slice A0 n0 c0, .slice A1 n1 c1, .agg #[.slice Ac kc.length cc, .slice Aw kw.length cw]] W _
  have hbx := (Below.refl W.heap.size W).alloc (Nat.le_refl _) (.cells #[.slice Ac kc.length cc, .slice Aw kw.length cw] 26)
  have HBX := Lib.hid hbx
  have HK0 := Lib.hid (Blk.new W 26 #[.slice Ac kc.length cc, .slice Aw kw.length cw])
  have HKR := Lib.hid (hk.below hbx)
  have HR0 := Lib.hid (h0.below hbx)
  have HR1 := Lib.hid (h1.below hbx)
  have HN0 := Lib.hid hn0
  have HN1 := Lib.hid hn1
  have HSZ : Hid (W.heap.size ≤ (W.alloc (.cells #[.slice Ac kc.length cc, .slice Aw kw.length cw] 26)).heap.size ∧ W.heap.size < (W.alloc (.cells #[.slice Ac kc.length cc, .slice Aw kw.length cw] 26)).heap.size) := Lib.hid (by simp)
  clear hbx hk h0 h1 hn0 hn1
  go_enter Tryd.func3, Tryd.ntmps3
  go_upto_region 1 with fail
  generalize hW1 : W.alloc (.cells #[.slice Ac kc.length cc, .slice Aw kw.length cw] 26) = W1 at *
  clear hW1
  have KSh := Lib.hid (shown_walk W1)
  go_wp2_with fail
  refine KSh.out.mono ?_
  rintro e w2 ⟨hb2, rfl⟩
  have HB2 : Hid (Below W1.heap.size W1 (w2.alloc (.cells #[.string ⟨#[97]⟩, .string ⟨#[98]⟩] 9))) := Lib.hid (hb2.alloc hb2.size _)
  have KN : Hid (Calls Tryd.prog 5 #[.int .i64 100000, .slice (some ⟨w2.heap.size, 0, none⟩) 2 2] (w2.alloc (.cells #[.string ⟨#[97]⟩, .string ⟨#[98]⟩] 9)) (NewPost 0 (w2.alloc (.cells #[.string ⟨#[97]⟩, .string ⟨#[98]⟩] 9)) (fun _ => (0, 0)) (initM 100000 [[97], [98]]))) := Lib.hid (new_walk 0 _ _ 100000 (some ⟨w2.heap.size, 0, none⟩) 2 2 [[97], [98]] rfl (rsx2 w2 [97] [98]) (by unfold maxLen; omega) (by omega) (fun p hp => by
    have : p.length = 1 := by
      rcases List.mem_cons.1 hp with rfl | hp
      · rfl
      · obtain rfl := List.mem_singleton.1 hp; rfl
    rw [this]; unfold maxLen; omega))
  clear hb2 KSh
  go_wp2_with fail
  refine KN.out.mono ?_
  intro e w3 hp
  obtain ⟨db, own3, hi, rfl⟩ := LwI.start (W := W1) HB2.out init_ab hp
  have HI3 := Lib.hid hi
  clear hp hi KN HB2
  unfold ptrV
  have hpx : pkp.length ≤ maxLen := by unfold maxLen pkp; simp
  have HPX := Lib.hid hpx
  clear hpx
  go_upto_region 5 with fail
  go_upto_block 0 with fail
  go_cut [10] from 35 to 56 (fun sx wx => ∃ (own' : Nat → Nat × Nat) (d' : Dk), Hid (LwI W1 0 db wx own' d' 60) ∧ Hid (Calm d') ∧ Hid (d'.dirs = [[97], [98]]))
  case first =>
    go_wp2_with fail
    go_loopg [10] 60 (fun k sx wr => ∃ (i : Nat) (own' : Nat → Nat × Nat) (d' : Dk), sx = .int .i64 (i : Int) ∧ i + k = 60 ∧ Hid (LwI W1 0 db wr own' d' (0 + i)) ∧ Hid (Calm d') ∧ Hid (d'.dirs = [[97], [98]]))
    case atStart => exact ⟨0, _, _, rfl, by omega, HI3, Lib.hid (ini_calm _), Lib.hid rfl⟩
    case round =>
      obtain ⟨i, own', d', rfl, hi, HI, HM, HDD⟩ := hrel
      by_cases hlt : i < n0
      · have hlt1 : (i : Int) < (n0 : Int) := by omega
        by_cases h60 : i < 60
        · have h601 : (i : Int) < 60 := by omega
          obtain ⟨x, hx⟩ : ∃ x, D0[i]? = some x := ⟨_, List.getElem?_eq_getElem (by rw [← HN0.out]; exact hlt)⟩
          obtain ⟨b, off, m', rfl, hc, hd⟩ := HR0.out.get (HI.out.b.mono HSZ.out.1) hx
          have HXN : Hid (x.n ≤ 9223372036854775807) := Lib.hid hd.n0.2
          have KA := Lib.hid (does_walk HI.out.dk (by omega) x m' hd (Nat.le_trans HSZ.out.1 HI.out.b.size) (fun k hk => by rw [HI.out.m k (Nat.lt_of_lt_of_le hk HSZ.out.1)]; exact not_isD0 0))
          unfold ddC at hc KA
          unfold ptrV at KA
          have q0 := hc 0 _ rfl
          have q1 := hc 1 _ rfl
          have q2 := hc 2 _ rfl
          have q3 := hc 3 _ rfl
          have q4 := hc 4 _ rfl
          have q5 := hc 5 _ rfl
          have q6 := hc 6 _ rfl
          have q7 := hc 7 _ rfl
          rw [Nat.add_zero] at q0
          have HII := Lib.hid hi
          clear hc hd hx hi
          by_cases hk7 : x.kind < 7
          · have HCM := Lib.hid (l1_calm HI.out.dk.wf HM.out hk7)
            go_wp2_with fail
            refine KA.out.mono ?_
            intro e w8 hp
            obtain ⟨own8, hi8, -, rfl⟩ := HI.out.op (d' := (doesM d' x).1) (c := (doesM d' x).2) x HXN.out rfl hp
            have HI8 := Lib.hid hi8
            clear hp hi8 KA q0 q1 q2 q3 q4 q5 q6 q7
            generalize (doesM d' x).2 = cd at *
            go_wp2_with fail
            go_roundg (gk - 1)
            case rel => exact ⟨i + 1, own8, _, by go_num, by have := HII.out; omega, HI8, HCM, Lib.hid ((does_dirs d' x).trans HDD.out)⟩
            case measure => have := HII.out; omega
          · clear KA
            go_wp2_with fail
            go_roundg (gk - 1)
            case rel => exact ⟨i + 1, own', d', by go_num, by have := HII.out; omega, Lib.hid (HI.out.mono (by omega)), HM, HDD⟩
            case measure => have := HII.out; omega
        · have h601 : ¬ (i : Int) < 60 := by omega
          have HIX : Hid (LwI W1 0 db wr own' d' 60) := Lib.hid (HI.out.mono (by omega))
          clear hi HI
          go_wp2_with fail
          go_meet
          case rel => exact ⟨own', d', HIX, HM, HDD⟩
      · have hlt1 : ¬ (i : Int) < (n0 : Int) := by omega
        have HIX : Hid (LwI W1 0 db wr own' d' 60) := Lib.hid (HI.out.mono (by omega))
        clear hi HI
        go_wp2_with fail
        go_meet
        case rel => exact ⟨own', d', HIX, HM, HDD⟩
  case rest =>
    obtain ⟨own4, d0, HI4, HM4, HD4⟩ := hcut
    clear HI3
    obtain ⟨d1, hd1⟩ : ∃ d1, (unlinkM d0 pkp).1 = d1 := ⟨_, rfl⟩
    obtain ⟨r2, hd2⟩ : ∃ r2, createM d1 pkp = r2 := ⟨_, rfl⟩
    obtain ⟨r3, hd3⟩ : ∃ r3, appendM r2.1 pkp cus = r3 := ⟨_, rfl⟩
    obtain ⟨r4, hd4⟩ : ∃ r4, syncM r3.1 pkp = r4 := ⟨_, rfl⟩
    obtain ⟨r5, hd5⟩ : ∃ r5, syncDirM r4.1 [97] = r5 := ⟨_, rfl⟩
    have HLB := Lib.hid (lasts_begin (p := pkp) (dir := [97]) (c := cus) HI4.out.dk.wf HM4.out (by rw [HD4.out]; decide) (by decide) (by rw [HD4.out]; decide) d1 r2.1 r3.1 r4.1 r5.1 r2.2 r3.2 r4.2 r5.2 hd1 hd2 hd3 hd4 hd5)
    have K4 : Hid (Calls Tryd.prog 7 #[.pointer (some ⟨db, 0, none⟩), .string ⟨#[97, 47, 107, 101, 101, 112]⟩] wc (OpPost 0 wc own4 db (unlinkM d0 pkp))) := Lib.hid (unlink_op HI4.out.dk (by omega) pkp HPX.out)
    have H1 := Lib.hid hd1
    have H2 := Lib.hid hd2
    have H3 := Lib.hid hd3
    have H4 := Lib.hid hd4
    have H5 := Lib.hid hd5
    clear hd1 hd2 hd3 hd4 hd5
    go_wp2_with fail
    refine K4.out.mono ?_
    intro e w5 hp
    obtain ⟨own5, hi, -, rfl⟩ := HI4.out.op (d' := d1) (c := (unlinkM d0 pkp).2) ⟨5, pkp, [], [], 0, 0, [], []⟩ (by decide) (show unlinkM d0 pkp = (d1, (unlinkM d0 pkp).2) by rw [← H1.out]) hp
    have HI5 := Lib.hid hi
    clear hp hi K4
    generalize (unlinkM d0 pkp).2 = cu at *
    have K5 : Hid (Calls Tryd.prog 8 #[.pointer (some ⟨db, 0, none⟩), .string ⟨#[97, 47, 107, 101, 101, 112]⟩] w5 (OpPost 0 w5 own5 db (createM d1 pkp))) := Lib.hid (create_op HI5.out.dk (by omega) pkp HPX.out)
    go_wp2_with fail
    refine K5.out.mono ?_
    intro e w6 hp
    obtain ⟨own6, hi, -, rfl⟩ := HI5.out.op (d' := r2.1) (c := r2.2) ⟨0, pkp, [], [], 0, 0, [], []⟩ (by decide) H2.out hp
    have HI6 := Lib.hid hi
    clear hp hi K5
    have HN6 := Lib.hid (RB.mark w6 5 #[.int .u8 99, .int .u8 117, .int .u8 115, .int .u8 116, .int .u8 111, .int .u8 100, .int .u8 121] (7, 8) cus rfl)
    have HA6 := Lib.hid ((Below.refl w6.heap.size w6).alloc (Nat.le_refl _) (.cells #[.int .u8 99, .int .u8 117, .int .u8 115, .int .u8 116, .int .u8 111, .int .u8 100, .int .u8 121] 5 (7, 8)))
    have hcv6 := Lib.run_convert_bytes_const (P := Tryd.prog) w6 33 5 #[.int .u8 99, .int .u8 117, .int .u8 115, .int .u8 116, .int .u8 111, .int .u8 100, .int .u8 121] 7 7 Tryd.underlying33 Tryd.underlying5
    have HJ6 := Lib.hid (HI6.out.below HA6.out)
    have K6 : Hid (Calls Tryd.prog 9 #[.pointer (some ⟨db, 0, none⟩), .string ⟨#[97, 47, 107, 101, 101, 112]⟩, .slice (some ⟨w6.heap.size, 0, none⟩) 7 7] (w6.alloc (.cells #[.int .u8 99, .int .u8 117, .int .u8 115, .int .u8 116, .int .u8 111, .int .u8 100, .int .u8 121] 5 (7, 8))) (OpPost 0 (w6.alloc (.cells #[.int .u8 99, .int .u8 117, .int .u8 115, .int .u8 116, .int .u8 111, .int .u8 100, .int .u8 121] 5 (7, 8))) (cutM w6 own6) db (appendM r2.1 pkp cus))) := Lib.hid (append_op HJ6.out.dk (by omega) pkp HPX.out cus _ 7 7 rfl HN6.out (fun h => by cases h) (by omega) (by unfold maxLen; omega))
    go_wp2_with fail
    refine K6.out.mono ?_
    intro e w7 hp
    obtain ⟨own7, hi, -, rfl⟩ := HJ6.out.op (d' := r3.1) (c := r3.2) ⟨1, pkp, [], cus, 0, 0, [], []⟩ (by decide) H3.out hp
    have HI7 := Lib.hid hi
    clear hp hi K6 hcv6
    have K7 : Hid (Calls Tryd.prog 10 #[.pointer (some ⟨db, 0, none⟩), .string ⟨#[97, 47, 107, 101, 101, 112]⟩] w7 (OpPost 0 w7 own7 db (syncM r3.1 pkp))) := Lib.hid (sync_op HI7.out.dk (by omega) pkp HPX.out)
    go_wp2_with fail
    refine K7.out.mono ?_
    intro e w8 hp
    obtain ⟨own8, hi, -, rfl⟩ := HI7.out.op (d' := r4.1) (c := r4.2) ⟨3, pkp, [], [], 0, 0, [], []⟩ (by decide) H4.out hp
    have HI8 := Lib.hid hi
    clear hp hi K7
    have K8 : Hid (Calls Tryd.prog 11 #[.pointer (some ⟨db, 0, none⟩), .string ⟨#[97]⟩] w8 (OpPost 0 w8 own8 db (syncDirM r4.1 [97]))) := Lib.hid (syncDir_op HI8.out.dk (by omega) [97] (by unfold maxLen; simp))
    go_wp2_with fail
    refine K8.out.mono ?_
    intro e w9 hp
    obtain ⟨own9, hi, -, rfl⟩ := HI8.out.op (d' := r5.1) (c := r5.2) ⟨6, [], [97], [], 0, 0, [], []⟩ (by decide) H5.out hp
    have HI9 : Hid (LwI W1 0 db w9 own9 r5.1 65) := Lib.hid hi
    clear hp hi K8 HI4 HI5 HI6 HJ6 HI7 HI8 HN6 HA6 H1 H2 H3 H4 H5
    have HBF : Hid (Below W.heap.size W w9) := Lib.hid (HBX.out.trans (HI9.out.b.mono HBX.out.size))
    obtain ⟨f, hf⟩ : ∃ f, r2.2 = f := ⟨_, rfl⟩
    obtain ⟨g, hg⟩ : ∃ g, r3.2 = g := ⟨_, rfl⟩
    obtain ⟨h, hh⟩ : ∃ h, r4.2 = h := ⟨_, rfl⟩
    obtain ⟨i5, hi5⟩ : ∃ i5, r5.2 = i5 := ⟨_, rfl⟩
    rw [hf, hg, hh, hi5] at HLB
    rw [hf, hg, hh, hi5]
    clear hf hg hh hi5
    by_cases hf0 : f = 0
    · subst hf0
      by_cases hg0 : g = 0
      · subst hg0
        obtain ⟨h1, h2, hla⟩ := HLB.out.1 ⟨rfl, rfl⟩
        subst h1 h2
        have HLA := Lib.hid hla
        clear hla HLB
        generalize r5.1 = d9 at *
        clear r2 r3 r4 r5
        go_upto_region 17 with fail
        go_upto_block 2 with fail
        go_cut [15, 16] from 89 to 118 (fun sx sy wx => ∃ (own' : Nat → Nat × Nat) (d' : Dk), Hid (LwI W1 0 db wx own' d' 125) ∧ Hid (LaI pkp cus d'))
        case first =>
          go_wp2_with fail
          go_loopg [15, 16] 60 (fun k sx sy wr => ∃ (i : Nat) (own' : Nat → Nat × Nat) (d' : Dk), sx = .int .i64 (i : Int) ∧ i + k = 60 ∧ Hid (LwI W1 0 db wr own' d' (65 + i)) ∧ Hid (LaI pkp cus d'))
          case atStart => exact ⟨0, _, _, rfl, by omega, HI9, HLA⟩
          case round =>
            obtain ⟨i, own', d', rfl, hi, HI, HM⟩ := hrel
            by_cases hlt : i < n1
            · have hlt1 : (i : Int) < (n1 : Int) := by omega
              by_cases h60 : i < 60
              · have h601 : (i : Int) < 60 := by omega
                obtain ⟨x, hx⟩ : ∃ x, D1[i]? = some x := ⟨_, List.getElem?_eq_getElem (by rw [← HN1.out]; exact hlt)⟩
                obtain ⟨b, off, m', rfl, hc, hd⟩ := HR1.out.get (HI.out.b.mono HSZ.out.1) hx
                have HXN : Hid (x.n ≤ 9223372036854775807) := Lib.hid hd.n0.2
                have hba := (Below.refl wr.heap.size wr).alloc (Nat.le_refl _) (.cells (ddC x m').toArray 35)
                have HBX8 := Lib.hid (Blk.new wr 35 (ddC x m').toArray)
                have HIa := Lib.hid (HI.out.below hba)
                have hWs := HI.out.b.size
                have KA := Lib.hid (does_walk HIa.out.dk (by omega) x m' (hd.below (hba.mono (Nat.le_trans HSZ.out.1 hWs))) (Nat.le_trans HSZ.out.1 HIa.out.b.size) (fun k hk => by rw [HIa.out.m k (Nat.lt_of_lt_of_le hk HSZ.out.1)]; exact not_isD0 0))
                unfold ddC at *
                unfold ptrV at KA
                have q0 := hc 0 _ rfl
                have q1 := hc 1 _ rfl
                have q2 := hc 2 _ rfl
                have q3 := hc 3 _ rfl
                have q4 := hc 4 _ rfl
                have q5 := hc 5 _ rfl
                have q6 := hc 6 _ rfl
                have q7 := hc 7 _ rfl
                rw [Nat.add_zero] at q0
                have x0 := HBX8.out.cell 0
                have x1 := HBX8.out.cell 1
                have x2 := HBX8.out.cell 2
                have x3 := HBX8.out.cell 3
                have x4 := HBX8.out.cell 4
                have x5 := HBX8.out.cell 5
                have x6 := HBX8.out.cell 6
                have x7 := HBX8.out.cell 7
                have HII := Lib.hid hi
                clear hc hd hx hi hba
                have skip : Hid (LwI W1 0 db (wr.alloc (.cells #[.int .i64 x.kind, .string (bs x.path), .string (bs x.tt), .slice m'.A x.b.length m'.c, .int .i64 x.n, .int .i64 x.e, .slice m'.Ac x.kc.length m'.cc, .slice m'.Aw x.kw.length m'.cw] 35)) (cutM wr own') d' (65 + (i + 1))) := Lib.hid (HIa.out.mono (by omega))
                by_cases hk7 : x.kind < 7
                · by_cases e1 : x.path = pkp
                  · have p1 : bs x.path = ⟨#[97, 47, 107, 101, 101, 112]⟩ := by rw [e1]; rfl
                    rw [p1] at skip
                    clear KA e1
                    go_wp2_with fail
                    go_roundg (gk - 1)
                    case rel => exact ⟨i + 1, _, d', by go_num, by have := HII.out; omega, skip, HM⟩
                    case measure => have := HII.out; omega
                  · have p1 : ¬ (bs x.path).toList = [97, 47, 107, 101, 101, 112] := by rw [bs_nil]; exact e1
                    have p1b : ((bs x.path).toList == [97, 47, 107, 101, 101, 112]) = false := beq_eq_false_iff_ne.2 p1
                    by_cases e2 : x.tt = pkp
                    · have p2 : bs x.tt = ⟨#[97, 47, 107, 101, 101, 112]⟩ := by rw [e2]; rfl
                      rw [p2] at skip
                      clear KA e2
                      go_wp2_with fail
                      go_roundg (gk - 1)
                      case rel => exact ⟨i + 1, _, d', by go_num, by have := HII.out; omega, skip, HM⟩
                      case measure => have := HII.out; omega
                    · have p2 : ¬ (bs x.tt).toList = [97, 47, 107, 101, 101, 112] := by rw [bs_nil]; exact e2
                      have p2b : ((bs x.tt).toList == [97, 47, 107, 101, 101, 112]) = false := beq_eq_false_iff_ne.2 p2
                      have HCM := Lib.hid (l2_la HIa.out.dk.wf HM.out hk7 e1 e2)
                      clear skip
                      go_wp2_with fail
                      refine KA.out.mono ?_
                      intro e w8 hp
                      obtain ⟨own8, hi8, -, rfl⟩ := HIa.out.op (d' := (doesM d' x).1) (c := (doesM d' x).2) x HXN.out rfl hp
                      have HI8 := Lib.hid hi8
                      clear hp hi8 KA q0 q1 q2 q3 q4 q5 q6 q7 x0 x1 x2 x3 x4 x5 x6 x7
                      generalize (doesM d' x).2 = cd at *
                      go_wp2_with fail
                      go_roundg (gk - 1)
                      case rel => exact ⟨i + 1, own8, _, by go_num, by have := HII.out; omega, HI8, HCM⟩
                      case measure => have := HII.out; omega
                · clear KA
                  go_wp2_with fail
                  go_roundg (gk - 1)
                  case rel => exact ⟨i + 1, _, d', by go_num, by have := HII.out; omega, skip, HM⟩
                  case measure => have := HII.out; omega
              · have h601 : ¬ (i : Int) < 60 := by omega
                have HIX : Hid (LwI W1 0 db wr own' d' 125) := Lib.hid (HI.out.mono (by omega))
                clear hi HI
                go_wp2_with fail
                go_meet
                case rel => exact ⟨own', d', HIX, HM⟩
            · have hlt1 : ¬ (i : Int) < (n1 : Int) := by omega
              have HIX : Hid (LwI W1 0 db wr own' d' 125) := Lib.hid (HI.out.mono (by omega))
              clear hi HI
              go_wp2_with fail
              go_meet
              case rel => exact ⟨own', d', HIX, HM⟩
        case rest =>
          obtain ⟨own10, d10, HI10, HM10⟩ := hcut
          have hB := HK0.out.below HI10.out.b HSZ.out.2
          have x0 := hB.cell 0
          have x1 := hB.cell 1
          have hbk := HI10.out.b.mono HSZ.out.1
          have hzk : ∀ k, k < W.heap.size → ¬ isD 0 (own10 k) := fun k hk => by rw [HI10.out.m k (Nat.lt_of_lt_of_le hk HSZ.out.1)]; exact not_isD0 0
          have KC : Hid (Calls Tryd.prog 12 #[.pointer (some ⟨db, 0, none⟩), .agg #[.slice Ac kc.length cc, .slice Aw kw.length cw]] wc (EntPost 0 wc own10 db (crashM d10 kc kw))) := Lib.hid (crash_walk HI10.out.dk.dk HI10.out.dk.wf (by omega) kc kw Ac Aw cc cw ⟨HKR.out.lc, HKR.out.mc⟩ ⟨HKR.out.lw, HKR.out.mw⟩ (RT.rco (w0 := W) (HKR.out.rc.below hbk) (Nat.le_trans HSZ.out.1 HI10.out.b.size) hzk) (RI.rco (HKR.out.rw_.below hbk) (Nat.le_trans HSZ.out.1 HI10.out.b.size) hzk) HKR.out.zw)
          clear hB hbk hzk
          go_wp2_with fail
          refine KC.out.mono ?_
          intro e w11 hp
          obtain ⟨own11, hi, -, rfl⟩ := HI10.out.ent kc kw hp
          have HI11 := Lib.hid hi
          obtain ⟨hr1, hr2⟩ := HM10.out.crash pkp_ne HI10.out.dk.wf kc kw
          have KR : Hid (Calls Tryd.prog 13 #[.pointer (some ⟨db, 0, none⟩), .string ⟨#[97, 47, 107, 101, 101, 112]⟩] w11 (ReadPost w11 cus 0)) := Lib.hid (by
            have := read_op HI11.out.dk pkp HPX.out
            unfold readM at this
            rw [if_pos hr1, hr2, hr1] at this
            exact this)
          have HBF2 : Hid (Below W.heap.size W w11) := Lib.hid (HBX.out.trans (HI11.out.b.mono HBX.out.size))
          clear hp hi KC x0 x1 HI10 HM10 HI11 hr1 hr2
          go_wp2_with fail
          refine KR.out.mono ?_
          rintro e w12 ⟨hb12, g12, A12, rfl, hO12⟩
          have HBF3 : Hid (Below W.heap.size W w12) := Lib.hid (HBF2.out.trans (hb12.mono HBF2.out.size))
          have hrb := hO12.rb.1
          unfold cus at hrb
          have cv := run_convRB (P := Tryd.prog) 33 9 5 Tryd.underlying33 Tryd.underlying5 Tryd.underlying9 hrb 7 7 rfl
          clear hb12 hO12 hrb KR
          unfold cus
          go_wp2_with fail
          go_ret
          exact ⟨HBF3.out, rfl⟩
      · obtain rfl : g = 15 := HLB.out.2.1 ⟨rfl, hg0⟩
        clear HLB hg0
        go_wp2_with fail
        go_ret
        exact ⟨HBF.out, rfl⟩
    · obtain rfl : f = 14 := HLB.out.2.2 hf0
      clear HLB hf0
      go_wp2_with fail
      go_ret
      exact ⟨HBF.out, rfl⟩
end Go.Proofs.YtbpooaicmjkemaaDoor
