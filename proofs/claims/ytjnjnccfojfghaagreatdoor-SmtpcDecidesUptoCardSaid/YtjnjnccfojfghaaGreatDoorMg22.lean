/-
  Several texts in one: ScDmn2, IdxS, PCont. Conditions: each part names its own.
-/
import Derived.Test.YtjnjnccfojfghaaGreatDoorMg21
import Derived.Test.YtjnjnccfojfghaaGreatDoorMg6
import Derived.Test.YtjnjnccfojfghaaGreatDoorMg7
import Derived.Lib.SlBytesConst
set_option linter.unusedSimpArgs false
/-! The walk of path.Domain on a literal in its brackets. Condition: the text's length, what the tables hold. -/
namespace Go.Proofs.YtjnjnccfojfghaaGreatDoor
open Go.RowKit
set_option linter.unusedVariables false
theorem sl_both (l : Tx) (j k : Nat) (h1 : j ≤ k) (h2 : k ≤ l.length) (W : World) : (Instr.slice 9 (.string (bs l)) (some (.int .i64 (j : Int))) (some (.int .i64 (k : Int))) none).run Tryz.prog W = .ok (.string (bs ((l.drop j).take (k - j)))) W := by
  have e1 : (j : Int) ≤ (k : Int) := by omega
  have e2 : (k : Int) ≤ ((bs l).size : Int) := by rw [bs_size]; omega
  rw [← bs_extract]
  simp [Instr.slice, run_underlying Tryz.underlying9, Instr.sliceBounds, run_sliceBound, e1, e2, bs_size, h1, h2]
theorem sl_lo (l : Tx) (j : Nat) (h1 : j ≤ l.length) (W : World) : (Instr.slice 9 (.string (bs l)) (some (.int .i64 (j : Int))) none none).run Tryz.prog W = .ok (.string (bs (l.drop j))) W := by
  have e2 : (j : Int) ≤ ((bs l).size : Int) := by rw [bs_size]; omega
  have e : bs (l.drop j) = (bs l).extract j (bs l).size := by
    rw [bs_extract, bs_size, List.take_of_length_le (by rw [List.length_drop]; omega)]
  rw [e]
  simp [Instr.slice, run_underlying Tryz.underlying9, Instr.sliceBounds, run_sliceBound, e2, bs_size, h1]
theorem sl_hi (l : Tx) (k : Nat) (h2 : k ≤ l.length) (W : World) : (Instr.slice 9 (.string (bs l)) none (some (.int .i64 (k : Int))) none).run Tryz.prog W = .ok (.string (bs (l.take k))) W := by
  have e2 : (k : Int) ≤ ((bs l).size : Int) := by rw [bs_size]; omega
  have e : bs (l.take k) = (bs l).extract 0 k := by rw [bs_extract]; rfl
  rw [e]
  simp [Instr.slice, run_underlying Tryz.underlying9, Instr.sliceBounds, run_sliceBound, e2, bs_size, h2]
set_option maxRecDepth 4000 in
set_option maxHeartbeats 4000000 in
theorem domain_brack (s : Tx) (hb : brackM s = true) (hcase : brackC s) (w : World) (T : TabC w) (hs : s.length ≤ 1073741824) :
    Calls Tryz.prog 29 #[.string (bs s)] w fun e w' => Below w.heap.size w w' ∧ ∃ f b, e = .returned (.tuple #[.string f, .bool b, .int .i64 (domE s : Int)]) := by
  have HR0 : Hid (domE s = if (addrM (inner2M s)).isSome = true ∧ (addrN (inner2M s)).six = six0M (innerM s) then 0 else 90) := Lib.hid (by unfold domE; rw [hb]; rfl)
  have KA := Lib.hid (fun W TW => addr_any (inner2M s) W TW (Nat.le_trans (inner2_le s) hs))
  have KS := Lib.hid (fun (n : NetM) (h : n.ok) W TW => show_walk n h W TW)
  have hszi : ((bs s).size : Int) = (s.length : Int) := by rw [bs_size]
  have hsz := bs_size s
  have HI2 : Hid (inner2M s = if six0M (innerM s) then (innerM s).drop 5 else innerM s) := Lib.hid rfl
  have hil : (innerM s).length ≤ s.length - 2 := by unfold innerM; rw [List.length_take]; omega
  obtain ⟨a, z, n, h1, ⟨hp0, hg0⟩, h91, hl, ⟨hpn, hgn⟩, h93⟩ := hcase
  have hni : (s.length : Int) - 1 = (n : Int) := by omega
  have hnl : (n : Int) < (s.length : Int) := by omega
  have hx : ∀ W, (Instr.slice 9 (.string (bs s)) (some (.int .i64 1)) (some (.int .i64 (n : Int))) none).run Tryz.prog W = .ok (.string (bs (innerM s))) W := fun W => by
    have h := sl_both s 1 n (by omega) (by omega) W
    unfold innerM
    rw [show n - 1 = s.length - 2 from by omega] at h
    exact h
  have HS6 : Hid (six0M (innerM s) = (decide (4 < (innerM s).length) && decide (((innerM s).take 5).map lowC = [105, 112, 118, 54, 58]))) := Lib.hid rfl
  obtain ⟨i, hi⟩ : ∃ i, innerM s = i := ⟨_, rfl⟩
  rw [hi] at HR0 HI2 hil hx HS6
  have h1n : (1 : Int) ≤ (n : Int) := by omega
  have hisz : ((bs i).size : Int) = (i.length : Int) := by rw [bs_size]
  have hisz2 := bs_size i
  have TW := Lib.hid T
  clear hb hi T
  obtain ⟨S6, hS6⟩ : ∃ S6, six0M i = S6 := ⟨_, rfl⟩
  rw [hS6] at HR0 HI2 HS6
  clear hS6
  have HBR := Lib.hid (Below.refl w.heap.size w)
  generalize domE s = R at *
  by_cases h4 : 4 < i.length
  · have h4i : (i.length : Int) > 4 := by omega
    have hx5 : ∀ W, (Instr.slice 9 (.string (bs i)) none (some (.int .i64 5)) none).run Tryz.prog W = .ok (.string (bs (i.take 5))) W := fun W => sl_hi i 5 (by omega) W
    have hx6 : ∀ W, (Instr.slice 9 (.string (bs i)) (some (.int .i64 5)) none none).run Tryz.prog W = .ok (.string (bs (i.drop 5))) W := fun W => sl_lo i 5 (by omega) W
    have KL := Lib.hid (fun W => lower_walk (i.take 5) W (by rw [List.length_take]; omega))
    have hlw : ((bs ((i.take 5).map lowC)).toList == (bs [105, 112, 118, 54, 58]).toList) = decide ((i.take 5).map lowC = [105, 112, 118, 54, 58]) := bs_eqL _ _
    rw [show (bs [105, 112, 118, 54, 58]).toList = [105, 112, 118, 54, 58] from bs_nil _] at hlw
    rw [decide_eq_true h4, Bool.true_and, ← hlw] at HS6
    clear hlw
    have hlw := HS6.out.symm
    generalize bs ((i.take 5).map lowC) = LS at *
    clear HS6
    go_enter Tryz.func29, Tryz.ntmps29
    go_wp2_with fail
    refine (KL.out _).mono ?_
    rintro e w2 ⟨hb2, rfl⟩
    have HB2 := Lib.hid hb2
    clear hb2
    go_upto_region 4 with fail
    clear hx5 hx h1n hni hnl h91 h93 h1 h4i hszi hsz hl
    cases S6 with
    | true =>
      go_upto_region 6 with fail
      clear hlw hx6
      have HI3 : Hid (inner2M s = i.drop 5) := HI2
      rw [HI3.out] at KA HR0
      obtain ⟨E, hE⟩ : ∃ E : Int, (if (addrM (i.drop 5)).isSome = true then (0 : Int) else 70) = E := ⟨_, rfl⟩
      rw [hE] at KA
      have hE0 : (E != 0) = !(addrM (i.drop 5)).isSome := by
        rw [← hE]
        cases (addrM (i.drop 5)).isSome <;> rfl
      generalize (addrM (i.drop 5)).isSome = B at *
      generalize addrN (i.drop 5) = nN at *
      obtain ⟨nsix, nbits, naddr⟩ := nN
      clear hE
      cases B <;> cases nsix <;>
      · go_wp2_with fail
        refine (KA.out _ (TW.out.keep HB2.out)).mono ?_
        rintro e w3 ⟨hb3, hok, rfl⟩
        have HOK := Lib.hid hok
        have HB3 := Lib.hid (HB2.out.trans (hb3.mono HB2.out.size))
        have HA3 := Lib.hid (Blk.new w3 90 zn)
        clear hb3 hok
        go_wp2_with (first
          | (refine wpList_storeN _ _ _ w3.heap.size zn _ rfl rfl rfl rfl rfl HA3.out rfl (NetM.cells_size HOK.out.len) (NetM.cells_one _) ?_; intro w4 hb4 ho4; have HB4 := Lib.hid hb4; have HO4 := Lib.hid ho4; have k40 := hb4.cell 0; rw [show ∀ b, (NetM.cells ⟨b, nbits, naddr⟩)[0]? = some (.bool b) from fun _ => rfl] at k40; clear hb4 ho4)
          | refine wpList_loadN _ _ w3.heap.size _ rfl rfl rfl HB4.out (NetM.cells_size HOK.out.len) ?_)
        have HW4 := Lib.hid ((HB3.out.alloc HB3.out.size _).trans (HO4.out.to_below HA3.out.lt HB3.out.size))
        first
        | (go_ret3
           exact ⟨HW4.out, _, _, by rw [HR0.out]; rfl⟩)
        | (refine (KS.out _ HOK.out _ (TW.out.keep HW4.out)).mono ?_
           rintro e w5 ⟨hb5, rfl⟩
           have HB5 := Lib.hid (HW4.out.trans (hb5.mono HW4.out.size))
           clear hb5
           go_wp2_with fail
           go_ret3
           exact ⟨HB5.out, _, _, by rw [HR0.out]; rfl⟩)
    | false =>
      go_upto_region 6 with fail
      clear hlw hx6
      have HI3 : Hid (inner2M s = i) := HI2
      rw [HI3.out] at KA HR0
      obtain ⟨E, hE⟩ : ∃ E : Int, (if (addrM (i)).isSome = true then (0 : Int) else 70) = E := ⟨_, rfl⟩
      rw [hE] at KA
      have hE0 : (E != 0) = !(addrM (i)).isSome := by
        rw [← hE]
        cases (addrM (i)).isSome <;> rfl
      generalize (addrM (i)).isSome = B at *
      generalize addrN (i) = nN at *
      obtain ⟨nsix, nbits, naddr⟩ := nN
      clear hE
      cases B <;> cases nsix <;>
      · go_wp2_with fail
        refine (KA.out _ (TW.out.keep HB2.out)).mono ?_
        rintro e w3 ⟨hb3, hok, rfl⟩
        have HOK := Lib.hid hok
        have HB3 := Lib.hid (HB2.out.trans (hb3.mono HB2.out.size))
        have HA3 := Lib.hid (Blk.new w3 90 zn)
        clear hb3 hok
        go_wp2_with (first
          | (refine wpList_storeN _ _ _ w3.heap.size zn _ rfl rfl rfl rfl rfl HA3.out rfl (NetM.cells_size HOK.out.len) (NetM.cells_one _) ?_; intro w4 hb4 ho4; have HB4 := Lib.hid hb4; have HO4 := Lib.hid ho4; have k40 := hb4.cell 0; rw [show ∀ b, (NetM.cells ⟨b, nbits, naddr⟩)[0]? = some (.bool b) from fun _ => rfl] at k40; clear hb4 ho4)
          | refine wpList_loadN _ _ w3.heap.size _ rfl rfl rfl HB4.out (NetM.cells_size HOK.out.len) ?_)
        have HW4 := Lib.hid ((HB3.out.alloc HB3.out.size _).trans (HO4.out.to_below HA3.out.lt HB3.out.size))
        first
        | (go_ret3
           exact ⟨HW4.out, _, _, by rw [HR0.out]; rfl⟩)
        | (refine (KS.out _ HOK.out _ (TW.out.keep HW4.out)).mono ?_
           rintro e w5 ⟨hb5, rfl⟩
           have HB5 := Lib.hid (HW4.out.trans (hb5.mono HW4.out.size))
           clear hb5
           go_wp2_with fail
           go_ret3
           exact ⟨HB5.out, _, _, by rw [HR0.out]; rfl⟩)
  · have h4i : ¬ (i.length : Int) > 4 := by omega
    have HS : Hid (S6 = false) := Lib.hid (by rw [HS6.out, decide_eq_false h4]; rfl)
    obtain rfl := HS.out
    clear HS6
    go_enter Tryz.func29, Tryz.ntmps29
    go_upto_region 4 with fail
    clear hx h1n hni hnl h91 h93 h1 hszi hsz hl
    have HI3 : Hid (inner2M s = i) := HI2
    rw [HI3.out] at KA HR0
    obtain ⟨E, hE⟩ : ∃ E : Int, (if (addrM (i)).isSome = true then (0 : Int) else 70) = E := ⟨_, rfl⟩
    rw [hE] at KA
    have hE0 : (E != 0) = !(addrM (i)).isSome := by
      rw [← hE]
      cases (addrM (i)).isSome <;> rfl
    generalize (addrM (i)).isSome = B at *
    generalize addrN (i) = nN at *
    obtain ⟨nsix, nbits, naddr⟩ := nN
    clear hE
    cases B <;> cases nsix <;>
    · go_wp2_with fail
      refine (KA.out _ (TW.out.keep HBR.out)).mono ?_
      rintro e w3 ⟨hb3, hok, rfl⟩
      have HOK := Lib.hid hok
      have HB3 := Lib.hid (HBR.out.trans (hb3.mono HBR.out.size))
      have HA3 := Lib.hid (Blk.new w3 90 zn)
      clear hb3 hok
      go_wp2_with (first
        | (refine wpList_storeN _ _ _ w3.heap.size zn _ rfl rfl rfl rfl rfl HA3.out rfl (NetM.cells_size HOK.out.len) (NetM.cells_one _) ?_; intro w4 hb4 ho4; have HB4 := Lib.hid hb4; have HO4 := Lib.hid ho4; have k40 := hb4.cell 0; rw [show ∀ b, (NetM.cells ⟨b, nbits, naddr⟩)[0]? = some (.bool b) from fun _ => rfl] at k40; clear hb4 ho4)
        | refine wpList_loadN _ _ w3.heap.size _ rfl rfl rfl HB4.out (NetM.cells_size HOK.out.len) ?_)
      have HW4 := Lib.hid ((HB3.out.alloc HB3.out.size _).trans (HO4.out.to_below HA3.out.lt HB3.out.size))
      first
      | (go_ret3
         exact ⟨HW4.out, _, _, by rw [HR0.out]; rfl⟩)
      | (refine (KS.out _ HOK.out _ (TW.out.keep HW4.out)).mono ?_
         rintro e w5 ⟨hb5, rfl⟩
         have HB5 := Lib.hid (HW4.out.trans (hb5.mono HW4.out.size))
         clear hb5
         go_wp2_with fail
         go_ret3
         exact ⟨HB5.out, _, _, by rw [HR0.out]; rfl⟩)
end Go.Proofs.YtjnjnccfojfghaaGreatDoor

/-! bytes.IndexAny at few bytes, and whole; ContainsAny. Conditions: the library's tables, the sizes. -/
namespace Go.Proofs.YtjnjnccfojfghaaGreatDoor
open Go.RowKit
set_option linter.unusedVariables false
theorem skip_drop {l : List UInt8} {j r k : Nat} {bo : Bool} (hj : j ≤ l.length) (hk : RuneHi (l.drop j) r k) (h : decide ((13 : UInt8) ∈ l.drop j ∨ (10 : UInt8) ∈ l.drop j) = bo) :
    decide ((13 : UInt8) ∈ l.drop (j + k) ∨ (10 : UInt8) ∈ l.drop (j + k)) = bo := by
  obtain ⟨h1, h2, h3, -⟩ := hk
  have e : l.drop j = (l.drop j).take k ++ l.drop (j + k) := by
    have := List.take_append_drop k (l.drop j)
    rw [List.drop_drop] at this
    exact this.symm
  have hn : ∀ c : UInt8, c.toNat < 128 → c ∉ (l.drop j).take k := by
    intro c hc hm
    obtain ⟨i, hi, rfl⟩ := List.getElem_of_mem hm
    rw [List.length_take] at hi
    have := h3 i (by omega)
    rw [List.getElem_take] at hc
    rw [List.getD_eq_getElem?_getD, List.getElem?_eq_getElem (by omega), Option.getD_some] at this
    omega
  rw [← h, Bool.eq_iff_iff, decide_eq_true_eq, decide_eq_true_eq, e, List.mem_append, List.mem_append]
  constructor
  · exact fun h => h.imp .inr .inr
  · rintro ((h | h) | (h | h))
    · exact absurd h (hn 13 (by decide))
    · exact .inl h
    · exact absurd h (hn 10 (by decide))
    · exact .inr h
theorem idx_enc (e : ByteArray) (h : 2 < e.size) : Lib.index crlf.data.toList e.data.toList = -1 :=
  Lib.index_long (by rw [← Lib.size_eq, ← Lib.size_eq]; show 2 ≤ _; omega) (fun h2 => by have := congrArg List.length h2; rw [← Lib.size_eq, ← Lib.size_eq] at this; have h3 : crlf.size = 2 := rfl; omega)
theorem is_run (e : ByteArray) (w : World) (m : Int) (hm : w.cell? ⟨0, 0, none⟩ = some (.int .i64 m)) (h2 : 2 < e.size) (hb : (e.size : Int) ≤ m) :
    (Extern.BytealgIndex.index #[.string crlf, .string e]).run Tryz.prog w = .ok (.int .i64 (-1)) w := by
  rw [Lib.run_indexString crlf e w 0 m (by kernel_rfl) hm (by omega) hb (by decide), idx_enc e h2]
set_option maxRecDepth 1000000 in
set_option maxHeartbeats 8000000 in
theorem any_short (w : World) (hT : TabsL w.heap.size w) (A : Option Addr) (c n : Nat) (l : List UInt8) (hn : n = l.length) (hr : RB w w.heap.size A l) (h8 : n ≤ 8) (h1 : n ≠ 1) (hc : n ≤ c) (hm : c ≤ 9223372036854775807) (bo : Bool) (hbo : decide ((13 : UInt8) ∈ l ∨ (10 : UInt8) ∈ l) = bo) :
    Calls Tryz.prog 123 #[.slice A n c, .string crlf] w (AnyPost w bo) := by
  have hsz : crlf.size = 2 := rfl
  have hne : crlf.toList.isEmpty = false := by rw [Lib.toList_data]; rfl
  have h81 : decide ((8 : Int) < (n : Int)) = false := decide_eq_false (by omega)
  have hn1 : ((n : Int) == 1) = false := beq_eq_false_iff_ne.2 (by omega)
  have HN := Lib.hid hn
  have KS := Lib.hid (should_walk (n : Int) w)
  rw [h81] at KS
  have H0 : Hid (decide ((13 : UInt8) ∈ l.drop 0 ∨ (10 : UInt8) ∈ l.drop 0) = bo) := Lib.hid (by rw [List.drop_zero]; exact hbo)
  have HR := Lib.hid hr
  have HT := Lib.hid hT
  have N0 := Lib.hid nx0
  have N1 := Lib.hid nx1
  have N2 := Lib.hid nx2
  have HBI := Lib.hid below_iter
  have HIR := Lib.hid is_run
  have HIB := Lib.hid ibs_run
  have HRH : Hid (∀ (l : List UInt8) (r k : Nat), RuneHi l r k → 1 ≤ k ∧ k ≤ l.length ∧ (r = 65533 ∨ (r ≠ 65533 ∧ 2 ≤ k ∧ 128 ≤ r ∧ crlf ≠ Utf8.encode (r : Int) ∧ (Utf8.encode (r : Int)).size = k))) := Lib.hid fun l r k h => ⟨h.1, h.2.1, h.2.2.2⟩
  clear hr hn hbo h81 hT h1
  generalize crlf = C at *
  go_enter Tryz.func123, Tryz.ntmps123
  go_wp2_with (refine KS.out.mono ?_; rintro e5 w5 ⟨rfl, rfl⟩)
  clear KS hn1 hne
  go_loopg [11, 12] n (fun k wd s wr => ∃ j : Nat, j + k = n ∧ s = .int .i64 j ∧ Hid (Below w.heap.size w wr) ∧ Hid (decide ((13 : UInt8) ∈ l.drop j ∨ (10 : UInt8) ∈ l.drop j) = bo))
  case atStart => exact ⟨0, by omega, rfl, Lib.hid (Below.refl _ _), H0⟩
  case round =>
    obtain ⟨j, hj, rfl, HB, H⟩ := hrel
    clear H0
    by_cases hlt : j < n
    · have hj1 : (j : Int) < (n : Int) := by omega
      have hlt2 : j < l.length := by rw [← HN.out]; exact hlt
      obtain ⟨x, hx⟩ : ∃ x, l[j]? = some x := ⟨_, List.getElem?_eq_getElem hlt2⟩
      have hRr := HR.out.below HB.out
      obtain ⟨b, off, rfl, hbb, hcl⟩ := hRr.at_ hlt2
      have hxe : l[j] = x := by rw [List.getElem?_eq_getElem hlt2] at hx; injection hx
      have kx : wr.cell? ⟨b, off + j, none⟩ = some (.int .u8 x.toNat) := by rw [hcl j hlt2, bt_getElem hlt2, hxe]
      have hxl : (x.toNat : Int) < 256 := by have := UInt8.toNat_lt x; omega
      have e32 : wrap32 (x.toNat : Int) = (x.toNat : Int) := by first | (unfold wrap32; omega) | exact wrap32_in (by omega) (by omega)
      have RR := Lib.hid hRr
      have hd := hit_drop hx H.out
      have hdx : (l.drop j).getD 0 0 = x := by rw [List.getD_eq_getElem?_getD, List.getElem?_drop, Nat.add_zero, hx]; rfl
      have HL2 := Lib.hid hlt2
      clear hx hRr hcl hxe hlt2
      by_cases hlo : x.toNat < 128
      · have hx2 : (x.toNat : Int) < 128 := by omega
        have e1 : IntKind.i64.wrap ((j : Int) + 1) = (j : Int) + 1 := IntWalk.i64_in _ (by omega)
        rcases hd with ⟨h1, h2⟩ | ⟨h1, h2⟩
        · obtain ⟨i, hi, hib⟩ := HIB.out x wr true h1
          have hi0 := of_decide_eq_true hib
          have HI := Lib.hid hi
          subst h2
          clear hi hib h1 hlo hdx
          generalize (x.toNat : Int) = xv at *
          go_wp2_with fail
          rw [run_callFunc_extern Tryz.func159 (by kernel_rfl) (by kernel_rfl) (by kernel_rfl) (e := Extern.BytealgIndexByte.indexByte) (by kernel_rfl), HI.out]
          simp only [Result.andThen]
          rw [Oper.upon_value]
          go_wp2
          go_ret
          exact ⟨HB.out, _, rfl, by simp⟩
        · obtain ⟨i, hi, hib⟩ := HIB.out x wr false h1
          have hi0 := of_decide_eq_false hib
          have HI := Lib.hid hi
          have H2 := Lib.hid h2
          clear hi hib h1 hlo hdx h2
          generalize (x.toNat : Int) = xv at *
          go_wp2_with fail
          rw [run_callFunc_extern Tryz.func159 (by kernel_rfl) (by kernel_rfl) (by kernel_rfl) (e := Extern.BytealgIndexByte.indexByte) (by kernel_rfl), HI.out]
          simp only [Result.andThen]
          rw [Oper.upon_value]
          go_wp2
          go_roundg (gk - 1)
          case rel => exact ⟨j + 1, by omega, by go_num, HB, H2⟩
          case measure => omega
      · have hx2 : ¬ (x.toNat : Int) < 128 := by omega
        clear hd
        have hcj : c ≠ j := by omega
        have hjc : (j : Int) ≤ (n : Int) := by omega
        have hT2 := HT.out.below HB.out
        have RD : Hid (RB wr w.heap.size (some ⟨b, off + j, none⟩) (l.drop j)) := Lib.hid (RR.out.drop j)
        have KD := Lib.hid (decrune_walk wr (hT2 wr (Below.refl _ _)).1 RD.out (n - j) (c - j) (by rw [HN.out, List.length_drop]) (by omega) (by rw [hdx]; omega))
        have HT2 := Lib.hid hT2
        clear hdx hlo hT2
        generalize (x.toNat : Int) = xv at *
        go_wp2_with fail
        refine KD.out.mono ?_
        rintro e5 w5 ⟨hb5, r, kk, rfl, hrk⟩
        have hb5' := hb5
        have hB5 : Below w.heap.size w w5 := HB.out.trans (hb5.mono HB.out.size)
        have HB5 := Lib.hid hB5
        obtain ⟨m, hm5⟩ := (HT2.out w5 (hb5.mono HB.out.size)).2
        have H2 := Lib.hid (skip_drop (Nat.le_of_lt HL2.out) hrk H.out)
        obtain ⟨hk1, hk2, hcase⟩ := HRH.out _ _ _ hrk
        have hk3 : j + kk ≤ n := by rw [List.length_drop, ← HN.out] at hk2; omega
        have e1 : IntKind.i64.wrap ((j : Int) + (kk : Int)) = ((j + kk : Nat) : Int) := by rw [IntWalk.i64_in _ (by omega)]; omega
        have HE1 := Lib.hid e1
        clear KD HT2 hb5 hb5' hB5 hrk hk2 kx e32 hx2 H RD
        rcases hcase with rfl | ⟨hr5, hk22, hr128, hne5, hse⟩
        · have n0 := N0.out w5
          have n1 := N1.out w5
          have n2 := N2.out w5
          have HBI5 := Lib.hid (fun i => HB5.out.trans ((HBI.out w5 i).mono HB5.out.size))
          go_wp2_with fail
          clear hm5
          go_loopg [] 2 (fun q wr => ∃ i, i + q = 2 ∧ wr = w5.iter C i)
          case atStart => exact ⟨0, rfl, rfl⟩
          case round =>
            obtain ⟨i, hi, rfl⟩ := hrel
            have hi3 : i = 0 ∨ i = 1 ∨ i = 2 := by omega
            rcases hi3 with rfl | rfl | rfl
            · clear n1 n2
              go_wp2
              go_roundg 1
              case rel => exact ⟨1, by omega, rfl⟩
              case measure => omega
            · clear n0 n2
              go_wp2
              go_roundg 0
              case rel => exact ⟨2, by omega, rfl⟩
              case measure => omega
            · clear n1 n0
              go_wp2
              go_roundg (n - j - kk)
              case rel => exact ⟨j + kk, by omega, by first | go_num | (rw [HE1.out]), Lib.hid (HBI5.out 2), H2⟩
              case measure => omega
        · have hrq : ((r : Int) != 65533) = true := by rw [bne_iff_ne]; omega
          have hce : (C.toList == (Utf8.encode (r : Int)).toList) = false := by
            rw [beq_eq_false_iff_ne, Lib.toList_data, Lib.toList_data]
            intro h
            exact hne5 (ByteArray.ext (Array.toList_inj.1 h))
          by_cases hkk : kk = 2
          · have hkq : ((2 : Int) == (kk : Int)) = true := beq_iff_eq.2 (by omega)
            clear hr5 hne5 hkk hse
            go_wp2
            go_roundg (n - j - kk)
            case rel => exact ⟨j + kk, by omega, by first | go_num | (rw [HE1.out]), HB5, H2⟩
            case measure => omega
          · have hkq : ((2 : Int) == (kk : Int)) = false := beq_eq_false_iff_ne.2 (by omega)
            by_cases hmk : (kk : Int) ≤ m
            · have HI := Lib.hid (HIR.out (Utf8.encode (r : Int)) w5 m hm5 (by omega) (by omega))
              clear hr5 hne5 hkk hse hce
              go_wp2_with fail
              rw [run_callFunc_extern Tryz.func164 (by kernel_rfl) (by kernel_rfl) (by kernel_rfl) (e := Extern.BytealgIndex.index) (by kernel_rfl), HI.out]
              simp only [Result.andThen]
              rw [Oper.upon_value]
              go_wp2
              go_roundg (n - j - kk)
              case rel => exact ⟨j + kk, by omega, by first | go_num | (rw [HE1.out]), HB5, H2⟩
              case measure => omega
            · have hr13 : ((r : Int) == 13) = false := beq_eq_false_iff_ne.2 (by omega)
              have hr10 : ((r : Int) == 10) = false := beq_eq_false_iff_ne.2 (by omega)
              clear hr5 hne5 hkk hse hce
              have n0 := N0.out w5
              have n1 := N1.out w5
              have n2 := N2.out w5
              have HBI5 := Lib.hid (fun i => HB5.out.trans ((HBI.out w5 i).mono HB5.out.size))
              go_wp2_with fail
              clear hm5
              go_loopg [] 2 (fun q wr => ∃ i, i + q = 2 ∧ wr = w5.iter C i)
              case atStart => exact ⟨0, rfl, rfl⟩
              case round =>
                obtain ⟨i, hi, rfl⟩ := hrel
                have hi3 : i = 0 ∨ i = 1 ∨ i = 2 := by omega
                rcases hi3 with rfl | rfl | rfl
                · clear n1 n2
                  go_wp2
                  go_roundg 1
                  case rel => exact ⟨1, by omega, rfl⟩
                  case measure => omega
                · clear n0 n2
                  go_wp2
                  go_roundg 0
                  case rel => exact ⟨2, by omega, rfl⟩
                  case measure => omega
                · clear n1 n0
                  go_wp2
                  go_roundg (n - j - kk)
                  case rel => exact ⟨j + kk, by omega, by first | go_num | (rw [HE1.out]), Lib.hid (HBI5.out 2), H2⟩
                  case measure => omega
    · have hj1 : ¬ (j : Int) < (n : Int) := by omega
      have hb : bo = false := by
        rw [← H.out, List.drop_eq_nil_of_le (by rw [← HN.out]; omega)]
        rfl
      subst hb
      clear H
      go_wp2
      go_ret
      exact ⟨HB.out, _, rfl, rfl⟩
theorem anyB_walk (w : World) (hT : TabsL w.heap.size w) (A : Option Addr) (c n : Nat) (l : List UInt8) (hn : n = l.length) (hr : RB w w.heap.size A l) (hc : n ≤ c) (hm : c ≤ 9223372036854775807) (hl : n ≤ 4611686018427387904) (bo : Bool) (hbo : decide ((13 : UInt8) ∈ l ∨ (10 : UInt8) ∈ l) = bo) :
    Calls Tryz.prog 123 #[.slice A n c, .string crlf] w (AnyPost w bo) := by
  by_cases h1 : n = 1
  · obtain ⟨b, off, rfl, -, hcl⟩ := hr.at_ (j := 0) (by omega)
    subst h1
    obtain ⟨x, rfl⟩ : ∃ x, l = [x] := by
      match l, hn with
      | [x], _ => exact ⟨x, rfl⟩
    refine any_one w b off c x (by have := hcl 0 (by simp); first | exact this | simpa [bt] using this) bo ?_
    rw [← hbo]
    simp [eq_comm]
  · by_cases h8 : 8 < n
    · obtain ⟨b, off, rfl, -, hcl⟩ := hr.at_ (j := 0) (by omega)
      exact any_long w b off c n l hn hr h8 hl bo hbo
    · exact any_short w hT A c n l hn hr (by omega) h1 hc hm bo hbo
/-- bytes.ContainsAny -/
theorem cany_walk (w : World) (hT : TabsL w.heap.size w) (A : Option Addr) (c n : Nat) (l : List UInt8) (hn : n = l.length) (hr : RB w w.heap.size A l) (hc : n ≤ c) (hm : c ≤ 9223372036854775807) (hl : n ≤ 4611686018427387904) (bo : Bool) (hbo : decide ((13 : UInt8) ∈ l ∨ (10 : UInt8) ∈ l) = bo) :
    Calls Tryz.prog 89 #[.slice A n c, .string crlf] w fun e w' => Below w.heap.size w w' ∧ e = .returned (.bool bo) := by
  have K := Lib.hid (anyB_walk w hT A c n l hn hr hc hm hl bo hbo)
  clear hT hn hr hbo
  generalize crlf = C at *
  go_enter Tryz.func89, Tryz.ntmps89
  go_wp2_with fail
  refine K.out.mono ?_
  rintro e1 w1 ⟨hb1, i, rfl, hi⟩
  subst hi
  go_wp2
  go_ret
  exact ⟨hb1, rfl⟩
end Go.Proofs.YtjnjnccfojfghaaGreatDoor

/-! The walk of the program's Content. Conditions: the library's tables, the size. -/
namespace Go.Proofs.YtjnjnccfojfghaaGreatDoor
open Go.RowKit
set_option linter.unusedVariables false
theorem idx_crlf : ∀ d : List UInt8, Lib.index d [13, 10] = match cutCR d with | none => -1 | some (x, _) => (x.length : Int)
  | [] => by rfl
  | [a] => by
    have : Lib.index [a] [13, 10] = -1 := Lib.index_long (by simp) (by intro h; have := congrArg List.length h; simp at this)
    rw [this]; rfl
  | a :: b :: r => by
    rw [cutCR]
    by_cases h : a = 13 ∧ b = 10
    · rw [if_pos h, Lib.index]
      simp [h.1, h.2, List.isPrefixOf]
    · rw [if_neg h]
      have hp : ([13, 10] : List UInt8).isPrefixOf (a :: b :: r) = false := by
        simp only [List.isPrefixOf, Bool.and_eq_false_iff, beq_eq_false_iff_ne]
        by_cases h13 : a = 13
        · exact .inr (.inl (fun e => h ⟨h13, e.symm⟩))
        · exact .inl (fun e => h13 e.symm)
      have ih := idx_crlf (b :: r)
      rw [Lib.index, hp]
      simp only [Bool.false_eq_true, if_false]
      rw [ih]
      cases e : cutCR (b :: r) with
      | none => simp
      | some xy =>
        obtain ⟨x, y⟩ := xy
        show (if (x.length : Int) = -1 then -1 else (x.length : Int) + 1) = ((a :: x).length : Int)
        rw [if_neg (by omega)]
        simp
/-- a constant's row, behind its conversion -/
theorem RB.mark (w : World) (E : TypeId) (C : Array Value) (fr : Nat × Nat) (l : List UInt8) (hC : C.toList = Lib.byteCells l) : RB (w.alloc (.cells C E fr)) (w.heap.size + 1) (some ⟨w.heap.size, 0, none⟩) l := by
  refine .inr ⟨w.heap.size, 0, rfl, Nat.lt_succ_self _, fun i hi => ?_⟩
  rw [Nat.zero_add, World.cell?_alloc_mark w C E fr i, ← Array.getElem?_toList, hC, bt_getElem hi]
  simp [Lib.byteCells, hi]
theorem cutCR_at {d x y : List UInt8} (h : cutCR d = some (x, y)) : d.take x.length = x ∧ d.drop (x.length + 2) = y ∧ d.length = x.length + 2 + y.length := by
  obtain ⟨h1, -⟩ := cutCR_some h
  subst h1
  refine ⟨by simp, ?_, by simp; omega⟩
  rw [show x.length + 2 = (x ++ [13, 10]).length by simp, show x ++ 13 :: 10 :: y = (x ++ [13, 10]) ++ y by simp, List.drop_left]
/-- bytes.Cut at CR LF -/
theorem cutcr_walk (w : World) {B B2 b off b2 o2 : Nat} {d : List UInt8} (h : RB w B (some ⟨b, off, none⟩) d) (h2 : RB w B2 (some ⟨b2, o2, none⟩) [13, 10]) (n c c2 : Nat) (hn : n = d.length) (hc : n ≤ c) (hl : n < 4294967281) (m : Int) (hm : w.cell? ⟨0, 0, none⟩ = some (.int .i64 m)) :
    Calls Tryz.prog 88 #[.slice (some ⟨b, off, none⟩) n c, .slice (some ⟨b2, o2, none⟩) 2 c2] w fun e w' => (∃ q, w' = w.drewN q) ∧
      ((cutCR d = none ∧ e = .returned (.tuple #[.slice (some ⟨b, off, none⟩) n c, .slice none 0 0, .bool false])) ∨
       ∃ x y A3 c3, cutCR d = some (x, y) ∧ e = .returned (.tuple #[.slice (some ⟨b, off, none⟩) x.length c, .slice A3 y.length c3, .bool true]) ∧ RB w B A3 y ∧ y.length ≤ c3 ∧ c3 ≤ c) := by
  subst hn
  refine (Tryz.bytes_Cut_all (some ⟨b, off, none⟩) (some ⟨b2, o2, none⟩) d.length c 2 c2 (nums d) (nums [13, 10]) m w (nums_len d) rfl (nums_rng d) (nums_rng _) h.bytesIn h2.bytesIn (fun e => by cases e) hc hl (by decide) hm).mono ?_
  rintro e w' ⟨rfl, hw⟩
  refine ⟨hw, ?_⟩
  rw [bytesOf_nums, bytesOf_nums, idx_crlf]
  unfold Lib.cutV Lib.fromV
  cases e : cutCR d with
  | none => exact .inl ⟨rfl, by simp⟩
  | some xy =>
    obtain ⟨x, y⟩ := xy
    obtain ⟨h1, h3, h4⟩ := cutCR_at e
    refine .inr ⟨x, y, (if c = x.length + 2 then some ⟨b, off, none⟩ else some ⟨b, off + (x.length + 2), none⟩), c - (x.length + 2), rfl, ?_, ?_, by omega, by omega⟩
    · have : d.length - (x.length + 2) = y.length := by omega
      simp [this, Addr.add_lit]
    · by_cases hce : c = x.length + 2
      · exact .inl (List.eq_nil_of_length_eq_zero (by omega))
      · rw [if_neg hce, ← h3]
        exact h.drop _
set_option maxRecDepth 100000 in
set_option maxHeartbeats 4000000 in
theorem cont_walk (w : World) (hT : TabsL w.heap.size w) (A : Option Addr) (l : List UInt8) (n c : Nat) (hn : n = l.length) (hr : RB w w.heap.size A l) (hc : n ≤ c) (hm : c ≤ 9223372036854775807) (hl : n < 4294967281) :
    Calls Tryz.prog 50 #[.slice A n c] w fun e w' => Below w.heap.size w w' ∧ e = .returned (.int .i64 (contP l)) := by
  obtain ⟨nb, hnb⟩ : ∃ nb, decide ((0 : UInt8) ∈ l) = nb := ⟨_, rfl⟩
  have K0 := Lib.hid (idx_walk w hr n c hn 0 0 rfl nb hnb)
  obtain ⟨F, hF⟩ : ∃ F, contP l = F := ⟨_, rfl⟩
  rw [hF]
  have HT := Lib.hid hT
  unfold contP at hF
  cases nb with
  | true =>
    rw [if_pos (of_decide_eq_true hnb)] at hF
    subst hF
    clear hr hn hnb hT HT
    go_enter Tryz.func50, Tryz.ntmps50
    go_wp2_with fail
    refine K0.out.mono ?_
    rintro e5 w5 ⟨rfl, i0, rfl, hi0⟩
    have hi0 := of_decide_eq_true hi0
    clear K0
    go_wp2
    go_ret
    exact ⟨Below.refl _ _, rfl⟩
  | false =>
    rw [if_neg (of_decide_eq_false hnb)] at hF
    have H0 : Hid (∃ fuel, l.length < fuel ∧ contF fuel l false = F) := Lib.hid ⟨_, Nat.lt_succ_self _, hF⟩
    have HR := Lib.hid hr
    have HN := Lib.hid hn
    clear hr hnb hT hF hn
    go_enter Tryz.func50, Tryz.ntmps50
    go_wp2_with fail
    refine K0.out.mono ?_
    rintro e5 w5 ⟨rfl, i0, rfl, hi0⟩
    have hi0 := of_decide_eq_false hi0
    clear K0
    have HC0 : Hid (contF 0 [] false = 0) := Lib.hid rfl
    have HCR := Lib.hid @cutcr_walk
    have HCA := Lib.hid cany_walk
    have hcr : (⟨#[13, 10]⟩ : ByteArray) = crlf := rfl
    go_wp2_with fail
    go_loopg [0, 3] n (fun k s lg wr => ∃ (d : List UInt8) (Ad : Option Addr) (cd : Nat) (long : Bool), s = .slice Ad k cd ∧ lg = .bool long ∧ Hid (k = d.length) ∧ k ≤ n ∧ k ≤ cd ∧ cd ≤ c ∧ Hid (RB w w.heap.size Ad d) ∧ Hid (Below w.heap.size w wr) ∧ Hid (∃ fuel, d.length < fuel ∧ contF fuel d long = F))
    case atStart => exact ⟨l, A, c, false, rfl, rfl, HN, Nat.le_refl _, hc, Nat.le_refl _, HR, Lib.hid (Below.refl _ _), H0⟩
    case round =>
      obtain ⟨d, Ad, cd, long, rfl, rfl, HD, hkn, hkc, hcd, HRD, HB, H⟩ := hrel
      clear H0 HR hi0
      by_cases h0 : 0 < gk
      · have hj1 : (0 : Int) < (gk : Int) := by omega
        obtain ⟨b, off, rfl, -, -⟩ := HRD.out.at_ (j := 0) (by rw [← HD.out]; exact h0)
        have hcv := Lib.run_convert_bytes_const (P := Tryz.prog) wr 25 5 #[.int .u8 13, .int .u8 10] 2 2 Tryz.underlying25 Tryz.underlying5
        have hba := HB.out.trans ((Below.refl wr.heap.size wr).alloc (Nat.le_refl _) (.cells #[.int .u8 13, .int .u8 10] 5 (2, 3)) |>.mono HB.out.size)
        obtain ⟨m, hmx⟩ := (HT.out _ hba).2
        have KC := Lib.hid (HCR.out (wr.alloc (.cells #[.int .u8 13, .int .u8 10] 5 (2, 3))) (HRD.out.below hba) (RB.mark wr 5 #[.int .u8 13, .int .u8 10] (2, 3) [13, 10] rfl) gk cd 2 HD.out hkc (by omega) m hmx)
        have HBA := Lib.hid hba
        have HBK : Hid (∀ A3 y, RB (wr.alloc (.cells #[.int .u8 13, .int .u8 10] 5 (2, 3))) w.heap.size A3 y → RB w w.heap.size A3 y) := Lib.hid fun A3 y h => h.keep (Nat.le_refl _) fun p hp => (hba.cell hp).symm
        clear hba hmx
        go_wp2_with fail
        refine KC.out.mono ?_
        rintro e6 w6 ⟨⟨q, rfl⟩, hcase⟩
        have hb6 := bdrewN HBA.out q
        clear KC HBA
        clear hcv
        generalize (wr.alloc (.cells #[.int .u8 13, .int .u8 10] 5 (2, 3))).drewN q = w6 at *
        have HB6 := Lib.hid hb6
        obtain ⟨fuel, hfu, hcf⟩ := H.out
        obtain ⟨fu, rfl⟩ : ∃ fu, fuel = fu + 1 := ⟨fuel - 1, by omega⟩
        rw [contF, if_neg (fun e => by rw [HD.out, e] at h0; simp at h0)] at hcf
        rcases hcase with ⟨hcn, rfl⟩ | ⟨x, y, A3, c3, hcs, rfl, hr3, hy3, hc3⟩
        · rw [hcn] at hcf
          have hF : F = 121 := hcf.symm
          subst hF
          clear hcn hcf hfu H hb6
          go_wp2
          go_ret
          exact ⟨HB6.out, rfl⟩
        · rw [hcs] at hcf
          simp only [] at hcf
          obtain ⟨h1, h3, h4⟩ := cutCR_at hcs
          have RX : Hid (RB w6 w6.heap.size (some ⟨b, off, none⟩) x) := Lib.hid (by
            have := (HRD.out.take x.length).below hb6
            rw [h1] at this
            exact this.mono hb6.size)
          have RY : Hid (RB w w.heap.size A3 y) := Lib.hid (HBK.out A3 y hr3)
          have hxk : x.length ≤ gk := by have := HD.out; omega
          have hyk : y.length < gk := by have := HD.out; omega
          have HFU : Hid (y.length < fu) := Lib.hid (by omega)
          obtain ⟨xb, hxb⟩ : ∃ xb, decide ((13 : UInt8) ∈ x ∨ (10 : UInt8) ∈ x) = xb := ⟨_, rfl⟩
          obtain ⟨xn, hxn⟩ : ∃ xn, xn = x.length := ⟨_, rfl⟩
          have KA := Lib.hid (HCA.out w6 (fun w' hb' => HT.out w' (hb6.trans (hb'.mono hb6.size))) (some ⟨b, off, none⟩) cd xn x hxn RX.out (by omega) (by omega) (by omega) xb hxb)
          have HXN := Lib.hid hxn
          rw [← hxn] at hxk hcf ⊢
          have HY : Hid (y.length = y.length) := Lib.hid rfl
          obtain ⟨yn, hyn⟩ : ∃ yn, yn = y.length := ⟨_, rfl⟩
          have HYN := Lib.hid hyn
          rw [← hyn] at hyk hy3 ⊢
          clear hxn hyn h1 h3 h4 hcs hfu H hb6 hr3 HY
          cases xb with
          | true =>
            rw [if_pos (of_decide_eq_true hxb)] at hcf
            subst hcf
            clear hxb
            go_wp2_with fail
            refine KA.out.mono ?_
            rintro e7 w7 ⟨hb7, rfl⟩
            have HB7 := Lib.hid hb7
            clear hb7 KA
            go_wp2
            go_ret
            exact ⟨HB6.out.trans (HB7.out.mono HB6.out.size), rfl⟩
          | false =>
            rw [if_neg (of_decide_eq_false hxb)] at hcf
            have H2 : Hid (∃ fuel, y.length < fuel ∧ contF fuel y (long || decide (998 < xn)) = F) := Lib.hid ⟨fu, HFU.out, hcf⟩
            clear hxb hcf
            go_wp2_with fail
            refine KA.out.mono ?_
            rintro e7 w7 ⟨hb7, rfl⟩
            have HB7 := Lib.hid (HB6.out.trans (hb7.mono HB6.out.size))
            clear hb7 KA
            have hlg : ∃ l2, (long || decide (998 < xn)) = l2 ∧ ((long = true ∧ l2 = true) ∨ (long = false ∧ (998 : Int) < (xn : Int) ∧ l2 = true) ∨ (long = false ∧ ¬ (998 : Int) < (xn : Int) ∧ l2 = false)) := by
              cases long
              · by_cases h : 998 < xn
                · exact ⟨true, by simp [h], .inr (.inl ⟨rfl, by omega, rfl⟩)⟩
                · exact ⟨false, by simp [h], .inr (.inr ⟨rfl, by omega, rfl⟩)⟩
              · exact ⟨true, rfl, .inl ⟨rfl, rfl⟩⟩
            obtain ⟨l2, hl2, hlc⟩ := hlg
            rw [hl2] at H2
            clear hl2
            rcases hlc with ⟨rfl, rfl⟩ | ⟨rfl, hl3, rfl⟩ | ⟨rfl, hl3, rfl⟩
            · go_wp2
              go_roundg yn
              case rel => exact ⟨y, A3, c3, true, rfl, rfl, HYN, by omega, hy3, by omega, RY, HB7, H2⟩
              case measure => omega
            · go_wp2
              go_roundg yn
              case rel => exact ⟨y, A3, c3, true, rfl, by first | rfl | (simp; omega), HYN, by omega, hy3, by omega, RY, HB7, H2⟩
              case measure => omega
            · go_wp2
              go_roundg yn
              case rel => exact ⟨y, A3, c3, false, rfl, by first | rfl | (simp; omega), HYN, by omega, hy3, by omega, RY, HB7, H2⟩
              case measure => omega
      · have hk0 : gk = 0 := by omega
        have hd : d = [] := List.eq_nil_of_length_eq_zero (by rw [← HD.out]; exact hk0)
        obtain ⟨fuel, hfu, hcf⟩ := H.out
        obtain ⟨fu, rfl⟩ : ∃ fu, fuel = fu + 1 := ⟨fuel - 1, by omega⟩
        rw [contF, if_pos hd] at hcf
        subst hk0
        clear hd H hfu
        cases long with
        | true =>
          have hF : F = 120 := by rw [← hcf, if_pos rfl]
          subst hF
          clear hcf
          go_wp2
          go_ret
          exact ⟨HB.out, rfl⟩
        | false =>
          have hF : F = 0 := by rw [← hcf, if_neg (by decide)]
          subst hF
          clear hcf
          go_wp2
          go_ret
          exact ⟨HB.out, rfl⟩
end Go.Proofs.YtjnjnccfojfghaaGreatDoor
