/-
  The walk of the document's entry. Conditions: the sizes.
-/
import Derived.Test.YtlknclkkhincfaaDoorTbRv
import Derived.Test.YtlknclkkhincfaaDoorTbTurns
import Derived.BigQuiet
namespace Go.Proofs.YtlknclkkhincfaaDoor
open Go.RowKit Go.Shelf
set_option linter.unusedVariables false
theorem firstBl_step {text : List UInt8} {e : Nat} (h : e < text.length) (hc : isBl text[e] = false) : firstBl (text.drop e) = firstBl (text.drop (e + 1)) + 1 := by
  rw [List.drop_eq_getElem_cons h]
  unfold firstBl
  rw [List.takeWhile_cons_of_pos (by simp [hc])]
  rfl
theorem firstBl_stop {text : List UInt8} {e : Nat} (h : e < text.length) (hc : isBl text[e] = true) : firstBl (text.drop e) = 0 := by
  rw [List.drop_eq_getElem_cons h]
  unfold firstBl
  rw [List.takeWhile_cons_of_neg (by simp [hc])]
  rfl
/-- an entry, as the document reads it off a line -/
def entD (x : PL) : En := ⟨(x.key.take (firstBl x.key)).map lowC, valGo (trimB (x.key.drop (firstBl x.key))) x.ps⟩
theorem entry_open (w : World) (a b c : Value) (W0 : World) (h : W0 = (w.alloc (.cells #[a, b, c] 63)).alloc (.cells #[.string ⟨#[]⟩, .string ⟨#[]⟩] 40)) :
    Blk W0 w.heap.size 63 #[a, b, c] ∧ Blk W0 (w.heap.size + 1) 40 #[.string ⟨#[]⟩, .string ⟨#[]⟩] ∧ Below w.heap.size w W0 ∧ W0.heap.size = w.heap.size + 2 := by
  subst h
  have b0 := Blk.new w 63 #[a, b, c]
  have b1 := Blk.new (w.alloc (.cells #[a, b, c] 63)) 40 #[.string ⟨#[]⟩, .string ⟨#[]⟩]
  refine ⟨b0.alloc _, ?_, ((Below.refl _ _).alloc (Nat.le_refl _) _).alloc (by simp) _, by simp⟩
  simpa using b1
theorem res_entry {fn : Func} (hfn : fn.results = #[.cell 2 40]) {tm : Array Value} {W : World} {g : Nat} {c v : Value} (hb : Blk W g 40 #[c, v]) (h2 : tm[2]?.getD undef = .pointer (some ⟨g, 0, none⟩)) :
    (results fn tm).run Tryd.prog W = .ok (.agg #[c, v]) W := by
  have k0 : W.cell? ⟨g, 0, none⟩ = some c := hb.cell 0
  have k1 : W.cell? ⟨g, 1, none⟩ = some v := hb.cell 1
  simp [results, hfn, h2, k0, k1, go_sem]
set_option maxRecDepth 100000 in
set_option maxHeartbeats 1000000 in
theorem rentry_walk (x : PL) (w : World) (A : Option Addr) (n c : Nat) (gi : Option Nat) (h : OwnX 1 w gi (.slice A n c) (strsV x.ps)) (hk : x.key.length ≤ 262144) (hp : ∀ p ∈ x.ps, p.length ≤ 262144) (hn : x.ps.length ≤ 262145) :
    Calls Tryd.prog 23 #[.agg #[.int .i64 (x.at_ : Int), .string (bs x.key), .slice A n c]] w fun e w' => Below w.heap.size w w' ∧ e = .returned (.agg #[.string (bs (entD x).k), .string (bs (entD x).v)]) := by
  obtain ⟨W0, hW0⟩ : ∃ W0, W0 = (w.alloc (.cells #[.int .i64 (x.at_ : Int), .string (bs x.key), .slice A n c] 63)).alloc (.cells #[.string ⟨#[]⟩, .string ⟨#[]⟩] 40) := ⟨_, rfl⟩
  obtain ⟨o1, o2, o3, o4⟩ := entry_open w _ _ _ W0 hW0
  obtain ⟨at_, key, ps⟩ := x
  simp only [] at *
  have HE : Hid (entD ⟨at_, key, ps⟩ = ⟨(key.take (firstBl key)).map lowC, valGo (trimB (key.drop (firstBl key))) ps⟩) := Lib.hid rfl
  rw [HE.out]
  have HG := Lib.hid (bs_get key)
  have hks := bs_size key
  have HX := Lib.hid (h.below o3 fun k hk => h.lt hk)
  have HB := Lib.hid o3
  have O1 := Lib.hid o1
  have O2 := Lib.hid o2
  have k1 := o1.cell 1
  have k2 := o1.cell 2
  have HS := Lib.hid o4
  have hfl := firstBl_le key
  have HP := Lib.hid hp
  have HXU := Lib.hid (upto_bs key (firstBl key))
  have HXD := Lib.hid (from_bs key (firstBl key))
  have HF : Hid (firstBl key = 0 + firstBl (key.drop 0)) := Lib.hid (by simp)
  obtain ⟨f, hf⟩ : ∃ f, firstBl key = f := ⟨_, rfl⟩
  rw [hf] at HXU HXD HF hfl
  rw [hf]
  obtain ⟨v, hv⟩ : ∃ v, valGo (trimB (key.drop f)) ps = v := ⟨_, rfl⟩
  obtain ⟨ky, hky⟩ : ∃ ky, (key.take f).map lowC = ky := ⟨_, rfl⟩
  rw [hv, hky]
  have HV := Lib.hid hv
  have HKY := Lib.hid hky
  clear h o1 o2 o3 o4 hp hf HE hv hky
  go_enter Tryd.func23, Tryd.ntmps23
  go_upto_block 0 with fail
  rw [← hW0]
  clear hW0
  go_cut [3] from 5 to 19 (fun v3 wx => W0 = wx ∧ ∃ e : Nat, v3 = .int .i64 (e : Int) ∧ Hid (e = f))
  case first =>
    go_wp2_with fail
    go_loopg [3] key.length (fun k s3 wr => ∃ e : Nat, W0 = wr ∧ s3 = .int .i64 (e : Int) ∧ e + k = key.length ∧ Hid (f = e + firstBl (key.drop e)))
    case atStart => exact ⟨0, rfl, rfl, by omega, HF⟩
    case round =>
      clear HF
      obtain ⟨e, rfl, rfl, hek, HEQ⟩ := hrel
      by_cases hel : e < key.length
      · have hel1 : (e : Int) < (key.length : Int) := by omega
        have p0 : e < (bs key).size := by rw [hks]; exact hel
        obtain ⟨c, hc, hcc⟩ : ∃ c, (bs key)[e]'p0 = c ∧ key[e] = c := ⟨key[e]'hel, HG.out e p0 hel, rfl⟩
        have HC := Lib.hid hcc
        have HKB := Lib.hid (blank_walk c W0)
        clear hcc
        cases hbl : isBl c with
        | true =>
          rw [hbl] at HKB
          have HX2 : Hid (e = f) := Lib.hid (by have := HEQ.out; rw [firstBl_stop hel ((congrArg isBl HC.out).trans hbl)] at this; exact this.symm)
          clear HC HEQ hbl
          go_wp2_with fail
          refine HKB.out.mono ?_
          rintro e3 w5 ⟨rfl, rfl⟩
          go_wp2_with fail
          go_meet
          exact ⟨rfl, e, rfl, HX2⟩
        | false =>
          rw [hbl] at HKB
          have HX2 : Hid (f = e + 1 + firstBl (key.drop (e + 1))) := Lib.hid (by have := HEQ.out; rw [firstBl_step hel ((congrArg isBl HC.out).trans hbl)] at this; omega)
          clear HC HEQ hbl
          go_wp2_with fail
          refine HKB.out.mono ?_
          rintro e3 w5 ⟨rfl, rfl⟩
          go_wp2_with fail
          go_roundg (gk - 1)
          case rel => exact ⟨e + 1, rfl, by go_num, by omega, HX2⟩
          case measure => omega
      · have hel1 : ¬ (e : Int) < (key.length : Int) := by omega
        have HX2 : Hid (e = f) := Lib.hid (by have := HEQ.out; rw [List.drop_of_length_le (by omega)] at this; exact this.symm)
        clear HEQ
        go_wp2_with fail
        go_meet
        exact ⟨rfl, e, rfl, HX2⟩
  case rest =>
    obtain ⟨rfl, e, rfl, HEE⟩ := hcut
    obtain rfl : e = f := HEE.out
    have K := Lib.hid fun q => (value_walk (key.drop e) ps (W0.drewN q) A n c gi (HX.out.same (Nat.le_refl _) fun _ _ => rfl) (by rw [List.length_drop]; omega) HP.out hn).mono fun e w' h => (show e = .returned (.string (bs (valGo (trimB (key.drop _)) ps))) ∧ ∃ n, w' = (W0.drewN q).drewN n from ⟨h.2, 0, h.1.symm⟩)
    rw [HV.out, ← HXD.out] at K
    have HLo := Lib.hid fun w2 => rlower_call (key.take e) w2 (by rw [List.length_take]; unfold maxLen; omega)
    rw [HKY.out] at HLo
    clear HEE HF
    go_wp2_with fail
    go_quiet (first | (go_at_call 32; exact Calls.quiet_of (K.out _)))
    have HB4 : Hid (Below w.heap.size w (W0.drewN nq)) := Lib.hid (bdrewN HB.out nq)
    have B1 : Hid (Blk (W0.drewN nq) w.heap.size 63 #[.int .i64 (at_ : Int), .string (bs key), .slice A n c]) := Lib.hid O1.out
    have B2 : Hid (Blk (W0.drewN nq) (w.heap.size + 1) 40 #[.string ⟨#[]⟩, .string ⟨#[]⟩]) := Lib.hid O2.out
    clear K k1 k2 O1 O2 HX HB
    generalize W0.drewN nq = w4 at *
    have k1 := B1.out.cell 1
    have k2 := B1.out.cell 2
    go_wp2_with fail
    rw [HXU.out]
    refine (HLo.out w4).mono ?_
    rintro e3 w5 ⟨hb5, rfl⟩
    have B5 := Lib.hid (B2.out.keep hb5)
    have HB5 := Lib.hid (HB4.out.trans (hb5.mono HB4.out.size))
    have c0 := B5.out.cell 0
    have c1 := B5.out.cell 1
    have f0 := B5.out.frozen 0
    have f1 := B5.out.frozen 1
    clear hb5 k1 k2
    go_wp2_with fail
    refine bodyPost_ret (res_entry rfl ((B5.out.set_ 0 (.string (bs ky))).set_ 1 (.string (bs v))) rfl) rfl ⟨(HB5.out.setCell (by show w.heap.size ≤ w.heap.size + 1; omega) _).setCell (by show w.heap.size ≤ w.heap.size + 1; omega) _, rfl⟩
end Go.Proofs.YtlknclkkhincfaaDoor
