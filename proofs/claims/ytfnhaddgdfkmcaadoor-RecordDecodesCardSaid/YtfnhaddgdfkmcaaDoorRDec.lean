/-
  The walk of waybillref03's Decode. No condition but what the bytes are.
-/
import Derived.Test.YtfnhaddgdfkmcaaDoorDec
import Derived.Test.YtfnhaddgdfkmcaaDoorRMark
import Derived.Test.YtfnhaddgdfkmcaaDoorHead
import Derived.Test.YtfnhaddgdfkmcaaDoorREnc
namespace Go.Proofs.YtfnhaddgdfkmcaaDoor
open Go.RowKit Go.Sort
set_option linter.unusedVariables false

/-- the variables of waybillref03's Decode: the result in block rb, the reader in block g, the message in block mb -/
structure DRef (R T : Nat) (w wr : World) (rb g mb : Nat) (cs : Array Value) (S : St) : Prop where
  bel : Below w.heap.size w wr
  res : Blk wr rb R #[.int .i64 0, .string ⟨#[]⟩, .slice none 0 0, .slice none 0 0]
  msg : Blk wr mb R cs
  rd : RdAt wr g T w.heap.size S
  h0 : w.heap.size ≤ rb
  h1 : rb < g
  h2 : g < mb
  h3 : mb < wr.heap.size
theorem DRef.call {R T : Nat} {w wr w' : World} {rb g mb : Nat} {cs : Array Value} {S S' : St} (h : DRef R T w wr rb g mb cs S) (ho : Only g wr w') (hr : RdAt w' g T w.heap.size S') : DRef R T w w' rb g mb cs S' :=
  ⟨h.bel.trans (ho.to_below (by have := h.h2; have := h.h3; omega) (by have := h.h0; have := h.h1; omega)), h.res.only ho (by have := h.h1; omega), h.msg.only ho (by have := h.h2; omega), hr, h.h0, h.h1, h.h2, Nat.lt_of_lt_of_le h.h3 ho.size⟩
theorem DRef.set_ {R T : Nat} {w wr : World} {rb g mb : Nat} {cs : Array Value} {S : St} (h : DRef R T w wr rb g mb cs S) (i : Nat) (v : Value) : DRef R T w (wr.setCell ⟨mb, i, none⟩ v) rb g mb (cs.setIfInBounds i v) S :=
  ⟨h.bel.setCell (by have := h.h0; have := h.h1; have := h.h2; simp; omega) v, h.res.far (p := ⟨mb, i, none⟩) (by have := h.h1; have := h.h2; simp; omega) v, h.msg.set_ i v, h.rd.far (p := ⟨mb, i, none⟩) (by have := h.h2; simp; omega) (by have := h.h0; have := h.h1; have := h.h2; simp; omega) v, h.h0, h.h1, h.h2, by have := h.h3; simpa using this⟩
theorem DRef.keep {R T : Nat} {w wr w' : World} {rb g mb : Nat} {cs : Array Value} {S : St} (h : DRef R T w wr rb g mb cs S) (hb : Below wr.heap.size wr w') : DRef R T w w' rb g mb cs S :=
  h.call (Only.of_below hb) (h.rd.keep hb)
theorem DRef.above {R T : Nat} {w wr w' : World} {rb g mb : Nat} {cs : Array Value} {S : St} (h : DRef R T w wr rb g mb cs S) (hb : Below (mb + 1) wr w') : DRef R T w w' rb g mb cs S := by
  have h0 := h.h0
  have h1 := h.h1
  have h2 := h.h2
  have h3 := h.h3
  refine ⟨h.bel.trans (hb.mono (by omega)), h.res.below hb (by omega), h.msg.below hb (by omega), ?_, h0, h1, h2, Nat.lt_of_lt_of_le h3 hb.size⟩
  obtain ⟨A, c, l, e, hr, hs⟩ := h.rd
  exact ⟨A, c, l, e, ⟨hr.blk.below hb (by omega), hr.rb.below (hb.mono (by omega)), hr.cap, hr.max, hr.hB⟩, hs⟩
theorem DRef.refuse {R T : Nat} {w wr : World} {rb g mb : Nat} {cs : Array Value} {S : St} (h : DRef R T w wr rb g mb cs S) :
    Blk ((((wr.setCell ⟨rb, 0, none⟩ (.int .i64 0)).setCell ⟨rb, 1, none⟩ (.string ⟨#[]⟩)).setCell ⟨rb, 2, none⟩ (.slice none 0 0)).setCell ⟨rb, 3, none⟩ (.slice none 0 0)) rb R #[.int .i64 0, .string ⟨#[]⟩, .slice none 0 0, .slice none 0 0] ∧
    Below w.heap.size w ((((wr.setCell ⟨rb, 0, none⟩ (.int .i64 0)).setCell ⟨rb, 1, none⟩ (.string ⟨#[]⟩)).setCell ⟨rb, 2, none⟩ (.slice none 0 0)).setCell ⟨rb, 3, none⟩ (.slice none 0 0)) := by
  have b := (((h.bel.setCell (p := ⟨rb, 0, none⟩) h.h0 (.int .i64 0)).setCell (p := ⟨rb, 1, none⟩) h.h0 (.string ⟨#[]⟩)).setCell (p := ⟨rb, 2, none⟩) h.h0 (.slice none 0 0)).setCell (p := ⟨rb, 3, none⟩) h.h0 (.slice none 0 0)
  exact ⟨(((h.res.set_ 0 (.int .i64 0)).set_ 1 (.string ⟨#[]⟩)).set_ 2 (.slice none 0 0)).set_ 3 (.slice none 0 0), b⟩
theorem failS_eq (S : St) : failS 30 S = needS false S := by cases S <;> rfl
theorem needS_true (S : St) : needS true S = S := by cases S <;> rfl
theorem numS_app (a b : List UInt8) (S : St) : numS (a ++ b) S = numS b (fixS a S) := by unfold numS; rw [fixS_app]
theorem numV_app (a b : List UInt8) (S : St) : numV (a ++ b) S = numV b (fixS a S) := by unfold numV; rw [fixS_app]
theorem rec_val2 {lr l8 : List UInt8} {tv : ByteArray} {mz : Int} (h : recS (.ok lr) = .ok l8)
    (hm : ∀ l, mrkS (.ok lr) = .ok l → mz = mrkV (.ok lr) ∧ markOk mz = true) (ht : ∀ l, textS [] (mrkS (.ok lr)) = .ok l → tv.data.toList = textV [] (mrkS (.ok lr))) :
    recV (.ok lr) = ⟨tv, UInt8.ofNat mz.toNat⟩ := by
  obtain ⟨_, h2⟩ := needS_ok h
  obtain ⟨l9, h9⟩ := textS_ok h2
  unfold recV
  rw [← (hm _ h9).1, ← ht _ h2]
theorem mz_val {mz : Int} (h0 : 0 ≤ mz) (h1 : mz ≤ 255) : ((UInt8.ofNat mz.toNat).toNat : Int) = mz := by rw [UInt8.toNat_ofNat']; omega
theorem step_eq (t : Int) (f : List UInt8) (k : Nat) (L : List Rc) {v r : Rc} {S : St} (h : ∀ l, S = .ok l → v = r) : decRec t f k (L ++ [v]) S = decRec t f k (L ++ [r]) S := by
  cases S with
  | bad e => rw [decRec_bad, decRec_bad]
  | ok l => rw [h l rfl]
theorem rec_end (t : Int) (f : List UInt8) {k : Nat} (L : List Rc) {S : St} (h : ∀ l, S = .ok l → k = 0) : decRec t f k L S = decData t f L S := by
  cases S with
  | bad e => rw [decRec_bad, decData_bad]
  | ok l => rw [h l rfl]; rfl
theorem recS_ok {lr l8 : List UInt8} {S : St} (h : recS S = .ok l8) : ∃ l, S = .ok l := by
  cases S with
  | bad e => rw [recS_bad] at h; cases h
  | ok l => exact ⟨l, rfl⟩
theorem Only.setNew {g : Nat} {w w' : World} (h : Only g w w') {p : Addr} (hp : w.heap.size ≤ p.block) (v : Value) : Only g w (w'.setCell p v) :=
  ⟨h.os, h.tape, h.output, by simpa using h.size, fun k hk hne => (Below.heap_setCell w' p v k (by omega)).trans (h.block k hk hne)⟩
theorem DRef.own {R T : Nat} {w wr w' : World} {rb g mb : Nat} {cs : Array Value} {S : St} (h : DRef R T w wr rb g mb cs S) {E s n : Nat} {v : Value} {xs : List Value} (hw : wr.ownsRow (mb + 1) E s v n xs) (hg : wr.grownBy w' v.ownBlock) : DRef R T w w' rb g mb cs S := by
  have h3 := h.h3
  exact h.above ⟨hg.os, hg.tape, hg.output, hg.size, fun k hk => hg.block k (by omega) (fun e => by have := (World.ownsRow.lt hw k e.symm).1; omega)⟩
set_option maxRecDepth 100000 in
set_option maxHeartbeats 4000000 in
theorem rdecode_walk (A : Option Addr) (l : List UInt8) (c : Nat) (w : World) (hr : RB w w.heap.size A l) (hc : l.length ≤ c) (hm : c ≤ maxLen) :
    Calls Tryd.prog 16 #[.slice A l.length c] w fun e w' => Below w.heap.size w w' ∧ DecP (decR l) w w' e := by
  obtain ⟨W3, hW3⟩ : ∃ W3, W3 = ((w.alloc (.cells #[.int .i64 0, .string ⟨#[]⟩, .slice none 0 0, .slice none 0 0] 25)).alloc (.cells #[.slice A l.length c, .int .i64 0] 58)).alloc (.cells #[.int .i64 0, .string ⟨#[]⟩, .slice none 0 0, .slice none 0 0] 25) := ⟨_, rfl⟩
  have hD : DRef 25 58 w W3 w.heap.size (w.heap.size + 1) (w.heap.size + 1 + 1) #[.int .i64 0, .string ⟨#[]⟩, .slice none 0 0, .slice none 0 0] (.ok l) := by
    have b1 := Blk.new w 25 #[.int .i64 0, .string ⟨#[]⟩, .slice none 0 0, .slice none 0 0]
    have a1 : Below w.heap.size w (w.alloc (.cells #[.int .i64 0, .string ⟨#[]⟩, .slice none 0 0, .slice none 0 0] 25)) := (Below.refl _ _).alloc (Nat.le_refl _) _
    have s1 : (w.alloc (.cells #[.int .i64 0, .string ⟨#[]⟩, .slice none 0 0, .slice none 0 0] 25)).heap.size = w.heap.size + 1 := by simp
    generalize w.alloc (.cells #[.int .i64 0, .string ⟨#[]⟩, .slice none 0 0, .slice none 0 0] 25) = u1 at *
    have b2 := Blk.new u1 58 #[.slice A l.length c, .int .i64 0]
    have a2 : Below w.heap.size w (u1.alloc (.cells #[.slice A l.length c, .int .i64 0] 58)) := a1.alloc (by omega) _
    have s2 : (u1.alloc (.cells #[.slice A l.length c, .int .i64 0] 58)).heap.size = w.heap.size + 2 := by simp [s1]
    have b1' := b1.alloc (.cells #[.slice A l.length c, .int .i64 0] 58)
    generalize u1.alloc (.cells #[.slice A l.length c, .int .i64 0] 58) = u2 at *
    have b3 := Blk.new u2 25 #[.int .i64 0, .string ⟨#[]⟩, .slice none 0 0, .slice none 0 0]
    have a3 : Below w.heap.size w (u2.alloc (.cells #[.int .i64 0, .string ⟨#[]⟩, .slice none 0 0, .slice none 0 0] 25)) := a2.alloc (by omega) _
    rw [s1] at b2
    rw [s2] at b3
    subst hW3
    exact ⟨a3, b1'.alloc _, b3, ⟨A, c, l, 0, ⟨b2.alloc _, hr.below a3, hc, hm, by omega⟩, stOf_ok l⟩, Nat.le_refl _, by omega, by omega, by simp; omega⟩
  have HN1 := Lib.hid (rfixed_walk (w.heap.size + 1) w.heap.size ⟨#[87, 49, 59]⟩ (.ok l) W3 hD.rd (by decide))
  have HD := Lib.hid hD
  have hW3' := hW3.symm
  have HF0 : Hid (decR l = decF (numV [116] (fixS [87, 49, 59] (.ok l))) (numS [116] (fixS [87, 49, 59] (.ok l)))) := Lib.hid (by rw [← numS_app, ← numV_app]; rfl)
  generalize decR l = F at *
  clear hD hW3
  go_enter Tryd.func16, Tryd.ntmps16
  go_wp2_with fail
  refine HN1.out.mono ?_
  rintro e w0 ⟨ho0, hr0, rfl⟩
  change RdAt w0 _ _ _ (fixS [87, 49, 59] (.ok l)) at hr0
  generalize fixS [87, 49, 59] (.ok l) = S0 at *
  have HD0 := Lib.hid (HD.out.call ho0 hr0)
  have HN2 := Lib.hid (rnumber_walk (w.heap.size + 1) w.heap.size ⟨#[116]⟩ S0 w0 hr0 (by decide))
  clear HN1 HD ho0 hr0 hW3'
  go_wp2_with fail
  refine HN2.out.mono ?_
  rintro e w1 ⟨ho1, hr1, z, hz0, hz1, rfl, hz⟩
  have D1 := HD0.out.call ho1 hr1
  have f1 := D1.msg.frozen 0
  have c1 : w1.cell? ⟨w.heap.size + 1 + 1, 0, none⟩ = some (.int .i64 0) := D1.msg.cell 0
  have D2 := D1.set_ 0 (.int .i64 z)
  have HN3 := Lib.hid (rtext_walk (w.heap.size + 1) w.heap.size ⟨#[102]⟩ _ _ D2.rd (by decide))
  have HD2 := Lib.hid D2
  have HZ := Lib.hid hz
  clear D1 D2 HN2 HD0 hz ho1 hr1
  go_wp2_with fail
  refine HN3.out.mono ?_
  rintro e w2 ⟨ho2, hr2, t, ht, rfl, htv⟩
  obtain ⟨sv, hsv⟩ : ∃ sv : ByteArray, sv = ⟨t.toArray⟩ := ⟨_, rfl⟩
  obtain rfl : t = sv.data.toList := by rw [hsv]
  rw [← hsv]
  clear hsv
  have D2 := HD2.out.call ho2 hr2
  have f2 := D2.msg.frozen 1
  have c2 : w2.cell? ⟨w.heap.size + 1 + 1, 1, none⟩ = some (.string ⟨#[]⟩) := D2.msg.cell 1
  have D3 := D2.set_ 1 (.string sv)
  have HD3 := Lib.hid D3
  have HTV := Lib.hid htv
  have hts : sv.size ≤ maxLen := by rw [size_len]; simp only [maxLen]; omega
  have HAD := Lib.hid (fun w' => isAddr_walk sv w' hts)
  have u3 : (w2.setCell ⟨w.heap.size + 1 + 1, 1, none⟩ (.string sv)).cell? ⟨w.heap.size + 1 + 1, 1, none⟩ = some (.string sv) := D3.msg.cell 1
  clear htv D2 D3 HN3 HD2 ho2 hr2 hts
  go_upto_region 6 with fail
  generalize hw3 : w2.setCell ⟨w.heap.size + 1 + 1, 1, none⟩ (.string sv) = w3 at *
  go_cut [6] from 26 to 33 (fun x wr => w3 = wr ∧ x = .bool (fromOk sv.data.toList))
  case first =>
    by_cases hf : sv = ⟨#[]⟩
    · subst hf
      go_wp2_with fail
      go_meet
      exact ⟨rfl, rfl⟩
    · have hf1 : sv.toList.isEmpty = false := by
        rw [ByteArray.toList_eq]
        cases hl : sv.data.toList with
        | nil => exact absurd (str_eq hl) hf
        | cons _ _ => rfl
      have hfo : Hid (fromOk sv.data.toList = addrOk sv.data.toList) := Lib.hid (by
        unfold fromOk
        cases hl : sv.data.toList with
        | nil => exact absurd (str_eq hl) hf
        | cons _ _ => rfl)
      go_wp2_with (go_at_call 29; refine (HAD.out _).mono ?_; rintro e w4 ⟨rfl, rfl⟩)
      go_meet
      exact ⟨rfl, by rw [hfo.out]⟩
  case rest =>
    obtain ⟨rfl, rfl⟩ := hcut
    have HND := Lib.hid (fail_walk (w.heap.size + 1) w.heap.size 30 (by decide) _ _ HD3.out.rd)
    generalize hfb : fromOk sv.data.toList = fb at *
    go_upto_if 35 with (fail)
    go_cut [4] from 36 to 37 (fun x wr => x = .pointer (some ⟨w.heap.size + 1, 0, none⟩) ∧ DRef 25 58 w wr w.heap.size (w.heap.size + 1) (w.heap.size + 1 + 1) #[.int .i64 z, .string sv, .slice none 0 0, .slice none 0 0] (needS fb (textS [102] (numS [116] S0))))
    case first =>
      cases fb
      · go_wp2_with (go_at_call 34; refine HND.out.mono ?_; rintro e w4 ⟨ho4, hr4, rfl⟩)
        go_meet
        exact ⟨rfl, by rw [← failS_eq]; exact HD3.out.call ho4 hr4⟩
      · go_wp2_with fail
        go_meet
        exact ⟨rfl, by rw [needS_true]; exact HD3.out⟩
    case rest =>
      obtain ⟨rfl, hDc⟩ := hcut
      rw [← hfb, needS_val fromOk HTV.out] at hDc
      generalize hw4 : wc = w4 at *
      have HS1 : Hid (∀ l2, needS (fromOk (textV [102] (numS [116] S0))) (textS [102] (numS [116] S0)) = .ok l2 → z = numV [116] S0 ∧ sv.data.toList = textV [102] (numS [116] S0)) := Lib.hid fun l2 hl2 => by
        obtain ⟨_, h2⟩ := needS_ok hl2
        obtain ⟨l3, h3⟩ := textS_ok h2
        exact ⟨HZ.out _ h3, HTV.out _ h2⟩
      have HF1 : Hid (F = decN (numV [116] S0) (textV [102] (numS [116] S0)) (needS (fromOk (textV [102] (numS [116] S0))) (textS [102] (numS [116] S0)))) := Lib.hid HF0.out
      clear HF0 hw4 hfb HTV HZ HAD HD3 u3 HND hw3
      generalize needS (fromOk (textV [102] (numS [116] S0))) (textS [102] (numS [116] S0)) = S3 at *
      generalize numV [116] S0 = zv at *
      generalize textV [102] (numS [116] S0) = tv at *
      have HD4 := Lib.hid hDc
      have HN4 := Lib.hid (rnumber_walk (w.heap.size + 1) w.heap.size ⟨#[110]⟩ S3 w4 hDc.rd (by decide))
      clear hDc
      go_wp2_with fail
      refine HN4.out.mono ?_
      rintro e w5 ⟨ho5, hr5, y, hy0, hy1, rfl, hy⟩
      have HD5 := Lib.hid (HD4.out.call ho5 hr5)
      have HY := Lib.hid hy
      have HND := Lib.hid (fail_walk (w.heap.size + 1) w.heap.size 30 (by decide) _ _ HD5.out.rd)
      clear HD4 HN4 ho5 hr5 hy
      go_upto_region 10 with fail
      go_cut [45] from 40 to 44 (fun x wr => w5 = wr ∧ x = .bool (!manyOk y))
      case first =>
        by_cases hm1 : 0 < y
        · by_cases hm2 : y ≤ 200
          · have hmo : Hid (manyOk y = true) := Lib.hid (decide_eq_true ⟨hm1, hm2⟩)
            go_wp2_with fail
            go_meet
            exact ⟨rfl, by rw [hmo.out]; simp; omega⟩
          · have hmo : Hid (manyOk y = false) := Lib.hid (decide_eq_false (fun h => hm2 h.2))
            have hm3 : 200 < y := by omega
            go_wp2_with fail
            go_meet
            exact ⟨rfl, by rw [hmo.out]; simp⟩
        · have hmo : Hid (manyOk y = false) := Lib.hid (decide_eq_false (fun h => hm1 h.1))
          have hm3 : y = 0 := by omega
          subst hm3
          go_wp2_with fail
          go_meet
          exact ⟨rfl, by rw [hmo.out]; rfl⟩
      case rest =>
        obtain ⟨rfl, rfl⟩ := hcut
        generalize hmb : manyOk y = mb at *
        go_upto_if 45 with (fail)
        go_cut [4] from 46 to 47 (fun x wr => x = .pointer (some ⟨w.heap.size + 1, 0, none⟩) ∧ DRef 25 58 w wr w.heap.size (w.heap.size + 1) (w.heap.size + 1 + 1) #[.int .i64 z, .string sv, .slice none 0 0, .slice none 0 0] (needS mb (numS [110] S3)))
        case first =>
          cases mb
          · go_wp2_with (go_at_call 34; refine HND.out.mono ?_; rintro e w6 ⟨ho6, hr6, rfl⟩)
            go_meet
            exact ⟨rfl, by rw [← failS_eq]; exact HD5.out.call ho6 hr6⟩
          · go_wp2_with fail
            go_meet
            exact ⟨rfl, by rw [needS_true]; exact HD5.out⟩
        case rest =>
          obtain ⟨rfl, hDc⟩ := hcut
          rw [← hmb, needS_val manyOk HY.out] at hDc
          generalize hw6 : wc = w6 at *
          have HS2 : Hid (∀ l2, needS (manyOk (numV [110] S3)) (numS [110] S3) = .ok l2 → (z = zv ∧ sv.data.toList = tv) ∧ y = numV [110] S3 ∧ y ≤ 200) := Lib.hid fun l2 hl2 => by
            obtain ⟨h1, h2⟩ := needS_ok hl2
            have h3 := HY.out _ h2
            obtain ⟨l4, h4⟩ := numS_ok h2
            refine ⟨HS1.out _ h4, h3, ?_⟩
            rw [← h3] at h1
            exact (of_decide_eq_true h1).2
          unfold decN at HF1
          generalize needS (manyOk (numV [110] S3)) (numS [110] S3) = S4 at *
          generalize numV [110] S3 = yv at *
          obtain ⟨n, rfl⟩ := Int.eq_ofNat_of_zero_le hy0
          have HF2 : Hid (F = decRec zv tv n [] S4) := Lib.hid (by
            cases S4 with
            | bad e => rw [HF1.out, decRec_bad, decRec_bad]
            | ok l4 =>
              have := (HS2.out l4 rfl).2.1
              rw [HF1.out, ← this, Int.toNat_natCast])
          have HS3 : Hid (∀ l2, S4 = .ok l2 → (z = zv ∧ sv.data.toList = tv) ∧ n ≤ 200) := Lib.hid fun l2 hl2 => by
            have := HS2.out l2 hl2
            exact ⟨this.1, by omega⟩
          have HD7 := Lib.hid hDc
          clear hw6 hmb HS1 HS2 HF1 HY HD5 HND hDc
          go_upto_block 0 with fail
          go_cut [8, 9, 10] from 48 to 79 (fun _ _ _ wr => ∃ (L : List Rc) (v : Value) (S : St), Hid (DRef 25 58 w wr w.heap.size (w.heap.size + 1) (w.heap.size + 1 + 1) #[.int .i64 z, .string sv, v, .slice none 0 0] S) ∧ Hid (OwnR wr (w.heap.size + 1 + 1 + 1) 41 v L) ∧ Hid (∀ r ∈ L, r.to.size ≤ 1048576) ∧ Hid (L.length ≤ 200) ∧ Hid (F = decData zv tv L S) ∧ Hid (∀ l2, S = .ok l2 → z = zv ∧ sv.data.toList = tv))
          case first =>
            have hn1 : (n : Int) ≤ 9007199254740992 := by omega
            go_wp2_with fail
            go_loopg [8] n (fun k i wr => ∃ (j : Nat) (L : List Rc) (v : Value) (S : St), j + k = n ∧ i = .int .i64 j ∧ Hid (L.length = j) ∧ Hid (j ≤ 200) ∧ Hid (DRef 25 58 w wr w.heap.size (w.heap.size + 1) (w.heap.size + 1 + 1) #[.int .i64 z, .string sv, v, .slice none 0 0] S) ∧ Hid (OwnR wr (w.heap.size + 1 + 1 + 1) 41 v L) ∧ Hid (∀ r ∈ L, r.to.size ≤ 1048576) ∧ Hid (F = decRec zv tv k L S) ∧ Hid (∀ l2, S = .ok l2 → (z = zv ∧ sv.data.toList = tv) ∧ n ≤ 200))
            case atStart => exact ⟨0, [], .slice none 0 0, S4, by omega, rfl, Lib.hid rfl, Lib.hid (by omega), HD7, Lib.hid (OwnR.nil _ _ _), Lib.hid (by simp), HF2, HS3⟩
            case round =>
              obtain ⟨j, L, v, S, hj, rfl, hL, hj2, HD, HO, HSZ, HF, HS⟩ := hrel
              clear HD7 HF2 HS3
              have FIN := Lib.hid (fun (h : ∀ l, S = .ok l → gk = 0) => show ∃ (L : List Rc) (v : Value) (S : St), Hid (DRef 25 58 w wr w.heap.size (w.heap.size + 1) (w.heap.size + 1 + 1) #[.int .i64 z, .string sv, v, .slice none 0 0] S) ∧ Hid (OwnR wr (w.heap.size + 1 + 1 + 1) 41 v L) ∧ Hid (∀ r ∈ L, r.to.size ≤ 1048576) ∧ Hid (L.length ≤ 200) ∧ Hid (F = decData zv tv L S) ∧ Hid (∀ l2, S = .ok l2 → z = zv ∧ sv.data.toList = tv) from
                ⟨L, v, S, HD, HO, HSZ, Lib.hid (by have := hL.out; have := hj2.out; omega), Lib.hid (by rw [HF.out]; exact rec_end _ _ _ h), Lib.hid fun l2 h2 => (HS.out l2 h2).1⟩)
              obtain ⟨A8, c8, l8, e8, hrd, hst⟩ := HD.out.rd
              have k1 := hrd.c1
              by_cases hlt : j < n
              · have hj1 : (j : Int) < (n : Int) := by omega
                by_cases he : e8 = 0
                · subst he
                  rw [stOf_ok] at hst
                  subst hst
                  obtain ⟨k, rfl⟩ : ∃ k, gk = k + 1 := ⟨gk - 1, by omega⟩
                  have HFr : Hid (F = decRec zv tv k (L ++ [recV (.ok l8)]) (recS (.ok l8))) := HF
                  have hn2 := (HS.out l8 rfl).2
                  have hn3 : (n : Int) ≤ 200 := by omega
                  have XB := Blk.new wr 41 #[.string ⟨#[]⟩, .int .u8 0]
                  have ON := (Only.refl (g := w.heap.size + 1) wr).alloc (Nat.le_refl _) (.cells #[.string ⟨#[]⟩, .int .u8 0] 41)
                  have RD := HD.out.rd.keep ((Below.refl wr.heap.size wr).alloc (Nat.le_refl _) (.cells #[.string ⟨#[]⟩, .int .u8 0] 41))
                  have hx0 := HD.out.h3
                  have hxs : (wr.alloc (.cells #[.string ⟨#[]⟩, .int .u8 0] 41)).heap.size = wr.heap.size + 1 := by simp
                  have HC1 := Lib.hid (rmark_walk (w.heap.size + 1) w.heap.size _ _ RD)
                  have XB1 := Lib.hid XB
                  have ON1 := Lib.hid ON
                  have HX0 := Lib.hid hx0
                  clear XB ON RD hrd FIN hxs HF
                  go_wp2_with fail
                  refine HC1.out.mono ?_
                  rintro e x2 ⟨ho2, hr2, mz, hmz0, hmz1, rfl, hmz⟩
                  have XB := XB1.out.only ho2 (by have := HX0.out; omega)
                  have fx := XB.frozen 1
                  have cx : x2.cell? ⟨wr.heap.size, 1, none⟩ = some (.int .u8 0) := XB.cell 1
                  have XB2 := Lib.hid (XB.set_ 1 (.int .u8 mz))
                  have ON2 := Lib.hid ((ON1.out.trans ho2).setNew (p := ⟨wr.heap.size, 1, none⟩) (Nat.le_refl _) (.int .u8 mz))
                  have RD2 := Lib.hid (hr2.far (p := ⟨wr.heap.size, 1, none⟩) (by have := HX0.out; simp; omega) (by have := HX0.out; simp; omega) (.int .u8 mz))
                  have HMZ := Lib.hid hmz
                  have HC2 := Lib.hid (rtext_walk (w.heap.size + 1) w.heap.size ⟨#[]⟩ _ _ RD2.out (by decide))
                  clear XB XB1 ON1 HC1 hmz ho2 hr2
                  go_wp2_with fail
                  refine HC2.out.mono ?_
                  rintro e x3 ⟨ho3, hr3, tt, htt, rfl, httv⟩
                  obtain ⟨tv2, htv2⟩ : ∃ tv2 : ByteArray, tv2 = ⟨tt.toArray⟩ := ⟨_, rfl⟩
                  obtain rfl : tt = tv2.data.toList := by rw [htv2]
                  rw [← htv2]
                  clear htv2
                  have XB := XB2.out.only ho3 (by have := HX0.out; omega)
                  have fx := XB.frozen 0
                  have cx : x3.cell? ⟨wr.heap.size, 0, none⟩ = some (.string ⟨#[]⟩) := XB.cell 0
                  have XB3 : Hid (Blk (x3.setCell ⟨wr.heap.size, 0, none⟩ (.string tv2)) wr.heap.size 41 #[.string tv2, .int .u8 mz]) := Lib.hid (XB.set_ 0 (.string tv2))
                  have ON3 := Lib.hid ((ON2.out.trans ho3).setNew (p := ⟨wr.heap.size, 0, none⟩) (Nat.le_refl _) (.string tv2))
                  have RD3 : Hid (RdAt (x3.setCell ⟨wr.heap.size, 0, none⟩ (.string tv2)) (w.heap.size + 1) 58 w.heap.size (textS [] (mrkS (.ok l8)))) := Lib.hid (hr3.far (p := ⟨wr.heap.size, 0, none⟩) (by have := HX0.out; simp; omega) (by have := HX0.out; simp; omega) (.string tv2))
                  have cx0 : (x3.setCell ⟨wr.heap.size, 0, none⟩ (.string tv2)).cell? ⟨wr.heap.size, 0, none⟩ = some (.string tv2) := XB3.out.cell 0
                  have cx1 : (x3.setCell ⟨wr.heap.size, 0, none⟩ (.string tv2)).cell? ⟨wr.heap.size, 1, none⟩ = some (.int .u8 mz) := XB3.out.cell 1
                  have HTT := Lib.hid httv
                  have HC3 := Lib.hid (fun w' => isAddr_walk tv2 w' (by rw [size_len]; simp only [maxLen]; omega))
                  have HC4 := Lib.hid (fail_walk (w.heap.size + 1) w.heap.size 30 (by decide) _ _ RD3.out)
                  clear XB XB2 ON2 RD2 HC2 httv ho3 hr3
                  generalize hx4 : x3.setCell ⟨wr.heap.size, 0, none⟩ (.string tv2) = x4 at *
                  go_wp2_with fail
                  refine (HC3.out x4).mono ?_
                  rintro e x5 ⟨rfl, rfl⟩
                  clear HC3 cx fx cx0 cx1 hx4
                  generalize hab : addrOk tv2.data.toList = ab at *
                  go_upto_if 71 with (fail)
                  go_cut [4] from 72 to 73 (fun x wx => x = .pointer (some ⟨w.heap.size + 1, 0, none⟩) ∧ Only (w.heap.size + 1) wr wx ∧ RdAt wx (w.heap.size + 1) 58 w.heap.size (needS ab (textS [] (mrkS (.ok l8)))) ∧ Blk wx wr.heap.size 41 #[.string tv2, .int .u8 mz])
                  case first =>
                    cases ab
                    · go_wp2_with (go_at_call 34; refine HC4.out.mono ?_; rintro e w6 ⟨ho6, hr6, rfl⟩)
                      go_meet
                      exact ⟨rfl, ON3.out.trans ho6, by rw [← failS_eq]; exact hr6, XB3.out.only ho6 (by have := HX0.out; omega)⟩
                    · go_wp2_with fail
                      go_meet
                      exact ⟨rfl, ON3.out, by rw [needS_true]; exact RD3.out, XB3.out⟩
                  case rest =>
                    obtain ⟨rfl, hON, hRD, hXB⟩ := hcut
                    rw [← hab, needS_val addrOk HTT.out] at hRD
                    change RdAt _ _ _ _ (recS (.ok l8)) at hRD
                    generalize hw7 : wc = x7 at *
                    have HSE : Hid (F = decRec zv tv k (L ++ [⟨tv2, UInt8.ofNat mz.toNat⟩]) (recS (.ok l8))) := Lib.hid (by
                      rw [HFr.out]
                      exact step_eq _ _ _ _ fun l2 h2 => rec_val2 h2 HMZ.out HTT.out)
                    have HSR : Hid (∀ l2, recS (.ok l8) = .ok l2 → (z = zv ∧ sv.data.toList = tv) ∧ n ≤ 200) := Lib.hid fun l2 h2 => HS.out l8 rfl
                    have HDc := HD.out.call hON hRD
                    have HO7 := HO.out.only hON (by omega)
                    clear hw7 HFr HTT HMZ HS HD HO ON3 RD3 XB3 HC4 hRD hab
                    have cx0 : x7.cell? ⟨wr.heap.size, 0, none⟩ = some (.string tv2) := hXB.cell 0
                    have cx1 : x7.cell? ⟨wr.heap.size, 1, none⟩ = some (.int .u8 mz) := hXB.cell 1
                    obtain ⟨ii, hi1, hi2, hi3, hi4⟩ := info_parts (show (Tryd.prog.info? 41).map (fun i => (i.zero, i.size, i.bytes)) = some (some (.agg #[.string ⟨#[]⟩, .int .u8 0]), 2, 24) by kernel_rfl)
                    have HI := Lib.hid hi1
                    have HI2 := Lib.hid hi2
                    have HI3 := Lib.hid hi3
                    have HI4 := Lib.hid hi4
                    have HDa := Lib.hid (HDc.keep ((Below.refl _ _).alloc (Nat.le_refl _) (.cells #[.string tv2, .int .u8 mz] 41)))
                    have HOa := Lib.hid (HO7.alloc (.cells #[.string tv2, .int .u8 mz] 41))
                    have mc : x7.cell? ⟨w.heap.size + 1 + 1, 2, none⟩ = some v := HDc.msg.cell 2
                    have hx7 := HDc.h3
                    have hL1 : L.length + 1 ≤ 1000 := by have := hL.out; omega
                    have HBN := Lib.hid (Blk.new x7 41 #[.string tv2, .int .u8 mz])
                    clear hi1 hi2 hi3 hi4 HDc HO7 hXB hON
                    go_wp2_with (at_builtin; go_loud (refine wpList_append_lies _ rfl (.tmp 75) (.tmp 77) 22 rfl (w.heap.size + 1 + 1 + 1) 41 ii (.agg #[.string ⟨#[]⟩, .int .u8 0]) 2 24 Tryd.underlying22 HI.out HI2.out HI3.out HI4.out rfl (by decide) v L.length _ rfl HOa.out ⟨x7.heap.size, 0, none⟩ 1 1 [.string tv2, .int .u8 mz] rfl rfl (World.news_of_block HBN.out) (by simp [Value.oneCell']) (by decide) (by simp only [maxLen]; omega) (by omega) (by simp; omega) _ rfl ?_; intro g9 cp9 x9 hr9 hg9 hc9 hlt9; have D9 := HDa.out.own HOa.out hg9; have f9 := D9.msg.frozen 2; have m9 : x9.cell? ⟨w.heap.size + 1 + 1, 2, none⟩ = some v := D9.msg.cell 2; have HD9 := Lib.hid D9; have HR9 := Lib.hid hr9; clear D9 hr9 hg9 hc9))
                    go_roundg k
                    case rel =>
                      refine ⟨j + 1, L ++ [⟨tv2, UInt8.ofNat mz.toNat⟩], _, recS (.ok l8), by omega, by go_num, Lib.hid (by simp [hL.out]), Lib.hid (by omega), Lib.hid (HD9.out.set_ 2 _), Lib.hid ?_, Lib.hid ?_, HSE, HSR⟩
                      · exact OwnR.snoc (own_far HR9.out (p := ⟨w.heap.size + 1 + 1, 2, none⟩) (by simp) _) (mz_val hmz0 hmz1)
                      · intro r hr
                        rcases List.mem_append.1 hr with h | h
                        · exact HSZ.out r h
                        · rw [List.mem_singleton] at h
                          subst h
                          rw [size_len]; exact htt
                    case measure => omega
                · have he1 : (e8 == 0) = false := beq_eq_false_iff_ne.2 he
                  rw [stOf_bad _ he] at hst
                  have FI := Lib.hid (FIN.out (fun l h => by rw [← hst] at h; cases h))
                  clear hrd FIN he
                  go_wp2_with fail
                  go_meet
                  exact FI.out
              · have hk0 : gk = 0 := by omega
                have hj1 : (n : Int) ≤ (j : Int) := by omega
                have FI := Lib.hid (FIN.out (fun _ _ => hk0))
                clear hrd FIN
                go_wp2_with fail
                go_meet
                exact FI.out
          case rest =>
            obtain ⟨L, v, S, HD, HO, HSZ, hL2, HFd, HS⟩ := hcut
            clear HF2 HS3 HD7 hy0 hy1
            generalize hwr : wc = wr at *
            clear hwr
            have HC1 := Lib.hid (rtext_walk (w.heap.size + 1) w.heap.size ⟨#[100]⟩ _ wr HD.out.rd (by decide))
            go_wp2_with fail
            refine HC1.out.mono ?_
            rintro e x1 ⟨ho1, hr1, td, htd, rfl, htdv⟩
            have HD1 := Lib.hid (HD.out.call ho1 hr1)
            have HO1 := Lib.hid (HO.out.only ho1 (by omega))
            have m3 : x1.cell? ⟨w.heap.size + 1 + 1, 3, none⟩ = some (.slice none 0 0) := HD1.out.msg.cell 3
            have hds : (⟨td.toArray⟩ : ByteArray).size ≤ 1048576 := by rw [size_len]; exact htd
            have h31 := HD1.out.h3
            have HTD := Lib.hid htdv
            clear HC1 ho1 hr1 HD HO htdv
            go_wp2_with (at_builtin; go_loud (refine wpList_appS _ isU8 Tryd.underlying9 (.tmp 83) (.tmp 84) rfl rfl x1.heap.size rfl (OwnB.nil x1 x1.heap.size _) ⟨td.toArray⟩ rfl (by simp only [List.length_nil]; omega) (Nat.le_refl _) ?_; intro v2 x2 hw2 hb2; have D2 := HD1.out.keep hb2; have f3 := D2.msg.frozen 3; have m4 : x2.cell? ⟨w.heap.size + 1 + 1, 3, none⟩ = some (.slice none 0 0) := D2.msg.cell 3; have HO2 := Lib.hid (HO1.out.below hb2); have HD2 := Lib.hid D2; have hw3 : OwnW x2 (w.heap.size + 1 + 1 + 1) v2 td := OwnW.mono (OwnW.of_own hw2) (by omega); have HW2 := Lib.hid hw3; obtain ⟨A2, q, rfl, -, -, -⟩ := hw3; clear hb2 D2 hw2))
            have HD3 : Hid (DRef 25 58 w (x2.setCell ⟨w.heap.size + 1 + 1, 3, none⟩ (.slice A2 td.length q)) w.heap.size (w.heap.size + 1) (w.heap.size + 1 + 1) #[.int .i64 z, .string sv, v, .slice A2 td.length q] (textS [100] S)) := Lib.hid (HD2.out.set_ 3 (.slice A2 td.length q))
            have HO3 := Lib.hid (own_far HO2.out (p := ⟨w.heap.size + 1 + 1, 3, none⟩) (by simp) (.slice A2 td.length q))
            have HW3 := Lib.hid (HW2.out.far (p := ⟨w.heap.size + 1 + 1, 3, none⟩) (by simp) (.slice A2 td.length q))
            have HC2 := Lib.hid (rfixed_walk (w.heap.size + 1) w.heap.size ⟨#[101]⟩ _ _ HD3.out.rd (by decide))
            clear HD1 HO1 HD2 HO2 HW2 m3 m4 f3
            generalize hx3 : x2.setCell ⟨w.heap.size + 1 + 1, 3, none⟩ (.slice A2 td.length q) = x3 at *
            go_wp2_with fail
            refine HC2.out.mono ?_
            rintro e x4 ⟨ho4, hr4, rfl⟩
            have HD4 : Hid (DRef 25 58 w x4 w.heap.size (w.heap.size + 1) (w.heap.size + 1 + 1) #[.int .i64 z, .string sv, v, .slice A2 td.length q] (fixS [101] (textS [100] S))) := Lib.hid (HD3.out.call ho4 hr4)
            have HO4 := Lib.hid (OwnR.only HO3.out ho4 (by omega))
            have HW4 := Lib.hid (HW3.out.only ho4 (by omega))
            clear ho4 hr4 HD3 HO3 HW3 HC2 hx3
            change Hid (F = decHex _ (fixS [101] (textS [100] S))) at HFd
            have HMV : Hid (∀ l2, fixS [101] (textS [100] S) = .ok l2 → td = textV [100] S ∧ z = zv ∧ sv.data.toList = tv) := Lib.hid fun l2 h2 => by
              obtain ⟨l3, h3⟩ := fixS_ok h2
              obtain ⟨l4, h4⟩ := textS_ok h3
              exact ⟨HTD.out _ h3, HS.out _ h4⟩
            generalize fixS [101] (textS [100] S) = S5 at *
            obtain ⟨A9, c9, l9, e9, hrd9, hst9⟩ := HD4.out.rd
            have k0 := hrd9.c0
            have HC3 := Lib.hid (rtakeHex_any A9 l9 c9 x4 _ hrd9.rb hrd9.cap hrd9.max)
            have HST9 := Lib.hid hst9
            have HC4 := Lib.hid (took_walk (w.heap.size + 1) w.heap.size 8 (thE l9) S5 x4 HD4.out.rd (fun l2 h2 h3 => th_len hst9 h2 h3) (fun h2 h3 => by rw [h2] at h3; cases h3))
            clear hrd9 hst9 HTD HS
            go_wp2_with fail
            refine HC3.out.mono ?_
            rintro e x5 ⟨rfl, rfl⟩
            go_wp2_with fail
            refine HC4.out.mono ?_
            rintro e x5 ⟨ho5, hr5, rfl⟩
            have HD6 := Lib.hid (HD4.out.call ho5 hr5)
            have HO6 := Lib.hid (HO4.out.only ho5 (by omega))
            have HW6 := Lib.hid (HW4.out.only ho5 (by omega))
            have HC5 := Lib.hid (rfixed_walk (w.heap.size + 1) w.heap.size ⟨#[10]⟩ _ x5 hr5 (by decide))
            clear ho5 hr5 HC4 HD4 HO4 HW4 HC3 k0
            go_wp2_with fail
            refine HC5.out.mono ?_
            rintro e x6 ⟨ho6, hr6, rfl⟩
            have HD7 : Hid (DRef 25 58 w x6 w.heap.size (w.heap.size + 1) (w.heap.size + 1 + 1) #[.int .i64 z, .string sv, v, .slice A2 td.length q] (fixS [10] (wentS 8 (thE l9) S5))) := Lib.hid (HD6.out.call ho6 hr6)
            have HO7 := Lib.hid (HO6.out.only ho6 (by omega))
            have HW7 := Lib.hid (HW6.out.only ho6 (by omega))
            rw [dec_hex _ HST9.out] at HFd
            have HS75 : Hid (∀ l2, fixS [10] (wentS 8 (thE l9) S5) = .ok l2 → ∃ l3, S5 = .ok l3) := Lib.hid fun l2 h2 => by
              obtain ⟨l3, h3⟩ := fixS_ok h2
              cases S5 with
              | bad e => cases h3
              | ok l4 => exact ⟨l4, rfl⟩
            generalize fixS [10] (wentS 8 (thE l9) S5) = S7 at *
            obtain ⟨A10, c10, l10, e10, hrd10, hst10⟩ := HD7.out.rd
            have k0 := hrd10.c0
            have HST10 := Lib.hid hst10
            have HND := Lib.hid (fail_walk (w.heap.size + 1) w.heap.size 30 (by decide) _ x6 HD7.out.rd)
            clear ho6 hr6 HC5 HD6 HO6 HW6 hrd10 hst10
            go_upto_region 28 with fail
            go_cut [107] from 102 to 106 (fun x wr => x6 = wr ∧ x = .bool (!decide (l10 = [])))
            case first =>
              by_cases hl : l10 = []
              · subst hl
                go_wp2_with fail
                go_meet
                exact ⟨rfl, rfl⟩
              · have hl1 : (0 : Int) < (l10.length : Int) := by have := List.length_pos_iff.2 hl; omega
                have hl2 : Hid (decide (l10 = []) = false) := Lib.hid (decide_eq_false hl)
                clear hl
                go_wp2_with fail
                go_meet
                exact ⟨rfl, by rw [hl2.out]; first | rfl | (simp <;> omega)⟩
            case rest =>
              obtain ⟨rfl, rfl⟩ := hcut
              generalize hdb : decide (l10 = []) = db at *
              go_upto_if 107 with (fail)
              go_cut [4] from 108 to 109 (fun x wr => x = .pointer (some ⟨w.heap.size + 1, 0, none⟩) ∧ Only (w.heap.size + 1) x6 wr ∧ RdAt wr (w.heap.size + 1) 58 w.heap.size (needS db S7))
              case first =>
                cases db
                · go_wp2_with (go_at_call 34; refine HND.out.mono ?_; rintro e w6 ⟨ho6, hr6, rfl⟩)
                  go_meet
                  exact ⟨rfl, ho6, by rw [← failS_eq]; exact hr6⟩
                · go_wp2_with fail
                  go_meet
                  exact ⟨rfl, Only.refl _, by rw [needS_true]; exact HD7.out.rd⟩
              case rest =>
                obtain ⟨rfl, ho7, hr7⟩ := hcut
                have hDc := HD7.out.call ho7 hr7
                have HO8 := Lib.hid (HO7.out.only ho7 (by omega))
                have HW8 := Lib.hid (HW7.out.only ho7 (by omega))
                generalize hx7 : wc = x7 at *
                clear ho7 hr7 HND HO7 HW7 HD7 hx7 k0
                rw [← hdb] at hDc
                clear hdb
                obtain ⟨A8, c8, l8, e8, hrd, hst⟩ := hDc.rd
                have k1 := hrd.c1
                by_cases he : e8 = 0
                · subst he
                  rw [stOf_ok] at hst
                  rw [dec_sum_ok _ _ HST10.out hst.symm] at HFd
                  obtain ⟨_, h7⟩ := needS_ok hst.symm
                  obtain ⟨l3, h5⟩ := HS75.out _ h7
                  have HM : Hid ((⟨zv, ⟨tv.toArray⟩, L, textV [100] S⟩ : Msg) = ⟨z, sv, L, td⟩) := Lib.hid (by
                    obtain ⟨e1, e2, e3⟩ := HMV.out _ h5
                    rw [← e1, e2, ← e3, ← str_eq rfl])
                  rw [HM.out] at HFd
                  obtain ⟨A1, c1, rfl, hvc, hvm, hvr⟩ := HO8.out.out
                  obtain ⟨Ax, cx, ev, hwc, hwm, hwr⟩ := HW8.out.out
                  injection ev with ev1 ev2 ev3
                  subst ev1
                  subst ev3
                  have hMA : MsgAt x7 x7.heap.size ⟨z, sv, L, td⟩ A1 c1 A2 q := ⟨hvr, hwr, hvc, by dsimp only; have := hL2.out; omega, hvm, hwc, by dsimp only; omega, hwm, by dsimp only; omega, by dsimp only; omega, by dsimp only; rw [size_len]; simp only [maxLen]; omega, fun r hr => by have := HSZ.out r hr; simp only [maxLen]; omega⟩
                  have hXP : (hdB ⟨z, sv, L, td⟩ ++ recB L).length ≤ 300000000 := by
                    have h1 := recB_len (L := L)
                    have h2 := hdB_len ⟨z, sv, L, td⟩
                    have h4 := hL2.out
                    rw [List.length_append]
                    omega
                  have htb := textB_len td
                  have HLB : Hid (layB ⟨z, sv, L, td⟩ = hdB ⟨z, sv, L, td⟩ ++ recB L ++ ([100] ++ textB td)) := Lib.hid rfl
                  have HH := Lib.hid (head_walk ⟨z, sv, L, td⟩ A1 c1 A2 q L.length true x7 hMA hL2.out (Nat.le_refl _))
                  unfold mCells HeadAns at HH
                  rw [show (⟨z, sv, L, td⟩ : Msg).rcpts = L from rfl, hdR_plain _ _ (Nat.le_refl _)] at HH
                  dsimp only at HH
                  have m0 : x7.cell? ⟨w.heap.size + 1 + 1, 0, none⟩ = some (.int .i64 z) := hDc.msg.cell 0
                  have m1 : x7.cell? ⟨w.heap.size + 1 + 1, 1, none⟩ = some (.string sv) := hDc.msg.cell 1
                  have m2 : x7.cell? ⟨w.heap.size + 1 + 1, 2, none⟩ = some (.slice A1 L.length c1) := hDc.msg.cell 2
                  have m3 : x7.cell? ⟨w.heap.size + 1 + 1, 3, none⟩ = some (.slice A2 td.length q) := hDc.msg.cell 3
                  have HDc := Lib.hid hDc
                  have HTX := Lib.hid (fun base v l w' h1 h2 h3 => rtx_walk base v l 100 ⟨td.toArray⟩ w' h1 h2 (by rw [size_len]; simp only [maxLen]; omega) h3)
                  clear hDc hrd hst h7 h5 hvr hwr hMA
                  generalize hdB ⟨z, sv, L, td⟩ ++ recB L = XP at *
                  go_wp2_with fail
                  refine HH.out.mono ?_
                  rintro e x8 ⟨hb8, v8, rfl, ho8⟩
                  have HT := Lib.hid (HTX.out x7.heap.size v8 XP x8 ho8 hb8.size (by omega))
                  have HB8 := Lib.hid hb8
                  clear hb8 ho8 HTX
                  go_wp2_with fail
                  refine HT.out.mono ?_
                  rintro e x9 ⟨hb9, v9, rfl, ho9⟩
                  change OwnB x9 x7.heap.size _ v9 (XP ++ ([100] ++ textB td)) at ho9
                  rw [← HLB.out] at ho9
                  generalize layB ⟨z, sv, L, td⟩ = lb at *
                  obtain ⟨A12, c12, rfl, hc12, hm12, hr12⟩ := ho9.out
                  have HB9 := Lib.hid (HB8.out.trans hb9)
                  have HSM := Lib.hid (rsum_any A12 lb c12 x9 _ hr12 (by omega))
                  have HD9 := Lib.hid (HDc.out.keep HB9.out)
                  have HO9 := Lib.hid (HO8.out.below HB9.out)
                  have HW9 := Lib.hid (HW8.out.below HB9.out)
                  have HH9 := HH
                  clear hb9 ho9 hr12 HH HDc HO8 HW8 HT
                  go_wp2_with fail
                  refine HSM.out.mono ?_
                  rintro e x10 ⟨rfl, rfl⟩
                  have m0 : x9.cell? ⟨w.heap.size + 1 + 1, 0, none⟩ = some (.int .i64 z) := HD9.out.msg.cell 0
                  have m1 : x9.cell? ⟨w.heap.size + 1 + 1, 1, none⟩ = some (.string sv) := HD9.out.msg.cell 1
                  have m2 : x9.cell? ⟨w.heap.size + 1 + 1, 2, none⟩ = some (.slice A1 L.length c1) := HD9.out.msg.cell 2
                  have m3 : x9.cell? ⟨w.heap.size + 1 + 1, 3, none⟩ = some (.slice A2 td.length q) := HD9.out.msg.cell 3
                  have hfr0 := HD9.out.res.frozen 0
                  have hfr1 := HD9.out.res.frozen 1
                  have hfr2 := HD9.out.res.frozen 2
                  have hfr3 := HD9.out.res.frozen 3
                  have hrr0 := HD9.out.res.cell 0
                  have hrr1 := HD9.out.res.cell 1
                  have hrr2 := HD9.out.res.cell 2
                  have hrr3 := HD9.out.res.cell 3
                  by_cases hs : thV l9 = (crc lb : Int)
                  · rw [if_pos hs] at HFd
                    have hs1 : (thV l9 == (crc lb : Int)) = true := beq_iff_eq.2 hs
                    have hs2 : (thV l9 != (crc lb : Int)) = false := by rw [bne, hs1]; rfl
                    clear hs
                    go_wp2_with fail
                    have B0 := (((HD9.out.res.set_ 0 (.int .i64 z)).set_ 1 (.string sv)).set_ 2 (.slice A1 L.length c1)).set_ 3 (.slice A2 td.length q)
                    refine bodyPost_ret (res_msg rfl B0 rfl rfl) rfl ⟨(((HD9.out.bel.setCell (Nat.le_refl _) _).setCell (Nat.le_refl _) _).setCell (Nat.le_refl _) _).setCell (Nat.le_refl _) _, decP_ok HFd.out ?_ ?_⟩
                    · exact own_base_lt ((own_far (own_far (own_far (own_far HO9.out (p := ⟨w.heap.size, 0, none⟩) (by simp; omega) _) (p := ⟨w.heap.size, 1, none⟩) (by simp; omega) _) (p := ⟨w.heap.size, 2, none⟩) (by simp; omega) _) (p := ⟨w.heap.size, 3, none⟩) (by simp; omega) _)) (by omega)
                    · exact ((((HW9.out.far (p := ⟨w.heap.size, 0, none⟩) (by simp; omega) _).far (p := ⟨w.heap.size, 1, none⟩) (by simp; omega) _).far (p := ⟨w.heap.size, 2, none⟩) (by simp; omega) _).far (p := ⟨w.heap.size, 3, none⟩) (by simp; omega) _).mono (by omega)
                  · rw [if_neg hs] at HFd
                    have hs1 : (thV l9 == (crc lb : Int)) = false := beq_eq_false_iff_ne.2 hs
                    have hs2 : (thV l9 != (crc lb : Int)) = true := by rw [bne, hs1]; rfl
                    clear hs
                    go_wp2_with fail
                    refine bodyPost_ret (res_msg rfl HD9.out.refuse.1 rfl rfl) rfl ⟨HD9.out.refuse.2, decP_bad HFd.out _ _⟩
                · have he1 : (e8 == 0) = false := beq_eq_false_iff_ne.2 he
                  have he2 : (e8 != 0) = true := bne_iff_ne.2 he
                  rw [stOf_bad _ he] at hst
                  rw [dec_sum_bad _ _ HST10.out hst.symm] at HFd
                  have HD4 := Lib.hid hDc
                  have hfr0 := hDc.res.frozen 0
                  have hfr1 := hDc.res.frozen 1
                  have hfr2 := hDc.res.frozen 2
                  have hfr3 := hDc.res.frozen 3
                  have hrr0 := hDc.res.cell 0
                  have hrr1 := hDc.res.cell 1
                  have hrr2 := hDc.res.cell 2
                  have hrr3 := hDc.res.cell 3
                  clear hDc hrd he hst
                  go_wp2_with fail
                  go_region
                  all_goals
                    go_wp2_with fail
                    refine bodyPost_ret (res_msg rfl HD4.out.refuse.1 rfl rfl) rfl ⟨bdrew1 HD4.out.refuse.2, decP_bad HFd.out _ _⟩
end Go.Proofs.YtfnhaddgdfkmcaaDoor
