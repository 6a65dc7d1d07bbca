/-
  The walk of record.Decode. No condition but what the bytes are and the tables of the library.
-/
import Derived.Test.YtfnhaddgdfkmcaaDoorDec0
import Derived.Test.YtfnhaddgdfkmcaaDoorLay
import Derived.Test.YtfnhaddgdfkmcaaDoorTabs
import Derived.Test.YtfnhaddgdfkmcaaDoorCrc
import Derived.Test.YtfnhaddgdfkmcaaDoorRdF
import Derived.Test.YtfnhaddgdfkmcaaDoorAddr2
import Derived.Deep.CutBlock
import Derived.Deep.DeepCutAuto
import Derived.WalkMore
import Derived.Test.YtfnhaddgdfkmcaaDoorScope
import Derived.Test.YtfnhaddgdfkmcaaDoorWri
import Derived.Deep.AppendLies
namespace Go.Proofs.YtfnhaddgdfkmcaaDoor
open Go.RowKit Go.Sort
set_option linter.unusedVariables false

/-- Decode's variables: the result in block rb, the message in block mb, the reader in block g -/
structure DecSt (R T : Nat) (w wr : World) (rb mb g : Nat) (cs : Array Value) (S : St) : Prop where
  bel : Below w.heap.size w wr
  res : Blk wr rb R #[.int .i64 0, .string ⟨#[]⟩, .slice none 0 0, .slice none 0 0]
  msg : Blk wr mb R cs
  rd : RdAt wr g T w.heap.size S
  h0 : w.heap.size ≤ rb
  h1 : rb < mb
  h2 : mb < g
  h3 : g < wr.heap.size
theorem DecSt.call {R T : Nat} {w wr w' : World} {rb mb g : Nat} {cs : Array Value} {S S' : St} (h : DecSt R T w wr rb mb g cs S) (ho : Only g wr w') (hr : RdAt w' g T w.heap.size S') : DecSt R T w w' rb mb g cs S' :=
  ⟨h.bel.trans (ho.to_below h.h3 (by have := h.h0; have := h.h1; have := h.h2; omega)), h.res.only ho (by have := h.h1; have := h.h2; omega), h.msg.only ho (by have := h.h2; omega), hr, h.h0, h.h1, h.h2, Nat.lt_of_lt_of_le h.h3 ho.size⟩
theorem RdAt.far {w : World} {g T B : Nat} {st : St} (h : RdAt w g T B st) {p : Addr} (hp : p.block ≠ g) (hB : B ≤ p.block) (v : Value) : RdAt (w.setCell p v) g T B st := by
  obtain ⟨A, c, l, x, h, hs⟩ := h
  exact ⟨A, c, l, x, ⟨h.blk.far (fun e => hp e.symm) v, h.rb.below ((Below.refl _ _).setCell hB v), h.cap, h.max, h.hB⟩, hs⟩
theorem DecSt.set_ {R T : Nat} {w wr : World} {rb mb g : Nat} {cs : Array Value} {S : St} (h : DecSt R T w wr rb mb g cs S) (i : Nat) (v : Value) : DecSt R T w (wr.setCell ⟨mb, i, none⟩ v) rb mb g (cs.setIfInBounds i v) S :=
  ⟨h.bel.setCell (by have := h.h0; have := h.h1; simp; omega) v, h.res.far (p := ⟨mb, i, none⟩) (by have := h.h1; simp; omega) v, h.msg.set_ i v, h.rd.far (p := ⟨mb, i, none⟩) (by have := h.h2; simp; omega) (by have := h.h0; have := h.h1; simp; omega) v, h.h0, h.h1, h.h2, by have := h.h3; simpa using this⟩
theorem DecSt.setE {R T : Nat} {w wr : World} {rb mb g : Nat} {cs : Array Value} {S : St} (h : DecSt R T w wr rb mb g cs S) {A : Option Addr} {c : Nat} {l : List UInt8} {e : Int} (hr : Rdr wr g T w.heap.size A c l e) (e' : Int) :
    DecSt R T w (wr.setCell ⟨g, 1, none⟩ (.int .i64 e')) rb mb g cs (stOf l e') :=
  h.call ((Only.refl wr).set_ 1 _) (hr.setE e').at_
theorem DecSt.keep {R T : Nat} {w wr w' : World} {rb mb g : Nat} {cs : Array Value} {S : St} (h : DecSt R T w wr rb mb g cs S) (hb : Below wr.heap.size wr w') : DecSt R T w w' rb mb g cs S :=
  h.call (Only.of_below hb) (h.rd.keep hb)

theorem RdAt.grown {w w' : World} {g T B : Nat} {st : St} {row : Option Nat} (h : RdAt w g T B st) (hg : w.grownBy w' row) (hr : ∀ r, row = some r → g < r) : RdAt w' g T B st := by
  obtain ⟨A, c, l, x, h, hs⟩ := h
  refine ⟨A, c, l, x, ⟨h.blk.grown hg (fun e => by have := hr _ e.symm; omega), ?_, h.cap, h.max, h.hB⟩, hs⟩
  have hB := h.hB
  have hlt := h.blk.lt
  exact h.rb.below ⟨hg.os, hg.tape, hg.output, hg.size, fun k hk => hg.block k (by omega) (fun e => by have := hr _ e.symm; omega)⟩
theorem DecSt.own {R T : Nat} {w wr w' : World} {rb mb g : Nat} {cs : Array Value} {S : St} (h : DecSt R T w wr rb mb g cs S) {base E s n : Nat} {v : Value} {xs : List Value} (hw : wr.ownsRow base E s v n xs) (hg : wr.grownBy w' v.ownBlock) (hb : g < base) : DecSt R T w w' rb mb g cs S := by
  have h0 := h.h0
  have h1 := h.h1
  have h2 := h.h2
  have h3 := h.h3
  have hr : ∀ r, v.ownBlock = some r → g < r := fun r e => by have := (World.ownsRow.lt hw r e).1; omega
  have hs := h.bel.size
  refine ⟨h.bel.trans ⟨hg.os, hg.tape, hg.output, hg.size, fun k hk => hg.block k (by omega) (fun e => by have := hr _ e.symm; omega)⟩, h.res.grown hg (fun e => by have := hr _ e.symm; omega), h.msg.grown hg (fun e => by have := hr _ e.symm; omega), h.rd.grown hg hr, h0, h1, h2, Nat.lt_of_lt_of_le h3 hg.size⟩
theorem own_far {w : World} {base E sz n : Nat} {v : Value} {xs : List Value} (h : w.ownsRow base E sz v n xs) {p : Addr} (hp : p.block < base) (u : Value) : (w.setCell p u).ownsRow base E sz v n xs := by
  refine World.ownsRow.kept h (row := some p.block) ⟨rfl, rfl, rfl, by simp, fun i hi hne => Below.heap_setCell w p u i (fun e => hne (by rw [e]))⟩ ?_
  by_cases hb : v.ownBlock = some p.block
  · have := (World.ownsRow.lt h _ hb).1; omega
  · exact .inr hb
theorem OwnR.snoc {w : World} {base E : Nat} {v : Value} {L : List Rc} {tv : ByteArray} {mz : Int} (h : w.ownsRow base E 2 v (L.length + 1) (rcCells L ++ [.string tv, .int .u8 mz])) (hz : ((UInt8.ofNat mz.toNat).toNat : Int) = mz) : OwnR w base E v (L ++ [⟨tv, UInt8.ofNat mz.toNat⟩]) := by
  unfold OwnR
  rw [List.length_append, rcCells_app]
  have : rcCells [⟨tv, UInt8.ofNat mz.toNat⟩] = [.string tv, .int .u8 mz] := by
    show [Value.string tv, Value.int .u8 ((UInt8.ofNat mz.toNat).toNat : Int)] = _
    rw [hz]
  rw [this]
  exact h
theorem th_len {l9 l2 : List UInt8} {e9 : Int} {S : St} (h : stOf l9 e9 = S) (h2 : S = .ok l2) (h3 : thE l9 = 0) : 0 ≤ (8 : Int) ∧ (8 : Int) ≤ l2.length := by
  subst h2
  unfold stOf at h
  split at h
  · injection h with h
    subst h
    unfold thE at h3
    split at h3
    · cases h3
    · omega
  · cases h
theorem dec_hex (m : Msg) {l9 : List UInt8} {e9 : Int} {S : St} (h : stOf l9 e9 = S) : decHex m S = decSum m (thV l9) (fixS [10] (wentS 8 (thE l9) S)) := by
  subst h
  unfold stOf
  split
  · rfl
  · rw [wentS_bad, fixS_bad]; rfl
theorem dec_sum_bad (m : Msg) (s : Int) {l : List UInt8} {x e : Int} {S : St} (h : stOf l x = S) (h2 : needS (decide (l = [])) S = .bad e) : decSum m s S = .bad e := by
  subst h
  unfold stOf at *
  split at h2
  · cases l with
    | nil => cases h2
    | cons a r =>
      rw [if_pos (by assumption)]
      injection (show St.bad 30 = .bad e from h2) with h2
      subst h2; rfl
  · rw [if_neg (by assumption)]
    injection (show St.bad x = .bad e from h2) with h2
    subst h2; rfl
theorem dec_sum_ok (m : Msg) (s : Int) {l l2 : List UInt8} {x : Int} {S : St} (h : stOf l x = S) (h2 : needS (decide (l = [])) S = .ok l2) : decSum m s S = if s = (crc (layB m) : Int) then .ok m else .bad 33 := by
  subst h
  unfold stOf at *
  split at h2
  · cases l with
    | nil => rw [if_pos (by assumption)]; rfl
    | cons a r => cases h2
  · cases h2
theorem rec_val {lr : List UInt8} {l8 : List UInt8} {tv : ByteArray} {mz : Int} (h : recS (.ok lr) = .ok l8) (h0 : 0 ≤ mz) (h1 : mz ≤ 255)
    (hm : ∀ l2, byteS (fixS [114] (.ok lr)) = .ok l2 → mz = mrkV (.ok lr)) (ht : ∀ l, textS [] (mrkS (.ok lr)) = .ok l → tv.data.toList = textV [] (mrkS (.ok lr))) :
    recV (.ok lr) = ⟨tv, UInt8.ofNat mz.toNat⟩ ∧ ((UInt8.ofNat mz.toNat).toNat : Int) = mz := by
  obtain ⟨_, h2⟩ := needS_ok h
  obtain ⟨l9, h9⟩ := textS_ok h2
  have h3 := h9
  rw [← mrkS_eq _ mz hm] at h3
  obtain ⟨_, h4⟩ := needS_ok h3
  refine ⟨?_, ?_⟩
  · unfold recV
    rw [← hm _ h4, ← ht _ h2]
  · rw [UInt8.toNat_ofNat']
    omega
theorem DecSt.refuse {R T : Nat} {w wr : World} {rb mb g : Nat} {cs : Array Value} {S : St} (h : DecSt R T w wr rb mb g cs S) :
    Blk ((((wr.setCell ⟨rb, 0, none⟩ (.int .i64 0)).setCell ⟨rb, 1, none⟩ (.string ⟨#[]⟩)).setCell ⟨rb, 2, none⟩ (.slice none 0 0)).setCell ⟨rb, 3, none⟩ (.slice none 0 0)).drew rb R #[.int .i64 0, .string ⟨#[]⟩, .slice none 0 0, .slice none 0 0] ∧
    Below w.heap.size w ((((wr.setCell ⟨rb, 0, none⟩ (.int .i64 0)).setCell ⟨rb, 1, none⟩ (.string ⟨#[]⟩)).setCell ⟨rb, 2, none⟩ (.slice none 0 0)).setCell ⟨rb, 3, none⟩ (.slice none 0 0)).drew := by
  have b := (((h.bel.setCell (p := ⟨rb, 0, none⟩) h.h0 (.int .i64 0)).setCell (p := ⟨rb, 1, none⟩) h.h0 (.string ⟨#[]⟩)).setCell (p := ⟨rb, 2, none⟩) h.h0 (.slice none 0 0)).setCell (p := ⟨rb, 3, none⟩) h.h0 (.slice none 0 0)
  exact ⟨(((h.res.set_ 0 (.int .i64 0)).set_ 1 (.string ⟨#[]⟩)).set_ 2 (.slice none 0 0)).set_ 3 (.slice none 0 0), b.os, b.tape, b.output, b.size, b.block⟩
def DecP (F : Res) (w w' : World) (e : Ending) : Prop :=
  match F with
  | .bad x => e = .returned (.tuple #[.agg #[.int .i64 0, .string ⟨#[]⟩, .slice none 0 0, .slice none 0 0], .int .i64 x])
  | .ok m => ∃ v1 v2, e = .returned (.tuple #[.agg #[.int .i64 m.time, .string m.frm, v1, v2], .int .i64 0]) ∧ OwnR w' w.heap.size 41 v1 m.rcpts ∧ OwnW w' w.heap.size v2 m.data
theorem decP_bad {F : Res} {x : Int} (h : F = .bad x) (w w' : World) : DecP F w w' (.returned (.tuple #[.agg #[.int .i64 0, .string ⟨#[]⟩, .slice none 0 0, .slice none 0 0], .int .i64 x])) := by subst h; rfl
theorem decP_ok {F : Res} {m : Msg} (h : F = .ok m) {w w' : World} {v1 v2 : Value} (h1 : OwnR w' w.heap.size 41 v1 m.rcpts) (h2 : OwnW w' w.heap.size v2 m.data) : DecP F w w' (.returned (.tuple #[.agg #[.int .i64 m.time, .string m.frm, v1, v2], .int .i64 0])) := by
  subst h; exact ⟨v1, v2, rfl, h1, h2⟩
theorem own_base_lt {w : World} {b b' E s n : Nat} {v : Value} {x : List Value} (h : w.ownsRow b E s v n x) (hb : b' ≤ b) : w.ownsRow b' E s v n x := by
  refine ⟨h.1, ?_⟩
  rcases h.2 with h1 | ⟨g, cap, cur, hv, hg, r⟩
  · exact .inl h1
  · exact .inr ⟨g, cap, cur, hv, by omega, r⟩
theorem res_msg {fn : Func} (hfn : fn.results = #[.cell 2 25, .tmp 3]) {tm : Array Value} {W : World} {g : Nat} {a b c d e : Value} (hb : Blk W g 25 #[a, b, c, d]) (h2 : tm[2]?.getD undef = .pointer (some ⟨g, 0, none⟩)) (h3 : tm[3]?.getD undef = e) :
    (results fn tm).run Tryd.prog W = .ok (.tuple #[.agg #[a, b, c, d], e]) W := by
  have k0 : W.cell? ⟨g, 0, none⟩ = some a := hb.cell 0
  have k1 : W.cell? ⟨g, 1, none⟩ = some b := hb.cell 1
  have k2 : W.cell? ⟨g, 2, none⟩ = some c := hb.cell 2
  have k3 : W.cell? ⟨g, 3, none⟩ = some d := hb.cell 3
  simp [results, hfn, h2, h3, k0, k1, k2, k3, go_sem]
set_option maxRecDepth 100000 in
set_option maxHeartbeats 4000000 in
theorem decode_walk (A : Option Addr) (l : List UInt8) (c : Nat) (w : World) (hr : RB w w.heap.size A l) (hc : l.length ≤ c) (hm : c ≤ maxLen) (T : Tabs w) :
    Calls Tryd.prog 17 #[.slice A l.length c] w fun e w' => Below w.heap.size w w' ∧ DecP (decR l) w w' e := by
  obtain ⟨W3, hW3⟩ : ∃ W3, W3 = ((w.alloc (.cells #[.int .i64 0, .string ⟨#[]⟩, .slice none 0 0, .slice none 0 0] 25)).alloc (.cells #[.int .i64 0, .string ⟨#[]⟩, .slice none 0 0, .slice none 0 0] 25)).alloc (.cells #[.slice A l.length c, .int .i64 0] 69) := ⟨_, rfl⟩
  have hD : DecSt 25 69 w W3 w.heap.size (w.heap.size + 1) (w.heap.size + 1 + 1) #[.int .i64 0, .string ⟨#[]⟩, .slice none 0 0, .slice none 0 0] (.ok l) := by
    have b1 := Blk.new w 25 #[.int .i64 0, .string ⟨#[]⟩, .slice none 0 0, .slice none 0 0]
    have a1 : Below w.heap.size w (w.alloc (.cells #[.int .i64 0, .string ⟨#[]⟩, .slice none 0 0, .slice none 0 0] 25)) := (Below.refl _ _).alloc (Nat.le_refl _) _
    have s1 : (w.alloc (.cells #[.int .i64 0, .string ⟨#[]⟩, .slice none 0 0, .slice none 0 0] 25)).heap.size = w.heap.size + 1 := by simp
    generalize w.alloc (.cells #[.int .i64 0, .string ⟨#[]⟩, .slice none 0 0, .slice none 0 0] 25) = u1 at *
    have b2 := Blk.new u1 25 #[.int .i64 0, .string ⟨#[]⟩, .slice none 0 0, .slice none 0 0]
    have a2 : Below w.heap.size w (u1.alloc (.cells #[.int .i64 0, .string ⟨#[]⟩, .slice none 0 0, .slice none 0 0] 25)) := a1.alloc (by omega) _
    have s2 : (u1.alloc (.cells #[.int .i64 0, .string ⟨#[]⟩, .slice none 0 0, .slice none 0 0] 25)).heap.size = w.heap.size + 2 := by simp [s1]
    have b1' := b1.alloc (.cells #[.int .i64 0, .string ⟨#[]⟩, .slice none 0 0, .slice none 0 0] 25)
    generalize u1.alloc (.cells #[.int .i64 0, .string ⟨#[]⟩, .slice none 0 0, .slice none 0 0] 25) = u2 at *
    have b3 := Blk.new u2 69 #[.slice A l.length c, .int .i64 0]
    have a3 : Below w.heap.size w (u2.alloc (.cells #[.slice A l.length c, .int .i64 0] 69)) := a2.alloc (by omega) _
    rw [s1] at b2
    rw [s2] at b3
    subst hW3
    exact ⟨a3, b1'.alloc _, b2.alloc _, ⟨A, c, l, 0, ⟨b3, hr.below a3, hc, hm, by omega⟩, stOf_ok l⟩, Nat.le_refl _, by omega, by omega, by simp; omega⟩
  have HN1 := Lib.hid (number_walk (w.heap.size + 1 + 1) w.heap.size ⟨#[87, 49, 59, 116]⟩ (.ok l) W3 hD.rd (by decide))
  have HD := Lib.hid hD
  have hW3' := hW3.symm
  have HF0 : Hid (decR l = decF (numV [87, 49, 59, 116] (.ok l)) (numS [87, 49, 59, 116] (.ok l))) := Lib.hid rfl
  generalize decR l = F at *
  clear hD hW3
  go_enter Tryd.func17, Tryd.ntmps17
  go_wp2_with fail
  refine wp_scope_inline 0 rfl ?_
  go_wp2_with fail
  refine HN1.out.mono ?_
  rintro e w1 ⟨ho1, hr1, z, hz0, hz1, rfl, hz⟩
  have D1 := HD.out.call ho1 hr1
  have f1 := D1.msg.frozen 0
  have c1 : w1.cell? ⟨w.heap.size + 1, 0, none⟩ = some (.int .i64 0) := D1.msg.cell 0
  have D2 := D1.set_ 0 (.int .i64 z)
  have HN2 := Lib.hid (text_walk (w.heap.size + 1 + 1) w.heap.size ⟨#[102]⟩ _ _ D2.rd (by decide))
  have HD2 := Lib.hid D2
  have HZ := Lib.hid hz
  clear D1 D2 HN1 HD hz ho1 hr1
  go_wp2_with fail
  refine HN2.out.mono ?_
  rintro e w2 ⟨ho2, hr2, t, ht, rfl, htv⟩
  obtain ⟨sv, hsv⟩ : ∃ sv : ByteArray, sv = ⟨t.toArray⟩ := ⟨_, rfl⟩
  obtain rfl : t = sv.data.toList := by rw [hsv]
  rw [← hsv]
  clear hsv
  have D2 := HD2.out.call ho2 hr2
  have f2 := D2.msg.frozen 1
  have c2 : w2.cell? ⟨w.heap.size + 1, 1, none⟩ = some (.string ⟨#[]⟩) := D2.msg.cell 1
  have D3 := D2.set_ 1 (.string sv)
  have HD3 := Lib.hid D3
  have HTV := Lib.hid htv
  have hts : sv.size ≤ maxLen := by rw [size_len]; simp only [maxLen]; omega
  have HAD := Lib.hid (fun w' => addressed_walk sv w' hts)
  have u3 : (w2.setCell ⟨w.heap.size + 1, 1, none⟩ (.string sv)).cell? ⟨w.heap.size + 1, 1, none⟩ = some (.string sv) := D3.msg.cell 1
  clear htv D2 D3 HN2 HD2 ho2 hr2 hts
  go_upto_region 8 with fail
  go_cut [8] from 20 to 29 (fun x wr => x = .pointer (some ⟨w.heap.size + 1 + 1, 0, none⟩) ∧ DecSt 25 69 w wr w.heap.size (w.heap.size + 1) (w.heap.size + 1 + 1) #[.int .i64 z, .string sv, .slice none 0 0, .slice none 0 0] (needS (fromOk sv.data.toList) (textS [102] (numS [87, 49, 59, 116] (.ok l)))))
  case first =>
    by_cases hf : sv = ⟨#[]⟩
    · subst hf
      have HND := Lib.hid (need_walk (w.heap.size + 1 + 1) w.heap.size true _ _ HD3.out.rd)
      go_wp2_with (go_at_call 40; refine HND.out.mono ?_; rintro e w5 ⟨ho5, hr5, rfl⟩)
      go_meet
      exact ⟨rfl, HD3.out.call ho5 hr5⟩
    · have h1 : sv.toList.isEmpty = false := by
        rw [ByteArray.toList_eq]
        cases hl : sv.data.toList with
        | nil => exact absurd (str_eq hl) hf
        | cons _ _ => rfl
      have hfo : Hid (fromOk sv.data.toList = addrOk sv.data.toList) := Lib.hid (by
        unfold fromOk
        cases hl : sv.data.toList with
        | nil => exact absurd (str_eq hl) hf
        | cons _ _ => rfl)
      clear hf
      generalize addrOk sv.data.toList = ao at *
      cases ao
      all_goals
        go_wp2_with (first
          | (go_at_call 27; refine (HAD.out _).mono ?_; rintro e w4 ⟨hb4, rfl⟩; have D4 := Lib.hid (HD3.out.keep hb4))
          | (go_at_call 40; refine (need_walk (w.heap.size + 1 + 1) w.heap.size _ _ _ D4.out.rd).mono ?_; rintro e w5 ⟨ho5, hr5, rfl⟩))
        go_meet
        exact ⟨rfl, by rw [hfo.out]; exact D4.out.call ho5 hr5⟩
  case rest =>
    obtain ⟨rfl, hDc⟩ := hcut
    rw [needS_val fromOk HTV.out] at hDc
    generalize hw4 : wc = w4 at *
    clear hw4
    have HS1 : Hid (∀ l2, needS (fromOk (textV [102] (numS [87, 49, 59, 116] (.ok l)))) (textS [102] (numS [87, 49, 59, 116] (.ok l))) = .ok l2 → z = numV [87, 49, 59, 116] (.ok l) ∧ sv.data.toList = textV [102] (numS [87, 49, 59, 116] (.ok l))) := Lib.hid fun l2 hl2 => by
      obtain ⟨_, h2⟩ := needS_ok hl2
      obtain ⟨l3, h3⟩ := textS_ok h2
      exact ⟨HZ.out _ h3, HTV.out _ h2⟩
    have HF1 : Hid (F = decN (numV [87, 49, 59, 116] (.ok l)) (textV [102] (numS [87, 49, 59, 116] (.ok l))) (needS (fromOk (textV [102] (numS [87, 49, 59, 116] (.ok l)))) (textS [102] (numS [87, 49, 59, 116] (.ok l))))) := Lib.hid HF0.out
    clear HF0
    generalize needS (fromOk (textV [102] (numS [87, 49, 59, 116] (.ok l)))) (textS [102] (numS [87, 49, 59, 116] (.ok l))) = S3 at *
    generalize numV [87, 49, 59, 116] (.ok l) = zv at *
    generalize textV [102] (numS [87, 49, 59, 116] (.ok l)) = tv at *
    clear HTV HZ HAD HD3 u3
    obtain ⟨A5, c5, l5, e5, hrd, hst⟩ := hDc.rd
    have k1 := hrd.c1
    have k0 := hrd.c0
    by_cases he : e5 = 0
    · subst he
      rw [stOf_ok] at hst
      subst hst
      obtain ⟨rfl, htv⟩ := HS1.out l5 rfl
      have HD4 := Lib.hid hDc
      clear HS1 hDc hrd
      have HN3 := Lib.hid (number_walk (w.heap.size + 1 + 1) w.heap.size ⟨#[110]⟩ (.ok l5) w4 HD4.out.rd (by decide))
      go_wp2_with fail
      refine HN3.out.mono ?_
      rintro e w5 ⟨ho5, hr5, y, hy0, hy1, rfl, hy⟩
      have HD5 := Lib.hid (HD4.out.call ho5 hr5)
      have HY := Lib.hid hy
      clear HD4 HN3 ho5 hr5 hy k1 k0
      go_upto_region 11 with fail
      go_cut [8] from 37 to 44 (fun x wr => x = .pointer (some ⟨w.heap.size + 1 + 1, 0, none⟩) ∧ DecSt 25 69 w wr w.heap.size (w.heap.size + 1) (w.heap.size + 1 + 1) #[.int .i64 z, .string sv, .slice none 0 0, .slice none 0 0] (needS (manyOk y) (numS [110] (.ok l5))))
      case first =>
        have HND := Lib.hid (fun b => need_walk (w.heap.size + 1 + 1) w.heap.size b _ _ HD5.out.rd)
        by_cases hm1 : 0 < y
        · by_cases hm2 : y ≤ 200
          · have hmo : Hid (manyOk y = true) := Lib.hid (decide_eq_true ⟨hm1, hm2⟩)
            go_wp2_with (go_at_call 40; refine (HND.out _).mono ?_; rintro e w6 ⟨ho6, hr6, rfl⟩)
            go_meet
            exact ⟨rfl, by rw [hmo.out]; exact HD5.out.call ho6 hr6⟩
          · have hmo : Hid (manyOk y = false) := Lib.hid (decide_eq_false (fun h => hm2 h.2))
            have hm3 : 200 < y := by omega
            go_wp2_with (go_at_call 40; refine (HND.out _).mono ?_; rintro e w6 ⟨ho6, hr6, rfl⟩)
            go_meet
            exact ⟨rfl, by rw [hmo.out]; exact HD5.out.call ho6 hr6⟩
        · have hmo : Hid (manyOk y = false) := Lib.hid (decide_eq_false (fun h => hm1 h.1))
          have hm3 : y = 0 := by omega
          subst hm3
          go_wp2_with (go_at_call 40; refine (HND.out _).mono ?_; rintro e w6 ⟨ho6, hr6, rfl⟩)
          go_meet
          exact ⟨rfl, by rw [hmo.out]; exact HD5.out.call ho6 hr6⟩
      case rest =>
        obtain ⟨rfl, hDc⟩ := hcut
        rw [needS_val manyOk HY.out] at hDc
        generalize hw7 : wc = w7 at *
        clear hw7
        have HS2 : Hid (∀ l2, needS (manyOk (numV [110] (.ok l5))) (numS [110] (.ok l5)) = .ok l2 → y = numV [110] (.ok l5) ∧ manyOk y = true) := Lib.hid fun l2 hl2 => by
          obtain ⟨h1, h2⟩ := needS_ok hl2
          have := HY.out _ h2
          exact ⟨this, by rw [this]; exact h1⟩
        unfold decN at HF1
        generalize needS (manyOk (numV [110] (.ok l5))) (numS [110] (.ok l5)) = S4 at *
        generalize numV [110] (.ok l5) = yv at *
        clear HY HD5
        obtain ⟨A6, c6, l6, e6, hrd, hst⟩ := hDc.rd
        have k1 := hrd.c1
        have k0 := hrd.c0
        by_cases he : e6 = 0
        · subst he
          rw [stOf_ok] at hst
          subst hst
          obtain ⟨rfl, hyo⟩ := HS2.out l6 rfl
          have hyo' := of_decide_eq_true hyo
          obtain ⟨n, rfl⟩ := Int.eq_ofNat_of_zero_le hy0
          rw [Int.toNat_natCast] at HF1
          have HD7 := Lib.hid hDc
          have hn1 : 0 < n := by omega
          have hn2 : n ≤ 200 := by omega
          clear HS2 hDc hrd hyo hyo' hy0 hy1
          have hbs : w.heap.size + 1 + 1 + 1 ≤ w7.heap.size := HD7.out.h3
          subst htv
          have hn3 : (n : Int) ≤ 200 := by omega
          go_wp2_with fail
          go_loopg [51] n (fun k i wr => ∃ (j : Nat) (L : List Rc) (v : Value) (lr : List UInt8), j + k = n ∧ i = .int .i64 j ∧ Hid (L.length = j) ∧ Hid (DecSt 25 69 w wr w.heap.size (w.heap.size + 1) (w.heap.size + 1 + 1) #[.int .i64 z, .string sv, v, .slice none 0 0] (.ok lr)) ∧ Hid (OwnR wr (w.heap.size + 1 + 1 + 1) 41 v L) ∧ Hid (∀ r ∈ L, r.to.size ≤ 1048576) ∧ Hid (F = decRec z sv.data.toList k L (.ok lr)))
          case atStart => exact ⟨0, [], .slice none 0 0, l6, by omega, rfl, Lib.hid rfl, HD7, Lib.hid (OwnR.nil _ _ _), Lib.hid (by simp), HF1⟩
          case round =>
            obtain ⟨j, L, v, lr, hj, rfl, hL, HD, HO, HSZ, HF⟩ := hrel
            by_cases hlt : j < n
            · obtain ⟨k, rfl⟩ : ∃ k, gk = k + 1 := ⟨gk - 1, by omega⟩
              have hj1 : (j : Int) < (n : Int) := by omega
              have HFr : Hid (F = decRec z sv.data.toList k (L ++ [recV (.ok lr)]) (recS (.ok lr))) := HF
              have HC1 := Lib.hid (fixed_walk (w.heap.size + 1 + 1) w.heap.size ⟨#[114]⟩ _ wr HD.out.rd (by decide))
              go_wp2_with fail
              refine HC1.out.mono ?_
              rintro e x1 ⟨ho1, hr1, rfl⟩
              have HD1 := Lib.hid (HD.out.call ho1 hr1)
              have HO1 := Lib.hid (HO.out.only ho1 (Nat.lt_succ_self _))
              have HC2 := Lib.hid (byte_walk (w.heap.size + 1 + 1) w.heap.size _ x1 hr1)
              clear ho1 hr1 HC1
              go_wp2_with fail
              refine HC2.out.mono ?_
              rintro e x2 ⟨ho2, hr2, mz, hmz0, hmz1, rfl, hmz⟩
              have HD2 := Lib.hid (HD1.out.call ho2 hr2)
              have HO2 := Lib.hid (HO1.out.only ho2 (Nat.lt_succ_self _))
              have HMZ : Hid (∀ l2, byteS (fixS [114] (.ok lr)) = .ok l2 → mz = mrkV (.ok lr)) := Lib.hid fun l2 h2 => by
                unfold mrkV
                cases h3 : fixS [114] (.ok lr) with
                | bad e => rw [h3] at h2; cases h2
                | ok l3 =>
                  cases l3 with
                  | nil => rw [h3] at h2; cases h2
                  | cons ch l3 => exact hmz ch l3 h3
              have HC3 := Lib.hid (marked_walk mz x2 hmz0 hmz1)
              have HC4 := Lib.hid (need_walk (w.heap.size + 1 + 1) w.heap.size (markOk mz) _ x2 hr2)
              clear ho2 hr2 HC2 hmz
              go_wp2_with fail
              refine HC3.out.mono ?_
              rintro e x3 ⟨rfl, rfl⟩
              go_wp2_with fail
              refine HC4.out.mono ?_
              rintro e x4 ⟨ho4, hr4, rfl⟩
              have hr4' : RdAt x4 (w.heap.size + 1 + 1) 69 w.heap.size (mrkS (.ok lr)) := by rw [← mrkS_eq _ mz HMZ.out]; exact hr4
              have HD4 := Lib.hid (HD2.out.call ho4 hr4')
              have HO4 := Lib.hid (HO2.out.only ho4 (Nat.lt_succ_self _))
              have HC5 := Lib.hid (text_walk (w.heap.size + 1 + 1) w.heap.size ⟨#[]⟩ _ x4 hr4' (by decide))
              clear ho4 hr4 hr4' HC3 HC4 HD1 HO1 HD2 HO2
              go_wp2_with fail
              refine HC5.out.mono ?_
              rintro e x5 ⟨ho5, hr5, tt, htt, rfl, httv⟩
              obtain ⟨tv2, htv2⟩ : ∃ tv2 : ByteArray, tv2 = ⟨tt.toArray⟩ := ⟨_, rfl⟩
              obtain rfl : tt = tv2.data.toList := by rw [htv2]
              rw [← htv2]
              clear htv2
              have HD5 := Lib.hid (HD4.out.call ho5 hr5)
              have HO5 := Lib.hid (HO4.out.only ho5 (Nat.lt_succ_self _))
              have HTT := Lib.hid httv
              have HC6 := Lib.hid (addressed_walk tv2 x5 (by rw [size_len]; simp only [maxLen]; omega))
              clear ho5 hr5 HC5 HD4 HO4 httv
              go_wp2_with fail
              refine HC6.out.mono ?_
              rintro e x6 ⟨hb6, rfl⟩
              have HD6 := Lib.hid (HD5.out.keep hb6)
              have HO6 := Lib.hid (HO5.out.below hb6)
              have HC7 := Lib.hid (need_walk (w.heap.size + 1 + 1) w.heap.size (addrOk tv2.data.toList) _ x6 HD6.out.rd)
              clear hb6 HC6 HD5 HO5
              go_wp2_with fail
              refine HC7.out.mono ?_
              rintro e x7 ⟨ho7, hr7, rfl⟩
              have hr7' : RdAt x7 (w.heap.size + 1 + 1) 69 w.heap.size (recS (.ok lr)) := by
                rw [needS_val addrOk HTT.out] at hr7
                exact hr7
              have hDc := HD6.out.call ho7 hr7'
              have HO7 := Lib.hid (HO6.out.only ho7 (Nat.lt_succ_self _))
              clear ho7 hr7 hr7' HC7 HD6 HO6 HF HD HO
              obtain ⟨A8, c8, l8, e8, hrd, hst⟩ := hDc.rd
              have k1 := hrd.c1
              have k0 := hrd.c0
              by_cases he : e8 = 0
              · subst he
                rw [stOf_ok] at hst
                obtain ⟨hrv, hmzv⟩ := rec_val hst.symm hmz0 hmz1 HMZ.out HTT.out
                rw [hrv, ← hst] at HFr
                rw [← hst] at hDc
                obtain ⟨ii, hi1, hi2, hi3, hi4⟩ := info_parts (show (Tryd.prog.info? 41).map (fun i => (i.zero, i.size, i.bytes)) = some (some (.agg #[.string ⟨#[]⟩, .int .u8 0]), 2, 24) by kernel_rfl)
                have HI := Lib.hid hi1
                have HI2 := Lib.hid hi2
                have HI3 := Lib.hid hi3
                have HI4 := Lib.hid hi4
                have HDa := Lib.hid (hDc.keep ((Below.refl _ _).alloc (Nat.le_refl _) (.cells #[.string tv2, .int .u8 mz] 41)))
                have HOa := Lib.hid (HO7.out.alloc (.cells #[.string tv2, .int .u8 mz] 41))
                have mc : x7.cell? ⟨w.heap.size + 1, 2, none⟩ = some v := hDc.msg.cell 2
                have hx7 := hDc.h3
                have hL1 : L.length + 1 ≤ 1000 := by have := hL.out; omega
                have HBN := Blk.new x7 41 #[.string tv2, .int .u8 mz]
                have HBNh := Lib.hid HBN
                clear hi1 hi2 hi3 hi4 hst hrv hDc hrd HO7 HBN
                go_wp2_with (at_builtin; go_loud (refine wpList_append_lies _ rfl (.tmp 73) (.tmp 77) 22 rfl (w.heap.size + 1 + 1 + 1) 41 ii (.agg #[.string ⟨#[]⟩, .int .u8 0]) 2 24 Tryd.underlying22 HI.out HI2.out HI3.out HI4.out rfl (by decide) v L.length _ rfl HOa.out ⟨x7.heap.size, 0, none⟩ 1 1 [.string tv2, .int .u8 mz] rfl rfl (World.news_of_block HBNh.out) (by simp [Value.oneCell']) (by decide) (by simp only [maxLen]; omega) (by omega) (by simp; omega) _ rfl ?_; intro g9 cp9 x9 hr9 hg9 hc9 hlt9; have D9 := HDa.out.own HOa.out hg9 (Nat.lt_succ_self _); have f9 := D9.msg.frozen 2; have m9 : x9.cell? ⟨w.heap.size + 1, 2, none⟩ = some v := D9.msg.cell 2; have HD9 := Lib.hid D9; have HR9 := Lib.hid hr9; clear D9 hr9 hg9 hc9))
                go_roundg k
                case rel =>
                  refine ⟨j + 1, L ++ [⟨tv2, UInt8.ofNat mz.toNat⟩], _, l8, by omega, by go_num, Lib.hid (by simp [hL.out]), Lib.hid (HD9.out.set_ 2 _), Lib.hid ?_, Lib.hid ?_, HFr⟩
                  · exact OwnR.snoc (own_far HR9.out (p := ⟨w.heap.size + 1, 2, none⟩) (by simp) _) hmzv
                  · intro r hr
                    rcases List.mem_append.1 hr with h | h
                    · exact HSZ.out r h
                    · rw [List.mem_singleton] at h
                      subst h
                      rw [size_len]; exact htt
                case measure => omega
              · have he1 : (e8 == 0) = false := beq_eq_false_iff_ne.2 he
                have he2 : (e8 != 0) = true := bne_iff_ne.2 he
                rw [← hst, stOf_bad _ he, decRec_bad] at HFr
                have HD4 := Lib.hid hDc
                have hfr0 := hDc.res.frozen 0
                have hfr1 := hDc.res.frozen 1
                have hfr2 := hDc.res.frozen 2
                have hfr3 := hDc.res.frozen 3
                have hrr0 := hDc.res.cell 0
                have hrr1 := hDc.res.cell 1
                have hrr2 := hDc.res.cell 2
                have hrr3 := hDc.res.cell 3
                clear hDc hrd he
                go_wp2_with fail
                go_step3
                refine ⟨rfl, ?_⟩
                go_wp2_with fail
                go_region
                all_goals
                  go_wp2_with fail
                  refine jump_ret ?_
                  refine bodyPost_ret (res_msg rfl HD4.out.refuse.1 rfl rfl) rfl ⟨HD4.out.refuse.2, decP_bad HFr.out _ _⟩
            · have hk0 : gk = 0 := by omega
              subst hk0
              have hL2 : Hid (L.length = n) := Lib.hid (by have := hL.out; omega)
              have hj1 : (n : Int) ≤ (j : Int) := by omega
              have HFd : Hid (F = decData z sv.data.toList L (.ok lr)) := HF
              have HC1 := Lib.hid (text_walk (w.heap.size + 1 + 1) w.heap.size ⟨#[100]⟩ _ wr HD.out.rd (by decide))
              go_wp2_with fail
              refine HC1.out.mono ?_
              rintro e x1 ⟨ho1, hr1, td, htd, rfl, htdv⟩
              have HD1 := Lib.hid (HD.out.call ho1 hr1)
              have HO1 := Lib.hid (HO.out.only ho1 (Nat.lt_succ_self _))
              have hds : (⟨td.toArray⟩ : ByteArray).size ≤ maxLen := by rw [size_len]; simp only [maxLen]; omega
              have hcv := conv_sb x1 ⟨td.toArray⟩
              have hbw := below_bytesWorld x1 5 ⟨td.toArray⟩
              have hW := OwnW.conv x1 5 ⟨td.toArray⟩ (w.heap.size + 1 + 1 + 1) hds HD1.out.h3
              have hD2 := HD1.out.keep hbw
              have hO2 := HO1.out.below hbw
              rw [show (⟨td.toArray⟩ : ByteArray).size = td.length from size_len _] at hcv hW
              generalize Lib.bytesWorld x1 5 ⟨td.toArray⟩ = x2 at *
              generalize grownCap x1 td.length 0 5 = q at *
              have fd := hD2.msg.frozen 3
              have md : x2.cell? ⟨w.heap.size + 1, 3, none⟩ = some (.slice none 0 0) := hD2.msg.cell 3
              have HD3 := Lib.hid (hD2.set_ 3 (.slice (some ⟨x1.heap.size, 0, none⟩) td.length q))
              have HO3 := Lib.hid (own_far hO2 (p := ⟨w.heap.size + 1, 3, none⟩) (by simp) (.slice (some ⟨x1.heap.size, 0, none⟩) td.length q))
              have HW3 := Lib.hid (hW.far (p := ⟨w.heap.size + 1, 3, none⟩) (by simp) (.slice (some ⟨x1.heap.size, 0, none⟩) td.length q))
              have HTD := Lib.hid htdv
              have HC2 := Lib.hid (fixed_walk (w.heap.size + 1 + 1) w.heap.size ⟨#[101]⟩ _ _ HD3.out.rd (by decide))
              clear ho1 hr1 hds hbw hW hD2 hO2 HC1 HD1 HO1 HD HO HF htdv
              go_wp2_with fail
              refine HC2.out.mono ?_
              rintro e x3 ⟨ho3, hr3, rfl⟩
              have HD4 := Lib.hid (HD3.out.call ho3 hr3)
              have HO4 := Lib.hid (OwnR.only HO3.out ho3 (Nat.lt_succ_self _))
              have HW4 := Lib.hid (HW3.out.only ho3 (Nat.lt_succ_self _))
              clear ho3 hr3 HD3 HO3 HW3 HC2 hcv
              unfold decData at HFd
              change Hid (F = decHex _ (fixS [101] (textS [100] (.ok lr)))) at HFd
              have HMV : Hid (∀ l2, fixS [101] (textS [100] (.ok lr)) = .ok l2 → td = textV [100] (.ok lr)) := Lib.hid fun l2 h2 => by
                obtain ⟨l3, h3⟩ := fixS_ok h2
                exact HTD.out _ h3
              have HD4' : Hid (DecSt 25 69 w x3 w.heap.size (w.heap.size + 1) (w.heap.size + 1 + 1) #[.int .i64 z, .string sv, v, .slice (some ⟨x1.heap.size, 0, none⟩) td.length q] (fixS [101] (textS [100] (.ok lr)))) := HD4
              generalize fixS [101] (textS [100] (.ok lr)) = S5 at *
              obtain ⟨A9, c9, l9, e9, hrd9, hst9⟩ := HD4'.out.rd
              have k0 := hrd9.c0
              have HC3 := Lib.hid (takeHex_any A9 l9 c9 x3 _ hrd9.rb hrd9.cap hrd9.max)
              have HST9 := Lib.hid hst9
              clear hrd9 hst9 HD4 HTD
              go_wp2_with fail
              refine HC3.out.mono ?_
              rintro e x4 ⟨hb4, rfl⟩
              have HD5 := Lib.hid (HD4'.out.keep hb4)
              have HO5 := Lib.hid (HO4.out.below hb4)
              have HW5 := Lib.hid (HW4.out.below hb4)
              have HC4 := Lib.hid (went_walk (w.heap.size + 1 + 1) w.heap.size 8 (thE l9) S5 x4 HD5.out.rd (fun l2 h2 h3 => th_len HST9.out h2 h3) (fun h2 h3 => by rw [h2] at h3; cases h3))
              clear hb4 HC3 HD4' HO4 HW4 k0
              go_wp2_with fail
              refine HC4.out.mono ?_
              rintro e x5 ⟨ho5, hr5, rfl⟩
              have HD6 := Lib.hid (HD5.out.call ho5 hr5)
              have HO6 := Lib.hid (HO5.out.only ho5 (Nat.lt_succ_self _))
              have HW6 := Lib.hid (HW5.out.only ho5 (Nat.lt_succ_self _))
              have HC5 := Lib.hid (fixed_walk (w.heap.size + 1 + 1) w.heap.size ⟨#[10]⟩ _ x5 hr5 (by decide))
              clear ho5 hr5 HC4 HD5 HO5 HW5
              go_wp2_with fail
              refine HC5.out.mono ?_
              rintro e x6 ⟨ho6, hr6, rfl⟩
              have HD7 : Hid (DecSt 25 69 w x6 w.heap.size (w.heap.size + 1) (w.heap.size + 1 + 1) #[.int .i64 z, .string sv, v, .slice (some ⟨x1.heap.size, 0, none⟩) td.length q] (fixS [10] (wentS 8 (thE l9) S5))) := Lib.hid (HD6.out.call ho6 hr6)
              have HO7 := Lib.hid (HO6.out.only ho6 (Nat.lt_succ_self _))
              have HW7 := Lib.hid (HW6.out.only ho6 (Nat.lt_succ_self _))
              rw [dec_hex _ HST9.out] at HFd
              have HS75 : Hid (∀ l2, fixS [10] (wentS 8 (thE l9) S5) = .ok l2 → ∃ l3, S5 = .ok l3) := Lib.hid fun l2 h2 => by
                obtain ⟨l3, h3⟩ := fixS_ok h2
                cases S5 with
                | bad e => cases h3
                | ok l4 => exact ⟨l4, rfl⟩
              generalize fixS [10] (wentS 8 (thE l9) S5) = S7 at *
              obtain ⟨A10, c10, l10, e10, hrd10, hst10⟩ := HD7.out.rd
              have k0 := hrd10.c0
              have HST10 := Lib.hid hst10
              clear ho6 hr6 HC5 HD6 HO6 HW6 hrd10 hst10
              obtain ⟨bq, hbq⟩ : ∃ bq, ((l10.length : Int) == 0) = bq := ⟨_, rfl⟩
              have HBQ : Hid (bq = decide (l10 = [])) := Lib.hid (by
                rw [← hbq, Bool.eq_iff_iff, beq_iff_eq, decide_eq_true_eq]
                exact ⟨fun h => List.eq_nil_of_length_eq_zero (by omega), fun h => by rw [h]; rfl⟩)
              have HC6 := Lib.hid (need_walk (w.heap.size + 1 + 1) w.heap.size bq S7 x6 HD7.out.rd)
              go_wp2_with fail
              refine HC6.out.mono ?_
              rintro e x7 ⟨ho7, hr7, rfl⟩
              have hDc := HD7.out.call ho7 hr7
              have HO8 := Lib.hid (HO7.out.only ho7 (Nat.lt_succ_self _))
              have HW8 := Lib.hid (HW7.out.only ho7 (Nat.lt_succ_self _))
              clear ho7 hr7 HC6 HO7 HW7 HD7
              rw [HBQ.out] at hDc
              obtain ⟨A8, c8, l8, e8, hrd, hst⟩ := hDc.rd
              have k1 := hrd.c1
              by_cases he : e8 = 0
              · subst he
                rw [stOf_ok] at hst
                rw [dec_sum_ok _ _ HST10.out hst.symm] at HFd
                obtain ⟨_, h7⟩ := needS_ok hst.symm
                obtain ⟨l3, h5⟩ := HS75.out _ h7
                have HM : Hid ((⟨z, ⟨sv.data.toList.toArray⟩, L, textV [100] (.ok lr)⟩ : Msg) = ⟨z, sv, L, td⟩) := Lib.hid (by rw [← HMV.out _ h5, ← str_eq rfl])
                rw [HM.out] at HFd
                obtain ⟨A1, c1, rfl, hvc, hvm, hvr⟩ := HO8.out.out
                obtain ⟨A2, c2, ev, hwc, hwm, hwr⟩ := HW8.out.out
                injection ev with ev1 ev2 ev3
                subst ev1
                subst ev3
                have hMA : MsgAt x7 x7.heap.size ⟨z, sv, L, td⟩ A1 c1 (some ⟨x1.heap.size, 0, none⟩) q := ⟨hvr, hwr, hvc, by dsimp only; rw [hL2.out]; omega, hvm, hwc, by dsimp only; omega, hwm, by dsimp only; omega, by dsimp only; omega, by dsimp only; rw [size_len]; simp only [maxLen]; omega, fun r hr => by have := HSZ.out r hr; simp only [maxLen]; omega⟩
                have HLBL : Hid ((layB ⟨z, sv, L, td⟩).length ≤ 300000000) := Lib.hid (by
                  have h1 := recB_len (L := L)
                  have h2 := hdB_len ⟨z, sv, L, td⟩
                  have h3 := textB_len td
                  have h4 := hL2.out
                  have h5 : layB ⟨z, sv, L, td⟩ = hdB ⟨z, sv, L, td⟩ ++ recB L ++ ([100] ++ textB td) := rfl
                  rw [h5]
                  simp only [List.length_append, List.length_cons, List.length_nil]
                  omega)
                have HLY := Lib.hid (lay_walk ⟨z, sv, L, td⟩ A1 c1 (some ⟨x1.heap.size, 0, none⟩) q x7 hMA (by dsimp only; rw [hL2.out]; exact hn2) (T.keep hDc.bel).pow10)
                unfold mCells LayAns at HLY
                dsimp only at HLY
                have m0 : x7.cell? ⟨w.heap.size + 1, 0, none⟩ = some (.int .i64 z) := hDc.msg.cell 0
                have m1 : x7.cell? ⟨w.heap.size + 1, 1, none⟩ = some (.string sv) := hDc.msg.cell 1
                have m2 : x7.cell? ⟨w.heap.size + 1, 2, none⟩ = some (.slice A1 L.length c1) := hDc.msg.cell 2
                have m3 : x7.cell? ⟨w.heap.size + 1, 3, none⟩ = some (.slice (some ⟨x1.heap.size, 0, none⟩) td.length q) := hDc.msg.cell 3
                have HDc := Lib.hid hDc
                clear hDc hrd hst h7 h5 hvr hwr hMA
                go_upto_region 30 with fail
                go_wp2_with fail
                refine HLY.out.mono ?_
                rintro e x8 ⟨hb8, g8, rfl, hg8, vv, vv2, hB8, hO8, hI8⟩
                obtain ⟨A12, c12, rfl, -, -, hr12⟩ := hO8.out
                have y0 : x8.cell? ⟨g8, 0, none⟩ = some (.slice A12 (layB ⟨z, sv, L, td⟩).length c12) := hB8.cell 0
                have HSM := Lib.hid (sum_any A12 (layB ⟨z, sv, L, td⟩) c12 x8 _ hr12 (by have := HLBL.out; simp only [maxLen]; omega))
                have HD9 := Lib.hid (HDc.out.keep hb8)
                have HO9 := Lib.hid (HO8.out.below hb8)
                have HW9 := Lib.hid (HW8.out.below hb8)
                clear hb8 hB8 hO8 hI8 hr12 HLY HDc HO8 HW8
                generalize layB ⟨z, sv, L, td⟩ = lb at *
                go_wp2_with fail
                refine HSM.out.mono ?_
                rintro e x9 ⟨rfl, rfl⟩
                have m0 : x8.cell? ⟨w.heap.size + 1, 0, none⟩ = some (.int .i64 z) := HD9.out.msg.cell 0
                have m1 : x8.cell? ⟨w.heap.size + 1, 1, none⟩ = some (.string sv) := HD9.out.msg.cell 1
                have m2 : x8.cell? ⟨w.heap.size + 1, 2, none⟩ = some (.slice A1 L.length c1) := HD9.out.msg.cell 2
                have m3 : x8.cell? ⟨w.heap.size + 1, 3, none⟩ = some (.slice (some ⟨x1.heap.size, 0, none⟩) td.length q) := HD9.out.msg.cell 3
                have hfr0 := HD9.out.res.frozen 0
                have hfr1 := HD9.out.res.frozen 1
                have hfr2 := HD9.out.res.frozen 2
                have hfr3 := HD9.out.res.frozen 3
                have hrr0 := HD9.out.res.cell 0
                have hrr1 := HD9.out.res.cell 1
                have hrr2 := HD9.out.res.cell 2
                have hrr3 := HD9.out.res.cell 3
                by_cases hs : thV l9 = (crc lb : Int)
                · rw [if_pos hs] at HFd
                  have hs1 : (thV l9 == (crc lb : Int)) = true := beq_iff_eq.2 hs
                  clear hs
                  go_wp2_with fail
                  refine jump_ret ?_
                  have B0 := (((HD9.out.res.set_ 0 (.int .i64 z)).set_ 1 (.string sv)).set_ 2 (.slice A1 L.length c1)).set_ 3 (.slice (some ⟨x1.heap.size, 0, none⟩) td.length q)
                  refine bodyPost_ret (res_msg rfl B0 rfl rfl) rfl ⟨(((HD9.out.bel.setCell (Nat.le_refl _) _).setCell (Nat.le_refl _) _).setCell (Nat.le_refl _) _).setCell (Nat.le_refl _) _, decP_ok HFd.out ?_ ?_⟩
                  · exact own_base_lt ((own_far (own_far (own_far (own_far HO9.out (p := ⟨w.heap.size, 0, none⟩) (by simp; omega) _) (p := ⟨w.heap.size, 1, none⟩) (by simp; omega) _) (p := ⟨w.heap.size, 2, none⟩) (by simp; omega) _) (p := ⟨w.heap.size, 3, none⟩) (by simp; omega) _)) (by omega)
                  · exact ((((HW9.out.far (p := ⟨w.heap.size, 0, none⟩) (by simp; omega) _).far (p := ⟨w.heap.size, 1, none⟩) (by simp; omega) _).far (p := ⟨w.heap.size, 2, none⟩) (by simp; omega) _).far (p := ⟨w.heap.size, 3, none⟩) (by simp; omega) _).mono (by omega)
                · rw [if_neg hs] at HFd
                  have hs1 : (thV l9 == (crc lb : Int)) = false := beq_eq_false_iff_ne.2 hs
                  clear hs
                  obtain ⟨A13, c13, l13, e13, hrd13, -⟩ := HD9.out.rd
                  have fg := hrd13.blk.frozen 1
                  have kg := hrd13.c1
                  have HDF := Lib.hid (HD9.out.setE hrd13 33)
                  clear hrd13
                  have hfr0 := HDF.out.res.frozen 0
                  have hfr1 := HDF.out.res.frozen 1
                  have hfr2 := HDF.out.res.frozen 2
                  have hfr3 := HDF.out.res.frozen 3
                  have hrr0 := HDF.out.res.cell 0
                  have hrr1 := HDF.out.res.cell 1
                  have hrr2 := HDF.out.res.cell 2
                  have hrr3 := HDF.out.res.cell 3
                  obtain ⟨A14, c14, l14, e14, hrd14, -⟩ := HDF.out.rd
                  have k14 : (x8.setCell ⟨w.heap.size + 1 + 1, 1, none⟩ (.int .i64 33)).cell? ⟨w.heap.size + 1 + 1, 1, none⟩ = some (.int .i64 33) := (HD9.out.rd.elim fun _ h => h.elim fun _ h => h.elim fun _ h => h.elim fun _ h => (h.1.setE 33).c1)
                  clear hrd14
                  go_wp2_with fail
                  go_step3
                  go_wp2_with fail
                  go_region
                  all_goals
                    go_wp2_with fail
                    refine jump_ret ?_
                    refine bodyPost_ret (res_msg rfl HDF.out.refuse.1 rfl rfl) rfl ⟨HDF.out.refuse.2, decP_bad HFd.out _ _⟩
              · have he1 : (e8 == 0) = false := beq_eq_false_iff_ne.2 he
                have he2 : (e8 != 0) = true := bne_iff_ne.2 he
                rw [stOf_bad _ he] at hst
                rw [dec_sum_bad _ _ HST10.out hst.symm] at HFd
                have HD4 := Lib.hid hDc
                have hfr0 := hDc.res.frozen 0
                have hfr1 := hDc.res.frozen 1
                have hfr2 := hDc.res.frozen 2
                have hfr3 := hDc.res.frozen 3
                have hrr0 := hDc.res.cell 0
                have hrr1 := hDc.res.cell 1
                have hrr2 := hDc.res.cell 2
                have hrr3 := hDc.res.cell 3
                clear hDc hrd he hst
                go_wp2_with fail
                go_step3
                refine ⟨rfl, ?_⟩
                go_wp2_with fail
                go_region
                all_goals
                  go_wp2_with fail
                  refine jump_ret ?_
                  refine bodyPost_ret (res_msg rfl HD4.out.refuse.1 rfl rfl) rfl ⟨HD4.out.refuse.2, decP_bad HFd.out _ _⟩
        · have he1 : (e6 == 0) = false := beq_eq_false_iff_ne.2 he
          have he2 : (e6 != 0) = true := bne_iff_ne.2 he
          rw [stOf_bad _ he] at hst
          subst hst
          rw [decRec_bad] at HF1
          have HD4 := Lib.hid hDc
          have hfr0 := hDc.res.frozen 0
          have hfr1 := hDc.res.frozen 1
          have hfr2 := hDc.res.frozen 2
          have hfr3 := hDc.res.frozen 3
          have hrr0 := hDc.res.cell 0
          have hrr1 := hDc.res.cell 1
          have hrr2 := hDc.res.cell 2
          have hrr3 := hDc.res.cell 3
          clear hDc hrd he HS2
          go_wp2_with fail
          go_step3
          refine ⟨rfl, ?_⟩
          go_wp2_with fail
          go_region
          all_goals
            go_wp2_with fail
            refine jump_ret ?_
            refine bodyPost_ret (res_msg rfl HD4.out.refuse.1 rfl rfl) rfl ⟨HD4.out.refuse.2, decP_bad HF1.out _ _⟩
    · have he1 : (e5 == 0) = false := beq_eq_false_iff_ne.2 he
      have he2 : (e5 != 0) = true := bne_iff_ne.2 he
      rw [stOf_bad _ he] at hst
      subst hst
      rw [decN_bad] at HF1
      have HD4 := Lib.hid hDc
      have hfr0 := hDc.res.frozen 0
      have hfr1 := hDc.res.frozen 1
      have hfr2 := hDc.res.frozen 2
      have hfr3 := hDc.res.frozen 3
      have hrr0 := hDc.res.cell 0
      have hrr1 := hDc.res.cell 1
      have hrr2 := hDc.res.cell 2
      have hrr3 := hDc.res.cell 3
      clear hDc hrd he HS1
      go_wp2_with fail
      go_step3
      refine ⟨rfl, ?_⟩
      go_wp2_with fail
      go_region
      all_goals
        go_wp2_with fail
        refine jump_ret ?_
        refine bodyPost_ret (res_msg rfl HD4.out.refuse.1 rfl rfl) rfl ⟨HD4.out.refuse.2, decP_bad HF1.out _ _⟩
end Go.Proofs.YtfnhaddgdfkmcaaDoor
