/-
  Several texts in one: PStuff, AppN, ScNw0. Conditions: each part names its own.
-/
import Derived.Test.YtjnjnccfojfghaaGreatDoorMg24
import Derived.Test.YtjnjnccfojfghaaGreatDoorMg10
import Derived.Test.YtjnjnccfojfghaaGreatDoorMg1
import Derived.Test.YtjnjnccfojfghaaGreatDoorMg17
import Derived.Test.YtjnjnccfojfghaaGreatDoorMg20
import Derived.Test.YtjnjnccfojfghaaGreatDoorMg21
import Derived.Test.YtjnjnccfojfghaaGreatDoorMg22
set_option linter.unusedSimpArgs false
/-! The walk of the program's Stuff. Conditions: the library's tables, the size. -/
namespace Go.Proofs.YtjnjnccfojfghaaGreatDoor
open Go.RowKit
set_option linter.unusedVariables false
theorem repall_walk (w : World) (hT : TabsL w.heap.size w) {b2 o2 b3 o3 : Nat} {A : Option Addr} {l : List UInt8} (h : RB w w.heap.size A l) (h2 : RB w w.heap.size (some ⟨b2, o2, none⟩) dots) (h3 : RB w w.heap.size (some ⟨b3, o3, none⟩) ddots) (n c c2 c3 : Nat) (hn : n = l.length) (hc : n ≤ c) (hA : A = none → c = 0) (hm : c ≤ 9223372036854775807) (hl : n < 4294967281) (hc2 : 3 ≤ c2) :
    Calls Tryz.prog 51 #[.slice A n c, .slice (some ⟨b2, o2, none⟩) 3 c2, .slice (some ⟨b3, o3, none⟩) 4 c3] w (RepPost w l) := by
  have K := Lib.hid (repB_walk w hT h h2 h3 n c c2 c3 hn hc hA hm hl hc2)
  clear hT h h2 h3 hn hA
  go_enter Tryz.func51, Tryz.ntmps51
  go_wp2_with fail
  refine K.out.mono ?_
  rintro e1 w1 ⟨hb1, A2, n2, cc, rfl, hV⟩
  have HB := Lib.hid hb1
  have HV := Lib.hid hV
  clear hb1 hV K
  go_wp2
  go_ret
  exact ⟨HB.out, A2, n2, cc, rfl, HV.out⟩
theorem conv_at (w : World) (t e : TypeId) (C : Array Value) (n c g : Nat) (hg : g = w.heap.size) (ht : Tryz.prog.underlying t = some (.slice e)) (he : Tryz.prog.underlying e = some (.int .u8)) :
    (convert t t (.slice (some ⟨g, 0, none⟩) n c)).run Tryz.prog (w.alloc (.cells C e)) = .ok (.slice (some ⟨g, 0, none⟩) n c) (w.alloc (.cells C e (C.size, C.size + 1))) := by
  subst hg; exact Lib.run_convert_bytes_const w t e C n c ht he
theorem cell_at (w : World) (g : Nat) (t : TypeId) (C : Array Value) (j : Nat) (u : Value) (hg : g = w.heap.size) (hu : C[j]? = some u) : (w.alloc (.cells C t)).cell? ⟨g, j, none⟩ = some u := by
  subst hg
  rw [(Blk.new w t C).cell j, hu]
theorem repl_len (l : List UInt8) : (repl l).length ≤ 2 * l.length := by
  rw [repl_eq, replS_len _ l rfl]
  have := count_le _ l rfl
  omega
set_option maxRecDepth 100000 in
set_option maxHeartbeats 4000000 in
theorem stuff_walk (w : World) (hT : TabsL w.heap.size w) (A : Option Addr) (l : List UInt8) (n c : Nat) (hn : n = l.length) (hr : RB w w.heap.size A l) (hc : n ≤ c) (hA : A = none → c = 0) (hm : c ≤ 9223372036854775807) (hl : n < 4294967281) :
    Calls Tryz.prog 31 #[.slice A n c] w (StuffPost w l) := by
  obtain ⟨E, hE⟩ : ∃ E, contP l = E := ⟨_, rfl⟩
  have K := Lib.hid (cont_walk w hT A l n c hn hr hc hm hl)
  rw [hE] at K
  by_cases h0 : E = 0
  · have POST : Hid (∀ w' v, Below w.heap.size w w' → OwnV w' w.heap.size v (lead (repl l) ++ [46, 13, 10]) → ∀ e, e = .returned (.tuple #[v, .int .i64 0]) → StuffPost w l e w') := Lib.hid fun w' v hb hv e he => by
      unfold StuffPost
      rw [hE, if_pos h0, h0]
      exact ⟨hb, v, he, hv⟩
    subst h0
    have HR := Lib.hid hr
    have HT := Lib.hid hT
    have HN := Lib.hid hn
    have HA := Lib.hid hA
    have HLN : Hid ((repl l).length ≤ 2 * n) := Lib.hid (by rw [hn]; exact repl_len l)
    clear hr hT hn hA hE
    go_enter Tryz.func31, Tryz.ntmps31
    go_wp2_with fail
    refine K.out.mono ?_
    rintro e1 w1 ⟨hb1, rfl⟩
    have hcv1 := Lib.run_convert_bytes_const (P := Tryz.prog) w1 25 5 #[.int .u8 13, .int .u8 10, .int .u8 46] 3 3 Tryz.underlying25 Tryz.underlying5
    have hcv2 := conv_at (w1.alloc (.cells #[.int .u8 13, .int .u8 10, .int .u8 46] 5 (3, 4))) 25 5 #[.int .u8 13, .int .u8 10, .int .u8 46, .int .u8 46] 4 4 (w1.heap.size + 1) (by simp) Tryz.underlying25 Tryz.underlying5
    have r2 := RB.mark w1 5 #[.int .u8 13, .int .u8 10, .int .u8 46] (3, 4) dots rfl
    have r3 := RB.mark (w1.alloc (.cells #[.int .u8 13, .int .u8 10, .int .u8 46] 5 (3, 4))) 5 #[.int .u8 13, .int .u8 10, .int .u8 46, .int .u8 46] (4, 5) ddots rfl
    have hs2 : (w1.alloc (.cells #[.int .u8 13, .int .u8 10, .int .u8 46] 5 (3, 4))).heap.size = w1.heap.size + 1 := by simp
    rw [hs2] at r3
    have b2 := (Below.refl w1.heap.size w1).alloc (Nat.le_refl _) (.cells #[.int .u8 13, .int .u8 10, .int .u8 46] 5 (3, 4))
    have b3 := (Below.refl (w1.heap.size + 1) (w1.alloc (.cells #[.int .u8 13, .int .u8 10, .int .u8 46] 5 (3, 4)))).alloc (by simp) (.cells #[.int .u8 13, .int .u8 10, .int .u8 46, .int .u8 46] 5 (4, 5))
    have hb3 : Below w.heap.size w ((w1.alloc (.cells #[.int .u8 13, .int .u8 10, .int .u8 46] 5 (3, 4))).alloc (.cells #[.int .u8 13, .int .u8 10, .int .u8 46, .int .u8 46] 5 (4, 5))) :=
      (hb1.trans (b2.mono hb1.size)).trans (b3.mono (Nat.le_succ_of_le hb1.size))
    have KR := Lib.hid (repall_walk ((w1.alloc (.cells #[.int .u8 13, .int .u8 10, .int .u8 46] 5 (3, 4))).alloc (.cells #[.int .u8 13, .int .u8 10, .int .u8 46, .int .u8 46] 5 (4, 5))) (fun w' hb' => HT.out w' (hb3.trans (hb'.mono hb3.size))) ((HR.out.below hb3).mono hb3.size) ((r2.below b3).mono (by simp)) (r3.mono (by simp)) n c 3 4 HN.out hc HA.out hm hl (Nat.le_refl _))
    have HB3 := Lib.hid hb3
    clear r2 r3 hs2 b2 b3 hb3 K
    go_wp2_with fail
    refine KR.out.mono ?_
    clear KR hcv1 hcv2
    generalize (w1.alloc (.cells #[.int .u8 13, .int .u8 10, .int .u8 46] 5 (3, 4))).alloc (.cells #[.int .u8 13, .int .u8 10, .int .u8 46, .int .u8 46] 5 (4, 5)) = w3 at *
    rintro e4 w4 ⟨hb4, A4, n4, c4, rfl, hV4⟩
    have HB4 := Lib.hid (HB3.out.trans (hb4.mono HB3.out.size))
    clear hb4 hb1
    obtain ⟨R, hR⟩ : ∃ R, repl l = R := ⟨_, rfl⟩
    rw [hR] at hV4 HLN POST
    obtain ⟨hn4, hc4, hm4, hr4⟩ := hV4.sl
    have HR4 := Lib.hid hr4
    have HN4 := Lib.hid hn4
    have hRl : R.length ≤ 2 * n := HLN.out
    have hn4b : n4 ≤ 8589934592 := by omega
    unfold maxLen at hm4
    clear hV4 hR HR HT HN HA hr4 hn4 HB3 HLN
    -- the rest: what goes ahead of the end line
    have hcases : (R = [] ∧ n4 = 0) ∨ (∃ b off, A4 = some ⟨b, off, none⟩ ∧ 0 < n4 ∧ w4.cell? ⟨b, off, none⟩ = some (.int .u8 46) ∧ R.head? = some 46) ∨ (∃ b off, A4 = some ⟨b, off, none⟩ ∧ 0 < n4 ∧ ∃ xv : Int, w4.cell? ⟨b, off, none⟩ = some (.int .u8 xv) ∧ (xv == 46) = false ∧ R.head? ≠ some 46) := by
      cases hRe : R with
      | nil => exact .inl ⟨rfl, by rw [HN4.out, hRe]; rfl⟩
      | cons x t =>
        have hp : 0 < n4 := by rw [HN4.out, hRe]; simp
        obtain ⟨b, off, hA4, -, hcl⟩ := HR4.out.at_ (j := 0) (by rw [hRe]; simp)
        have h1 := hcl 0 (by rw [hRe]; simp)
        rw [hRe] at h1
        have h2 : w4.cell? ⟨b, off, none⟩ = some (.int .u8 (x.toNat : Int)) := by simpa [bt] using h1
        by_cases hx : x = 46
        · subst hx
          exact .inr (.inl ⟨b, off, hA4, hp, h2, rfl⟩)
        · exact .inr (.inr ⟨b, off, hA4, hp, _, h2, by rw [show (46 : Int) = ((46 : UInt8).toNat : Int) from rfl, byte_beq]; exact decide_eq_false hx, by simpa using hx⟩)
    rcases hcases with ⟨hRe, rfl⟩ | ⟨b, off, rfl, hp, k0, hhd⟩ | ⟨b, off, rfl, hp, xv, k0, hxv, hhd⟩
    · have HLE : Hid (lead R = R) := Lib.hid (by rw [hRe]; rfl)
      clear hRe hRl
      have hcv7 := Lib.run_convert_bytes_const (P := Tryz.prog) w4 25 5 #[.int .u8 46, .int .u8 13, .int .u8 10] 3 3 Tryz.underlying25 Tryz.underlying5
      have b7 := (Below.refl w4.heap.size w4).alloc (Nat.le_refl _) (.cells #[.int .u8 46, .int .u8 13, .int .u8 10] 5 (3, 4))
      have r7 := RB.mark w4 5 #[.int .u8 46, .int .u8 13, .int .u8 10] (3, 4) [46, 13, 10] rfl
      have b8 := (Below.refl (w4.heap.size + 1) (w4.alloc (.cells #[.int .u8 46, .int .u8 13, .int .u8 10] 5 (3, 4)))).alloc (by simp) (.cells #[.slice A4 0 c4, .slice (some ⟨w4.heap.size, 0, none⟩) 3 3] 25)
      have hb8 := HB4.out.trans ((b7.mono HB4.out.size).trans (b8.mono (Nat.le_succ_of_le HB4.out.size)))
      have KF := Lib.hid (conc_walk ((w4.alloc (.cells #[.int .u8 46, .int .u8 13, .int .u8 10] 5 (3, 4))).alloc (.cells #[.slice A4 0 c4, .slice (some ⟨w4.heap.size, 0, none⟩) 3 3] 25)) (w4.heap.size + 1) A4 (some ⟨w4.heap.size, 0, none⟩) R [46, 13, 10] 0 c4 3 3 (cell_at _ _ _ _ 0 _ (by simp) rfl) (cell_at _ _ _ _ 1 _ (by simp) rfl) ((((HR4.out.below b7).mono (Nat.le_succ _)).below b8).mono (by simp)) ((r7.below b8).mono (by simp)) HN4.out rfl (by omega))
      have HB8 := Lib.hid hb8
      clear b7 r7 b8 hb8
      go_wp2_with fail
      refine KF.out.mono ?_
      rintro e9 w9 ⟨hb9, A9, n9, c9, rfl, hV9⟩
      have HB9 := Lib.hid (HB8.out.trans (hb9.mono HB8.out.size))
      have HV9 := Lib.hid (hV9.mono HB8.out.size)
      clear hb9 hV9 KF hcv7
      go_wp2
      go_ret2
      exact POST.out _ _ HB9.out (by have hv := HV9.out; rwa [HLE.out]) _ rfl
    · have HLE : Hid (lead R = [46] ++ R) := Lib.hid (by unfold lead; rw [if_pos hhd]; rfl)
      have hp2 : (0 : Int) < (n4 : Int) := by omega
      have b5 := (Below.refl w4.heap.size w4).alloc (Nat.le_refl _) (.cells #[.int .u8 46] 5)
      have r5 := RB.one w4 5 46 46 rfl
      have b6 := (Below.refl (w4.heap.size + 1) (w4.alloc (.cells #[.int .u8 46] 5))).alloc (by simp) (.cells #[.slice (some ⟨w4.heap.size, 0, none⟩) 1 1, .slice (some ⟨b, off, none⟩) n4 c4] 25)
      have hb6 := HB4.out.trans ((b5.mono HB4.out.size).trans (b6.mono (Nat.le_succ_of_le HB4.out.size)))
      have KD := Lib.hid (conc_walk ((w4.alloc (.cells #[.int .u8 46] 5)).alloc (.cells #[.slice (some ⟨w4.heap.size, 0, none⟩) 1 1, .slice (some ⟨b, off, none⟩) n4 c4] 25)) (w4.heap.size + 1) (some ⟨w4.heap.size, 0, none⟩) (some ⟨b, off, none⟩) [46] R 1 1 n4 c4 (cell_at _ _ _ _ 0 _ (by simp) rfl) (cell_at _ _ _ _ 1 _ (by simp) rfl) ((r5.below b6).mono (by simp)) ((((HR4.out.below b5).mono (Nat.le_succ _)).below b6).mono (by simp)) rfl HN4.out (by omega))
      have HB6 := Lib.hid hb6
      clear b5 r5 b6 hb6 hhd hRl
      go_wp2_with fail
      refine KD.out.mono ?_
      rintro e7 w7 ⟨hb7, A7, n7, c7, rfl, hV7⟩
      have HB7 := Lib.hid (HB6.out.trans (hb7.mono HB6.out.size))
      obtain ⟨hn7, hc7, hm7, hr7⟩ := hV7.sl
      have HR7 := Lib.hid hr7
      have HN7 := Lib.hid hn7
      have hn7b : n7 ≤ 8589934593 := by have := HN4.out; rw [hn7, List.length_append]; simp; omega
      clear hb7 hV7 KD hr7 hn7 hm7 HB6 k0
      have hcv7 := Lib.run_convert_bytes_const (P := Tryz.prog) w7 25 5 #[.int .u8 46, .int .u8 13, .int .u8 10] 3 3 Tryz.underlying25 Tryz.underlying5
      have b7 := (Below.refl w7.heap.size w7).alloc (Nat.le_refl _) (.cells #[.int .u8 46, .int .u8 13, .int .u8 10] 5 (3, 4))
      have r7 := RB.mark w7 5 #[.int .u8 46, .int .u8 13, .int .u8 10] (3, 4) [46, 13, 10] rfl
      have b8 := (Below.refl (w7.heap.size + 1) (w7.alloc (.cells #[.int .u8 46, .int .u8 13, .int .u8 10] 5 (3, 4)))).alloc (by simp) (.cells #[.slice A7 n7 c7, .slice (some ⟨w7.heap.size, 0, none⟩) 3 3] 25)
      have hb8 := HB7.out.trans ((b7.mono HB7.out.size).trans (b8.mono (Nat.le_succ_of_le HB7.out.size)))
      have KF := Lib.hid (conc_walk ((w7.alloc (.cells #[.int .u8 46, .int .u8 13, .int .u8 10] 5 (3, 4))).alloc (.cells #[.slice A7 n7 c7, .slice (some ⟨w7.heap.size, 0, none⟩) 3 3] 25)) (w7.heap.size + 1) A7 (some ⟨w7.heap.size, 0, none⟩) ([46] ++ R) [46, 13, 10] n7 c7 3 3 (cell_at _ _ _ _ 0 _ (by simp) rfl) (cell_at _ _ _ _ 1 _ (by simp) rfl) ((((HR7.out.below b7).mono (Nat.le_succ _)).below b8).mono (by simp)) ((r7.below b8).mono (by simp)) HN7.out rfl (by omega))
      have HB8 := Lib.hid hb8
      clear b7 r7 b8 hb8
      go_wp2_with fail
      refine KF.out.mono ?_
      rintro e9 w9 ⟨hb9, A9, n9, c9, rfl, hV9⟩
      have HB9 := Lib.hid (HB8.out.trans (hb9.mono HB8.out.size))
      have HV9 := Lib.hid (hV9.mono HB8.out.size)
      clear hb9 hV9 KF hcv7
      go_wp2
      go_ret2
      exact POST.out _ _ HB9.out (by have hv := HV9.out; rwa [HLE.out]) _ rfl
    · have HLE : Hid (lead R = R) := Lib.hid (by unfold lead; rw [if_neg hhd])
      have hp2 : (0 : Int) < (n4 : Int) := by omega
      clear hhd hRl
      have hcv7 := Lib.run_convert_bytes_const (P := Tryz.prog) w4 25 5 #[.int .u8 46, .int .u8 13, .int .u8 10] 3 3 Tryz.underlying25 Tryz.underlying5
      have b7 := (Below.refl w4.heap.size w4).alloc (Nat.le_refl _) (.cells #[.int .u8 46, .int .u8 13, .int .u8 10] 5 (3, 4))
      have r7 := RB.mark w4 5 #[.int .u8 46, .int .u8 13, .int .u8 10] (3, 4) [46, 13, 10] rfl
      have b8 := (Below.refl (w4.heap.size + 1) (w4.alloc (.cells #[.int .u8 46, .int .u8 13, .int .u8 10] 5 (3, 4)))).alloc (by simp) (.cells #[.slice (some ⟨b, off, none⟩) n4 c4, .slice (some ⟨w4.heap.size, 0, none⟩) 3 3] 25)
      have hb8 := HB4.out.trans ((b7.mono HB4.out.size).trans (b8.mono (Nat.le_succ_of_le HB4.out.size)))
      have KF := Lib.hid (conc_walk ((w4.alloc (.cells #[.int .u8 46, .int .u8 13, .int .u8 10] 5 (3, 4))).alloc (.cells #[.slice (some ⟨b, off, none⟩) n4 c4, .slice (some ⟨w4.heap.size, 0, none⟩) 3 3] 25)) (w4.heap.size + 1) (some ⟨b, off, none⟩) (some ⟨w4.heap.size, 0, none⟩) R [46, 13, 10] n4 c4 3 3 (cell_at _ _ _ _ 0 _ (by simp) rfl) (cell_at _ _ _ _ 1 _ (by simp) rfl) ((((HR4.out.below b7).mono (Nat.le_succ _)).below b8).mono (by simp)) ((r7.below b8).mono (by simp)) HN4.out rfl (by omega))
      have HB8 := Lib.hid hb8
      clear b7 r7 b8 hb8
      go_wp2_with fail
      refine KF.out.mono ?_
      rintro e9 w9 ⟨hb9, A9, n9, c9, rfl, hV9⟩
      have HB9 := Lib.hid (HB8.out.trans (hb9.mono HB8.out.size))
      have HV9 := Lib.hid (hV9.mono HB8.out.size)
      clear hb9 hV9 KF hcv7
      go_wp2
      go_ret2
      exact POST.out _ _ HB9.out (by have hv := HV9.out; rwa [HLE.out]) _ rfl
  · have POST : Hid (∀ w', Below w.heap.size w w' → StuffPost w l (.returned (.tuple #[.slice none 0 0, .int .i64 E])) w') := Lib.hid fun w' hb => by
      unfold StuffPost
      rw [hE, if_neg h0]
      exact ⟨hb, _, rfl, none, 0, rfl, Nat.le_refl _, by simp [maxLen], .inl rfl⟩
    clear hr hE hn hA hT
    go_enter Tryz.func31, Tryz.ntmps31
    go_wp2_with fail
    refine K.out.mono ?_
    rintro e1 w1 ⟨hb1, rfl⟩
    have HB1 := Lib.hid hb1
    clear hb1 K
    go_wp2
    go_ret2
    exact POST.out _ HB1.out
end Go.Proofs.YtjnjnccfojfghaaGreatDoor

/-! append(s, x...) of values of several cells onto a row that lies at a block's beginning (World.ownsRow); over any program. Condition: the sizes. -/
namespace Go.Proofs.YtjnjnccfojfghaaGreatDoor
open Go.RowKit
set_option linter.unusedVariables false
section
variable {P : Program} (w : World)
theorem below_of_grownN {w w' : World} {base E size n : Nat} {v : Value} {xs : List Value} (h : w.ownsRow base E size v n xs) (hg : w.grownBy w' v.ownBlock) (hb : base ≤ w.heap.size) : Below base w w' :=
  ⟨hg.os, hg.tape, hg.output, hg.size, fun k hk => hg.block k (by omega) (fun e => by have := (World.ownsRow.lt h k e.symm).1; omega)⟩
theorem run_appN {t E : TypeId} {sz : Nat} (hU : UX P t E sz) (ty : TypeId) {base n : Nat} {v : Value} {xs : List Value} (hown : w.ownsRow base E sz v n xs) (ad : Addr) (m c : Nat) (news : List Value) (hl : news.length = m * sz)
    (hnews : ∀ j u, news[j]? = some u → w.cell? (ad.add j) = some u) (h1 : ∀ u ∈ news, u.oneCell' = true) (hm : n + m ≤ 1000000000) (hbase : base ≤ w.heap.size) :
    ∃ v' w', (Builtin.append_ #[t, t] ty #[v, .slice (some ad) m c]).run P w = .ok v' w' ∧ w'.ownsRow base E sz v' (n + m) (xs ++ news) ∧ w.grownBy w' v.ownBlock := by
  obtain ⟨i, z, hi, hz, hzs, hs, hb⟩ := hU.hi
  have hbb : ((n + m) + (n + m) / 4 + 192) * i.bytes ≤ 281474976710656 := Nat.le_trans (Nat.mul_le_mul (show (n + m) + (n + m) / 4 + 192 ≤ 2000000000 by omega) hb) (by decide)
  obtain ⟨v', w', hrun, h2, h3, -⟩ := run_append_own_wide (P := P) w base t ty E i z sz i.bytes hU.ht hi hz hs rfl hzs hU.h0 v n xs hown ad m c news hl hnews h1 (by simp only [maxLen]; omega) hbb hbase
  exact ⟨v', w', hrun, h2, h3⟩
theorem wpList_appN {ops : Array Oper} {rest : List Oper} {o : Oper} {a : Act} {Q : Exit → Act → World → Prop} {t E : TypeId} {sz : Nat} (hU : UX P t E sz) (s x : Operand)
    (ho : o.op = .call { callee := .builtin .append, args := #[s, x], argTypes := #[t, t] }) (hgd : o.guard = none)
    {base n : Nat} {v : Value} {xs : List Value} (hs : a.eval s = v) (hown : w.ownsRow base E sz v n xs) (ad : Addr) (m c : Nat) (hx : a.eval x = .slice (some ad) m c) (news : List Value) (hl : news.length = m * sz)
    (hnews : ∀ j u, news[j]? = some u → w.cell? (ad.add j) = some u) (h1 : ∀ u ∈ news, u.oneCell' = true) (hm : n + m ≤ 1000000000) (hbase : base ≤ w.heap.size)
    (h : ∀ v' w', w'.ownsRow base E sz v' (n + m) (xs ++ news) → Below base w w' → wpList P ops Q rest (a.put o.dst v') w') : wpList P ops Q (o :: rest) a w := by
  refine wpList_plain hgd fun K hK => ?_
  obtain ⟨v', w', hrun, h2, h3⟩ := run_appN (P := P) w hU o.type hown ad m c news hl hnews h1 hm hbase
  unfold Oper.wp execOp
  simp only [ho, resolve, invoke, builtin, Sem.run_bind, Sem.run_pure, Result.andThen_ok, List.map_toArray, List.map_cons, List.map_nil, hs, hx, hrun]
  exact hK _ _ (h v' w' h2 (below_of_grownN hown h3 hbase))
theorem step_appN {ops : Array Oper} {o : Oper} {a : Act} {K : Act → World → Prop} {Q : Exit → Act → World → Prop} {E' : Prop} (hgd : o.guard = none) {t E : TypeId} {sz : Nat} (hU : UX P t E sz) (s x : Operand)
    (ho : o.op = .call { callee := .builtin .append, args := #[s, x], argTypes := #[t, t] })
    {base n : Nat} {v : Value} {xs : List Value} (hs : a.eval s = v) (hown : w.ownsRow base E sz v n xs) (ad : Addr) (m c : Nat) (hx : a.eval x = .slice (some ad) m c) (news : List Value) (hl : news.length = m * sz)
    (hnews : ∀ j u, news[j]? = some u → w.cell? (ad.add j) = some u) (h1 : ∀ u ∈ news, u.oneCell' = true) (hm : n + m ≤ 1000000000) (hbase : base ≤ w.heap.size)
    (h : ∀ v' w', w'.ownsRow base E sz v' (n + m) (xs ++ news) → Below base w w' → K (a.put o.dst v') w') :
    if Region.wanted o (yielded ops a.tmps) = true then Oper.wp P o a w K Q else E' := by
  have hw : Region.wanted o (yielded ops a.tmps) = true := by simp [Region.wanted, hgd]
  rw [if_pos hw]
  obtain ⟨v', w', hrun, h2, h3⟩ := run_appN (P := P) w hU o.type hown ad m c news hl hnews h1 hm hbase
  unfold Oper.wp execOp
  simp only [ho, resolve, invoke, builtin, Sem.run_bind, Sem.run_pure, Result.andThen_ok, List.map_toArray, List.map_cons, List.map_nil, hs, hx, hrun]
  exact h v' w' h2 (below_of_grownN hown h3 hbase)
/-- a row of one element in a new block -/
theorem ownsRow_at {w : World} {base E size n g c : Nat} {xs : List Value} (h : w.ownsRow base E size (.slice (some ⟨g, 0, none⟩) n c) n xs) (j : Nat) (hj : j < n * size) : w.cell? ⟨g, j, none⟩ = xs[j]? := World.ownsRow.cellAt h j hj
end
end Go.Proofs.YtjnjnccfojfghaaGreatDoor

/-! Which clients there are, plain; a client's people built row by row. No condition. -/
namespace Go.Proofs.YtjnjnccfojfghaaGreatDoor
open Go.RowKit
set_option linter.unusedVariables false
def newOk (o : OrdM) : Prop := domE o.name = 0 ∧ 1 ≤ o.rcpts.length ∧ o.rcpts.length ≤ 50 ∧ rightM o.frm = 0 ∧ (∀ p ∈ o.rcpts, rightM p = 0 ∧ p.nul = false) ∧ contP o.data = 0
def persM (p : PathM) : Pers := ⟨angleT p, false, 0, 0, []⟩
def newM (o : OrdM) : ClM := ⟨o.name, angleT o.frm, o.rcpts.map persM, stuffP o.data, 0, 0, [], [], 0, false⟩
theorem angleT_len {p : PathM} (h : rightM p = 0) : (angleT p).length ≤ 256 := by
  unfold angleT
  rw [if_pos h]
  unfold rightM at h
  by_cases h1 : mayM p = false
  · rw [if_pos h1] at h; cases h
  rw [if_neg h1] at h
  by_cases h2 : p.nul = true
  · unfold shownM
    rw [if_pos h2]
    simp
  · rw [if_neg h2] at h
    split at h
    · cases h
    · split at h
      · cases h
      · split at h
        · cases h
        · simp only [List.length_cons, List.length_append, List.length_nil]
          omega
theorem stuffP_len (d : Tx) : (stuffP d).length ≤ 2 * d.length + 4 := by
  have h1 := repl_len d
  have h2 : ∀ l : Tx, (lead l).length ≤ l.length + 1 := by
    intro l
    unfold lead
    split <;> simp
  have h3 := h2 (repl d)
  unfold stuffP
  rw [List.length_append]
  simp only [List.length_cons, List.length_nil]
  omega
theorem newM_ok {o : OrdM} (h : newOk o) (h1 : o.name.length ≤ 1048576) (h2 : o.data.length ≤ 1048576) : COk (newM o) := by
  obtain ⟨q1, q2, q3, q4, q5, q6⟩ := h
  have hp : (newM o).ppl.length = o.rcpts.length := List.length_map ..
  refine ⟨⟨by show o.name.length ≤ _; omega, ?_, fun p hp => ?_, ?_, by rw [hp]; exact q3⟩, by show (0 : Nat) ≤ 8; omega, fun _ => by show 0 < (newM o).ppl.length; omega, ?_⟩
  · have := angleT_len q4
    show (angleT o.frm).length ≤ _
    omega
  · obtain ⟨p0, h0, rfl⟩ := List.mem_map.1 hp
    have := angleT_len (q5 p0 h0).1
    show (angleT p0).length ≤ _
    omega
  · have := stuffP_len o.data
    show (stuffP o.data).length ≤ _
    omega
  · have : rk (newM o) ≤ 58 := by
      show (8 - 0) + ((newM o).ppl.length - 0) ≤ 58
      omega
    have h3 := Nat.mul_le_mul_right 16777216 this
    show 0 + rk (newM o) * 16777216 ≤ 2000000000
    omega
theorem newM_new {o : OrdM} (h : newOk o) (h1 : o.name.length ≤ 1048576) (h2 : o.data.length ≤ 1048576) : CNew (newM o) := ⟨rfl, (newM_ok h h1 h2).po, rfl, rfl, rfl⟩
/-! ### the people's row -/
theorem flat_at {α : Type} (f : α → List Value) (sz : Nat) (hf : ∀ x, (f x).length = sz) : ∀ {L : List α} {i : Nat} {x : α}, L[i]? = some x → ∀ {k : Nat} {v : Value}, (f x)[k]? = some v → ((L.map f).flatten)[i * sz + k]? = some v
  | [], i, x, h, k, v, hv => by simp at h
  | y :: L, i, x, h, k, v, hv => by
    have hk : k < sz := by rw [← hf x]; exact (List.getElem?_eq_some_iff.1 hv).1
    rw [List.map_cons, List.flatten_cons]
    cases i with
    | zero =>
      obtain rfl : y = x := by simpa using h
      rw [List.getElem?_append_left (by rw [hf]; omega), Nat.zero_mul, Nat.zero_add]
      exact hv
    | succ i =>
      have e : (i + 1) * sz = i * sz + sz := by rw [Nat.add_mul, Nat.one_mul]
      rw [List.getElem?_append_right (by rw [hf, e]; omega), hf, show (i + 1) * sz + k - sz = i * sz + k by rw [e]; omega]
      exact flat_at f sz hf (L := L) (by simpa using h) hv
theorem flat_len {α : Type} (f : α → List Value) (sz : Nat) (hf : ∀ x, (f x).length = sz) : ∀ L : List α, ((L.map f).flatten).length = L.length * sz
  | [] => by simp
  | y :: L => by
    rw [List.map_cons, List.flatten_cons, List.length_append, hf, flat_len f sz hf L, List.length_cons, Nat.add_mul, Nat.one_mul, Nat.add_comm]
def persV (p : Pers) : List Value := [.string (bs p.angle), .bool p.taken, .int .i64 (p.st : Int), .int .i64 p.code, .string (bs p.text)]
theorem persV_one (p : Pers) : ∀ u ∈ persV p, u.oneCell' = true := by
  intro u hu
  simp only [persV, List.mem_cons, List.not_mem_nil, or_false] at hu
  rcases hu with rfl | rfl | rfl | rfl | rfl <;> rfl
theorem uxP : UX Tryz.prog 70 74 5 := by
  obtain ⟨i, h1, h2, h3, h4⟩ := info_parts (show (Tryz.prog.info? 74).map (fun i => (i.zero, i.size, i.bytes)) = some (some (.agg #[.string ⟨#[]⟩, .bool false, .int .i64 0, .int .i64 0, .string ⟨#[]⟩]), 5, 56) by kernel_rfl)
  exact ⟨Tryz.underlying70, ⟨i, _, h1, h2, rfl, h3, by omega⟩, by omega⟩
theorem PplB.of_row {w : World} {base g c : Nat} {L : List Pers} (h : w.ownsRow base 74 5 (.slice (some ⟨g, 0, none⟩) L.length c) L.length (L.map persV).flatten) : PplB w g L := by
  rcases h.2 with ⟨h1, -⟩ | ⟨g', cap, cur, e, -, hg, hnc, -, hcs, ht⟩
  · cases h1
  · injection e with e1
    injection e1 with e1
    injection e1 with e1
    subst e1
    refine ⟨cur, hg, fun i p hp => ?_⟩
    have hi := (List.getElem?_eq_some_iff.1 hp).1
    have key : ∀ k v, (persV p)[k]? = some v → cur[i * 5 + k]? = some v := fun k v hv => by
      have h2 := flat_at persV 5 (fun _ => rfl) hp hv
      have hk : k < 5 := (List.getElem?_eq_some_iff.1 hv).1
      rw [← ht, List.getElem?_take_of_lt (by omega)] at h2
      rw [← h2]
      exact Array.getElem?_toList.symm
    exact ⟨key 0 _ rfl, key 1 _ rfl, key 2 _ rfl, key 3 _ rfl, key 4 _ rfl⟩
end Go.Proofs.YtjnjnccfojfghaaGreatDoor
