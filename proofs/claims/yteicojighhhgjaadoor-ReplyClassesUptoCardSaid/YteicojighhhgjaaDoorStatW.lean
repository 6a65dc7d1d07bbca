/-
  The walk of reply.Status, where the text is shorter than 4294967281 bytes (the bound of the search's own text). It asks what the library's variables hold.
-/
import Derived.Test.YteicojighhhgjaaDoorFmt
import Derived.Test.YteicojighhhgjaaDoorStat2
import Derived.Test.YteicojighhhgjaaDoorMore
import Derived.Outline
namespace Go.Proofs.YteicojighhhgjaaDoor
open Go.RowKit Go.Sort
set_option linter.unusedVariables false

/-- the library's bound of a short search holds some number -/
def MaxL (w : World) : Prop := ∃ m, w.cell? ⟨1, 0, none⟩ = some (.int .i64 m)
theorem MaxL.keep {w w' : World} (h : MaxL w) (hb : Below w.heap.size w w') : MaxL w' := by
  obtain ⟨m, hm⟩ := h
  exact ⟨m, (hb.cell (World.block_lt_of_cell? _ _ hm)).trans hm⟩
theorem splitB_two {h : ByteArray} {p q r : List UInt8} (hk : Lib.splitK [46] 0 2 h.data.toList = [p, q, r]) : Lib.splitB ⟨#[46]⟩ 0 2 h = [⟨p.toArray⟩, ⟨q.toArray⟩, ⟨r.toArray⟩] := by
  have e := Lib.splitB_data ⟨#[46]⟩ 0 2 h
  rw [show (⟨#[46]⟩ : ByteArray).data.toList = [46] from rfl, hk] at e
  match hs : Lib.splitB ⟨#[46]⟩ 0 2 h with
  | [] => rw [hs] at e; simp at e
  | [_] => rw [hs] at e; simp at e
  | [_, _] => rw [hs] at e; simp at e
  | [a, b, c] =>
    rw [hs] at e
    simp only [List.map_cons, List.map_nil, List.cons.injEq, and_true] at e
    rw [str_eq e.1, str_eq e.2.1, str_eq e.2.2]
  | _ :: _ :: _ :: _ :: _ => rw [hs] at e; simp at e

set_option maxRecDepth 100000 in
set_option maxHeartbeats 2000000 in
theorem stat_walk (s : ByteArray) (w : World) (hs : s.size < 4294967281) (TE : Errs w) (T : Pow10 w) (TM : MaxL w) :
    Calls Tryd.prog 19 #[.string s] w fun e w' => Below w.heap.size w w' ∧ e = .returned (statV (statP s.data.toList)) := by
  obtain ⟨m, hm⟩ := TM
  have hcut := Tryd.strings_Cut s ⟨#[32]⟩ m w hs hm
  rw [show (⟨#[32]⟩ : ByteArray).data.toList = [32] from rfl] at hcut
  have fin : statP s.data.toList = none → Ending.returned (.tuple #[.int .i64 0, .int .i64 0, .int .i64 0, .bool false]) = .returned (statV (statP s.data.toList)) := fun h => by rw [h]; rfl
  have FIN := Lib.hid fin
  obtain ⟨l, hl⟩ : ∃ l, s.data.toList = l := ⟨_, rfl⟩
  have hF := fun (h : Lib.count (Lib.cut l [32]).1 [46] ≠ 2) => statP_few h
  obtain ⟨R, hR, _, hnb⟩ := cut_blank l
  have hhl : (Lib.cut l [32]).1.length < 4294967281 := by
    have := congrArg List.length hR
    rw [List.length_append] at this
    rw [size_len, hl] at hs
    omega
  have hT := fun p q r (h : (Lib.cut l [32]).1 = p ++ 46 :: (q ++ 46 :: r)) h1 h2 h3 => statP_two h h1 h2 h3
  rw [hl] at hcut FIN ⊢
  have HCUT := Lib.hid hcut
  have HF := Lib.hid hF
  have HT := Lib.hid hT
  have HM := Lib.hid hm
  have HLT := World.block_lt_of_cell? _ _ hm
  clear hcut fin hF hT hl hm hR
  generalize (Lib.cut l [32]).1 = h at *
  have hhs : (⟨h.toArray⟩ : ByteArray).size < 4294967281 := by rw [size_len]; simpa using hhl
  have HSP := Lib.hid (fun n => Tryd.strings_Split ⟨h.toArray⟩ ⟨#[46]⟩ m (w.drewN n) hhs HM.out (by decide))
  rw [show Lib.countB ⟨h.toArray⟩ ⟨#[46]⟩ = Lib.count h [46] by unfold Lib.countB; simp] at HSP
  by_cases hc : Lib.count h [46] = 2
  · obtain ⟨p, q, r, e, h1, h2, h3, hsp⟩ := split2 hc
    have hst := HT.out p q r e h1 h2 h3
    have HSP2 : Hid (∀ n, Calls Tryd.prog 34 #[.string ⟨h.toArray⟩, .string ⟨#[46]⟩] (w.drewN n) fun e w' => e = .returned (.slice (some ⟨w.heap.size, 0, none⟩) 3 3) ∧ Below w.heap.size w w' ∧ Blk w' w.heap.size 9 #[.string ⟨p.toArray⟩, .string ⟨q.toArray⟩, .string ⟨r.toArray⟩]) := Lib.hid (fun n => (HSP.out n).mono (by
      rintro e' w' ⟨rfl, rfl⟩
      rw [hc, splitB_two hsp]
      exact ⟨rfl, (bdrewN (Below.refl _ _) n).alloc (Nat.le_refl _) _, Blk.new (w.drewN n) 9 #[.string ⟨p.toArray⟩, .string ⟨q.toArray⟩, .string ⟨r.toArray⟩]⟩))
    have hp32 : ∀ b ∈ p, b ≠ 32 := fun b hb => hnb b (by rw [e]; simp [hb])
    have hls : p.length < 4294967281 ∧ q.length < 4294967281 ∧ r.length < 4294967281 := by
      have := congrArg List.length e
      simp only [List.length_append, List.length_cons] at this
      omega
    obtain ⟨hl1, hl2, hl3⟩ := hls
    have HE := Lib.hid hst
    have HK := Lib.hid (fun w' (hb : Below w.heap.size w w') => (hb.cell (p := ⟨1, 0, none⟩) HLT).trans HM.out)
    clear HF HT hc hst HSP e h1 h2 h3 hsp hnb hhl hhs
    go_enter Tryd.func19, Tryd.ntmps19
    go_wp2_with fail
    refine HCUT.out.mono ?_
    rintro e w' ⟨rfl, n, rfl⟩
    go_wp2_with fail
    refine (HSP2.out n).mono ?_
    rintro e W ⟨rfl, hb, hblk⟩
    have c0 : W.cell? ⟨w.heap.size, 0, none⟩ = some (.string ⟨p.toArray⟩) := hblk.cell 0
    have c1 : W.cell? ⟨w.heap.size, 1, none⟩ = some (.string ⟨q.toArray⟩) := hblk.cell 1
    have c2 : W.cell? ⟨w.heap.size, 2, none⟩ = some (.string ⟨r.toArray⟩) := hblk.cell 2
    have hcn := Tryd.strings_Contains ⟨#[50, 32, 52, 32, 53]⟩ ⟨p.toArray⟩ m W (by decide) (HK.out W hb)
    rw [show (⟨#[50, 32, 52, 32, 53]⟩ : ByteArray).data.toList = [50, 32, 52, 32, 53] from rfl, show (⟨p.toArray⟩ : ByteArray).data.toList = p by simp] at hcn
    have HCN := Lib.hid hcn
    have HP1 : Hid (Lib.contains [50, 32, 52, 32, 53] p = false → stPc p q r = none) := Lib.hid (fun h => by
      unfold stPc
      split
      · rename_i x
        cases hx : is245 (x.toNat : Int)
        · rfl
        · rw [has245 hx] at h; cases h
      · rfl)
    have HP2 : Hid (¬ p.length = 1 → stPc p q r = none) := Lib.hid (fun h => by
      unfold stPc
      split
      · simp at h
      · rfl)
    have HP3 : Hid (Lib.contains [50, 32, 52, 32, 53] p = true → p.length = 1 → ∃ x, p = [x] ∧ is245 (x.toNat : Int) = true) := Lib.hid (fun h1 h2 => by
      match p, h2 with
      | [x], _ => exact ⟨x, rfl, of245 h1 (hp32 x (by simp))⟩)
    clear hcn HCUT HSP2 hp32
    generalize Lib.contains [50, 32, 52, 32, 53] p = b at *
    cases b
    · have HN := Lib.hid (HE.out.trans (HP1.out rfl))
      clear HP1 HP2 HP3 HE
      go_wp2_with (go_at_call 35; refine HCN.out.mono ?_; rintro e w' ⟨rfl, rfl⟩)
      refine bodyPost_ret (results_t4 rfl _ _ _) rfl ?_
      exact ⟨hb, FIN.out HN.out⟩
    · by_cases hp : p.length = 1
      · obtain ⟨x, rfl, hx⟩ := HP3.out rfl hp
        have hE2 : Hid (∀ b1 b2, smOk q = b1 → smOk r = b2 → statP l = if (b1 && b2) = true then some ((x.toNat : Int) - 48, valD q, valD r) else none) := Lib.hid (fun b1 b2 h1 h2 => by
          rw [HE.out, show stPc [x] q r = if (is245 (x.toNat : Int) && (smOk q && smOk r)) = true then some ((x.toNat : Int) - 48, valD q, valD r) else none from rfl, hx, h1, h2, Bool.true_and])
        have hx' : 50 ≤ (x.toNat : Int) ∧ (x.toNat : Int) ≤ 53 := by unfold is245 at hx; rw [decide_eq_true_eq] at hx; omega
        obtain ⟨hx50, hx53⟩ := hx'
        have S1 := Lib.hid (small_walk ⟨q.toArray⟩ W (by rw [size_len]; simp; omega) (TE.keep hb) (T.keep hb))
        have S2 := Lib.hid (fun W' (hb' : Below w.heap.size w W') => small_walk ⟨r.toArray⟩ W' (by rw [size_len]; simp; omega) (TE.keep hb') (T.keep hb'))
        have HBK := Lib.hid (fun w' (hb' : Below W.heap.size W w') => (⟨(hblk.keep hb').cell 0, (hblk.keep hb').cell 1, (hblk.keep hb').cell 2⟩ : w'.cell? ⟨w.heap.size, 0, none⟩ = some (.string ⟨[x].toArray⟩) ∧ w'.cell? ⟨w.heap.size, 1, none⟩ = some (.string ⟨q.toArray⟩) ∧ w'.cell? ⟨w.heap.size, 2, none⟩ = some (.string ⟨r.toArray⟩)))
        rw [show (⟨q.toArray⟩ : ByteArray).data.toList = q by simp] at S1
        rw [show (⟨r.toArray⟩ : ByteArray).data.toList = r by simp] at S2
        clear HP1 HP2 HP3 HE hp hx T TE
        go_wp2_with (go_at_call 35; refine HCN.out.mono ?_; rintro e w' ⟨rfl, rfl⟩)
        refine S1.out.mono ?_
        rintro e W1 ⟨hb1, n1, rfl, hn1⟩
        obtain ⟨d0, d1, d2⟩ := HBK.out W1 hb1
        have hbW1 := hb.trans (hb1.mono hb.size)
        have HN1 := Lib.hid hn1
        clear hn1 c0 c1 c2
        go_wp2_with fail
        refine (S2.out W1 hbW1).mono ?_
        rintro e W2 ⟨hb2, n2, rfl, hn2⟩
        have hb12 := hb1.trans (hb2.mono hb1.size)
        clear d0 d1 d2
        obtain ⟨d0, d1, d2⟩ := HBK.out W2 hb12
        have hbW2 := hb.trans (hb12.mono hb.size)
        have HN2 := Lib.hid hn2
        clear hn2
        generalize smOk q = o1 at *
        generalize smOk r = o2 at *
        cases o1
        · have HN : Hid (statP l = none) := Lib.hid (by rw [hE2.out _ _ rfl rfl]; rfl)
          clear hE2
          go_wp2
          refine bodyPost_ret (results_t4 rfl _ _ _) rfl ?_
          exact ⟨hbW2, FIN.out HN.out⟩
        · cases o2
          · have HN : Hid (statP l = none) := Lib.hid (by rw [hE2.out _ _ rfl rfl]; rfl)
            clear hE2
            go_wp2
            refine bodyPost_ret (results_t4 rfl _ _ _) rfl ?_
            exact ⟨hbW2, FIN.out HN.out⟩
          · obtain rfl := HN1.out rfl
            obtain rfl := HN2.out rfl
            have HN : Hid (statP l = some ((x.toNat : Int) - 48, valD q, valD r)) := Lib.hid (by rw [hE2.out _ _ rfl rfl]; rfl)
            clear hE2
            go_wp2
            refine bodyPost_ret (results_t4 rfl _ _ _) rfl ?_
            rw [HN.out]
            refine ⟨hbW2, ?_⟩
            show Ending.returned (.tuple #[.int .i64 (((x.toNat : Int) - 48) % 256), .int .i64 (valD q), .int .i64 (valD r), .bool true]) = _
            rw [Int.emod_eq_of_lt (by omega) (by omega)]
            rfl
      · have HN := Lib.hid (HE.out.trans (HP2.out hp))
        have hp' : ((p.length : Int) != 1) = true := by rw [bne_iff_ne]; omega
        clear HP1 HP2 HP3 HE hp
        go_wp2_with (go_at_call 35; refine HCN.out.mono ?_; rintro e w' ⟨rfl, rfl⟩)
        refine bodyPost_ret (results_t4 rfl _ _ _) rfl ?_
        exact ⟨hb, FIN.out HN.out⟩
  · have HN := Lib.hid (HF.out hc)
    have hne : (((Lib.count h [46] + 1 : Nat) : Int) != 3) = true := by rw [bne_iff_ne]; omega
    have hne2 : (((Lib.count h [46] : Nat) : Int) + 1 != 3) = true := by rw [bne_iff_ne]; omega
    clear HF HT hc
    generalize Lib.count h [46] = k at *
    go_enter Tryd.func19, Tryd.ntmps19
    go_wp2_with fail
    refine HCUT.out.mono ?_
    rintro e w' ⟨rfl, n, rfl⟩
    go_wp2_with fail
    refine (HSP.out n).mono ?_
    rintro e w' ⟨rfl, rfl⟩
    go_wp2
    refine bodyPost_ret (results_t4 rfl _ _ _) rfl ?_
    exact ⟨(bdrewN (Below.refl _ _) n).alloc (Nat.le_refl _) _, FIN.out HN.out⟩
end Go.Proofs.YteicojighhhgjaaDoor
