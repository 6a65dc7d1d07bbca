/-
  Several texts in one: ScMayW, ScShn, ScAng, ScDmn. Conditions: each part names its own.
-/
import Derived.Test.YtjnjnccfojfghaaGreatDoorMg19
set_option linter.unusedSimpArgs false
/-! The walk of path.may. Condition: the texts' lengths, what the tables hold. -/
namespace Go.Proofs.YtjnjnccfojfghaaGreatDoor
open Go.RowKit
set_option linter.unusedVariables false
theorem bs_isE (l : Tx) : (bs l).toList.isEmpty = l.isEmpty := by rw [bs_nil]
theorem bs_eqL (a b : Tx) : ((bs a).toList == (bs b).toList) = decide (a = b) := bs_eqB
theorem odd_walk (l : Tx) (w : World) : Calls Tryz.prog 152 #[.string (bs l), .func (.func 151) #[] #[]] w fun e w' => Below w.heap.size w w' ∧ ∃ z : Int, e = .returned (.int .i64 z) ∧ decide (0 ≤ z) = oddM l := by
  refine (Tryz.strings_IndexFunc 151 #[] (enters_of Tryz.func151 (by kernel_rfl) rfl) oddR (bs l) w (odd_clos w)).mono ?_
  rintro e w' ⟨rfl, hb⟩
  exact ⟨hb, _, rfl, rfl⟩
set_option maxRecDepth 4000 in
set_option maxHeartbeats 4000000 in
theorem may_walk (p : PathM) (w : World) (T : TabC w) (h1 : p.loc.length ≤ 1073741824) (h2 : p.dom.length ≤ 1073741824) :
    Calls Tryz.prog 119 #[p.val] w fun e w' => Below w.heap.size w w' ∧ e = .returned (.bool (mayM p)) := by
  obtain ⟨nul, loc, dom, lit⟩ := p
  have e0 : PathM.val ⟨nul, loc, dom, lit⟩ = .agg #[.bool nul, .string (bs loc), .string (bs dom), .bool lit] := rfl
  rw [e0]
  clear e0
  have TW := Lib.hid T
  have HB := Lib.hid (Below.refl w.heap.size w |>.alloc (Nat.le_refl _) (.cells #[.bool nul, .string (bs loc), .string (bs dom), .bool lit] 23))
  have HBK := Lib.hid (Blk.new w 23 #[.bool nul, .string (bs loc), .string (bs dom), .bool lit])
  have HM : Hid (mayM ⟨nul, loc, dom, lit⟩ = if nul then (loc.isEmpty && dom.isEmpty && !lit)
    else if loc = [] then false
    else if oddM loc = true then false
    else if lit then ((addrM dom).isSome && decide (showM (addrN dom) = dom))
    else if dom = [] then decide (loc = postS)
    else (namedM dom && decide (dom.map lowC = dom))) := Lib.hid rfl
  obtain ⟨F, hF⟩ : ∃ F, mayM ⟨nul, loc, dom, lit⟩ = F := ⟨_, rfl⟩
  rw [hF] at HM
  rw [hF]
  clear hF T
  cases nul with
  | true =>
    have hq := path_eq loc dom lit
    have HR : Hid (F = (loc.isEmpty && dom.isEmpty && !lit)) := HM
    rw [← HR.out] at hq
    clear HM HR
    go_enter Tryz.func119, Tryz.ntmps119
    go_wp2_with fail
    go_ret
    exact ⟨HB.out, rfl⟩
  | false =>
    have HM2 : Hid (F = if loc = [] then false else if oddM loc = true then false
      else if lit then ((addrM dom).isSome && decide (showM (addrN dom) = dom))
      else if dom = [] then decide (loc = postS)
      else (namedM dom && decide (dom.map lowC = dom))) := HM
    clear HM
    cases hl : loc with
    | nil =>
      have HR : Hid (F = false) := Lib.hid (by rw [HM2.out, if_pos hl])
      subst hl
      have he : (bs ([] : Tx)).toList = [] := bs_nil []
      go_enter Tryz.func119, Tryz.ntmps119
      go_wp2_with fail
      go_ret
      exact ⟨HB.out, by rw [HR.out]; rfl⟩
    | cons a0 r0 =>
      have hne : loc ≠ [] := by rw [hl]; exact List.cons_ne_nil _ _
      rw [← hl]
      have hee : (bs loc).toList.isEmpty = false := by rw [bs_isE, hl]; rfl
      rw [if_neg hne] at HM2
      have KO := Lib.hid (odd_walk loc)
      have hpost : ((bs loc).toList == (bs postS).toList) = decide (loc = postS) := bs_eqL _ _
      clear hl hne
      cases hod : oddM loc with
      | true =>
        have HR : Hid (F = false) := Lib.hid (by rw [HM2.out, if_pos hod])
        rw [hod] at KO
        clear hod
        go_enter Tryz.func119, Tryz.ntmps119
        go_wp2_with fail
        refine (KO.out _).mono ?_
        rintro e w2 ⟨hb2, z, rfl, hz⟩
        have hz0 : z ≥ 0 := of_decide_eq_true hz
        have HB2 := Lib.hid (HB.out.trans (hb2.mono HB.out.size))
        clear hb2 hz
        go_wp2_with fail
        go_ret
        exact ⟨HB2.out, by rw [HR.out]; rfl⟩
      | false =>
        rw [if_neg (by rw [hod]; decide)] at HM2
        rw [hod] at KO
        clear hod
        cases lit with
        | true =>
          have HR : Hid (F = ((addrM dom).isSome && decide (showM (addrN dom) = dom))) := HM2
          have KA := Lib.hid (fun W TW => addr_any dom W TW h2)
          have KS := Lib.hid (fun (n : NetM) (h : n.ok) W TW => show_walk n h W TW)
          have hsd : ((bs (showM (addrN dom))).toList == (bs dom).toList) = decide (showM (addrN dom) = dom) := bs_eqL _ _
          generalize addrN dom = n at *
          generalize decide (showM n = dom) = D at *
          clear hpost HM2
          obtain ⟨E, hE⟩ : ∃ E : Int, (if (addrM dom).isSome = true then (0 : Int) else 70) = E := ⟨_, rfl⟩
          rw [hE] at KA
          have hE0 : (E == 0) = (addrM dom).isSome := by
            rw [← hE]
            cases (addrM dom).isSome <;> rfl
          generalize (addrM dom).isSome = B at *
          clear hE
          cases B <;>
          · go_enter Tryz.func119, Tryz.ntmps119
            go_wp2_with fail
            refine (KO.out _).mono ?_
            rintro e w2 ⟨hb2, z, rfl, hz⟩
            have hz0 : ¬ z ≥ 0 := of_decide_eq_false hz
            have HB2 := Lib.hid (HB.out.trans (hb2.mono HB.out.size))
            have HK2 := Lib.hid (HBK.out.keep hb2)
            have k2 : w2.cell? ⟨w.heap.size, 2, none⟩ = some (.string (bs dom)) := HK2.out.cell 2
            have k3 : w2.cell? ⟨w.heap.size, 3, none⟩ = some (.bool true) := HK2.out.cell 3
            clear hb2 hz
            go_wp2_with fail
            refine (KA.out _ (TW.out.keep HB2.out)).mono ?_
            rintro e w3 ⟨hb3, hok, rfl⟩
            have HOK := Lib.hid hok
            have HB3 := Lib.hid (HB2.out.trans (hb3.mono HB2.out.size))
            have HK3 := Lib.hid (HK2.out.keep hb3)
            have hlt3 : w.heap.size < w3.heap.size := HK3.out.lt
            have HA3 := Lib.hid (Blk.new w3 90 zn)
            clear hb3 hok k2 k3
            go_wp2_with (first
              | (refine wpList_storeN _ _ _ w3.heap.size zn _ rfl rfl rfl rfl rfl HA3.out rfl (NetM.cells_size HOK.out.len) (NetM.cells_one _) ?_; intro w4 hb4 ho4; have HB4 := Lib.hid hb4; have HO4 := Lib.hid ho4; clear hb4 ho4)
              | refine wpList_loadN _ _ w3.heap.size _ rfl rfl rfl HB4.out (NetM.cells_size HOK.out.len) ?_)
            have HW4 := Lib.hid ((HB3.out.alloc HB3.out.size _).trans (HO4.out.to_below HA3.out.lt (Nat.le_of_lt hlt3)))
            have HK4 := Lib.hid ((HK3.out.alloc _).only HO4.out (by omega))
            refine (KS.out _ HOK.out _ (TW.out.keep HW4.out)).mono ?_
            rintro e w5 ⟨hb5, rfl⟩
            have HB5 := Lib.hid (HW4.out.trans (hb5.mono HW4.out.size))
            have k2 : w5.cell? ⟨w.heap.size, 2, none⟩ = some (.string (bs dom)) := (HK4.out.keep hb5).cell 2
            clear hb5
            go_wp2_with fail
            go_ret
            refine ⟨HB5.out, ?_⟩
            rw [HR.out]
            first
            | rfl
            | (show Ending.returned (.bool ((bs (showM n)).toList == (bs dom).toList)) = _; rw [hsd]; rfl)
        | false =>
          have HM3 : Hid (F = if dom = [] then decide (loc = postS) else (namedM dom && decide (dom.map lowC = dom))) := HM2
          clear HM2
          cases hd : dom with
          | nil =>
            have HR : Hid (F = decide (loc = postS)) := Lib.hid (by rw [HM3.out, if_pos hd])
            subst hd
            have he : (bs ([] : Tx)).toList = [] := bs_nil []
            have hp : (bs postS).toList = [112, 111, 115, 116, 109, 97, 115, 116, 101, 114] := bs_nil _
            rw [hp] at hpost
            rw [← HR.out] at hpost
            clear hp
            go_enter Tryz.func119, Tryz.ntmps119
            go_wp2_with fail
            refine (KO.out _).mono ?_
            rintro e w2 ⟨hb2, z, rfl, hz⟩
            have hz0 : ¬ z ≥ 0 := of_decide_eq_false hz
            have HB2 := Lib.hid (HB.out.trans (hb2.mono HB.out.size))
            have HK2 := Lib.hid (HBK.out.keep hb2)
            have k1 : w2.cell? ⟨w.heap.size, 1, none⟩ = some (.string (bs loc)) := HK2.out.cell 1
            have k2 : w2.cell? ⟨w.heap.size, 2, none⟩ = some (.string (bs [])) := HK2.out.cell 2
            have k3 : w2.cell? ⟨w.heap.size, 3, none⟩ = some (.bool false) := HK2.out.cell 3
            clear hb2 hz
            go_wp2_with fail
            go_ret
            exact ⟨HB2.out, rfl⟩
          | cons a1 r1 =>
            have hne2 : dom ≠ [] := by rw [hd]; exact List.cons_ne_nil _ _
            rw [← hd]
            have hee2 : (bs dom).toList.isEmpty = false := by rw [bs_isE, hd]; rfl
            have HR : Hid (F = (namedM dom && decide (dom.map lowC = dom))) := Lib.hid (by rw [HM3.out, if_neg hne2])
            have hlw : ((bs (dom.map lowC)).toList == (bs dom).toList) = decide (dom.map lowC = dom) := bs_eqL _ _
            clear hd hne2 hpost HM3
            generalize decide (dom.map lowC = dom) = D at *
            have KN0 := Lib.hid (fun W (TW : TabC W) => named_walk dom (Classical.choose TW.ml) W (Classical.choose_spec TW.ml) h2)
            have KL0 := Lib.hid (fun W => lower_walk dom W (Nat.le_trans h2 (by decide)))
            obtain ⟨S, hS⟩ : ∃ S, bs (dom.map lowC) = S := ⟨_, rfl⟩
            rw [hS] at hlw KL0
            clear hS
            cases hnm : namedM dom <;>
            · rw [hnm] at HR KN0
              go_enter Tryz.func119, Tryz.ntmps119
              go_wp2_with fail
              refine (KO.out _).mono ?_
              rintro e w2 ⟨hb2, z, rfl, hz⟩
              have hz0 : ¬ z ≥ 0 := of_decide_eq_false hz
              have HB2 := Lib.hid (HB.out.trans (hb2.mono HB.out.size))
              have HK2 := Lib.hid (HBK.out.keep hb2)
              have k2 : w2.cell? ⟨w.heap.size, 2, none⟩ = some (.string (bs dom)) := HK2.out.cell 2
              have k3 : w2.cell? ⟨w.heap.size, 3, none⟩ = some (.bool false) := HK2.out.cell 3
              have hwl : w.heap.size < w2.heap.size := HK2.out.lt
              clear hb2 hz
              have kk2 := fun n : Over w2.heap.size w2 => (n.ok.cell (p := ⟨w.heap.size, 2, none⟩) hwl).trans k2
              have KN := Lib.hid (fun n : Over w2.heap.size w2 => KN0.out n.v ((TW.out.keep HB2.out).keep n.ok))
              have KL := Lib.hid (fun n : Over w2.heap.size w2 => KL0.out n.v)
              go_upto_region 12 with fail
              refine wp_region_below w2.heap.size (by kernel_rfl) (by kernel_rfl) ?_
              repeat (go_big_quiet_step (first | (go_at_call 48; go_loud (with_reducible exact calls_over _ (KN.out _) (Nat.le_refl _))) | (go_at_call 45; go_loud (with_reducible exact calls_over _ (KL.out _) (Nat.le_refl _)))))
              refine wpQuiet_nil ?_
              rintro w7 ⟨⟨_, hb7⟩, rfl⟩
              have HB7 := Lib.hid (HB2.out.trans (hb7.mono HB2.out.size))
              clear hb7 kk2
              go_wp2_with fail
              go_ret
              refine ⟨HB7.out, ?_⟩
              rw [HR.out]
              first
              | rfl
              | (show Ending.returned (.bool (S.toList == (bs dom).toList)) = _; rw [hlw]; rfl)
end Go.Proofs.YtjnjnccfojfghaaGreatDoor

/-! The walks of path.shown, Right, Show, Angle. Condition: the texts' lengths, what the tables hold. -/
namespace Go.Proofs.YtjnjnccfojfghaaGreatDoor
open Go.RowKit
set_option linter.unusedVariables false
def sixT (b : Bool) : Tx := if b then [73, 80, 118, 54, 58] else []
def shownM (p : PathM) : Tx :=
  if p.nul then []
  else if p.lit then formM p.loc ++ [64, 91] ++ sixT (addrN p.dom).six ++ p.dom ++ [93]
  else if p.dom = [] then formM p.loc
  else formM p.loc ++ [64] ++ p.dom
theorem shownM_len (p : PathM) (h1 : p.loc.length ≤ 1073741824) (h2 : p.dom.length ≤ 1073741824) : (shownM p).length ≤ 8589934592 := by
  have hf := formM_len p.loc
  have hs : (sixT (addrN p.dom).six).length ≤ 5 := by unfold sixT; split <;> simp
  unfold shownM
  repeat' split
  all_goals (try simp only [List.length_append, List.length_cons, List.length_nil])
  all_goals omega
set_option maxRecDepth 4000 in
set_option maxHeartbeats 4000000 in
theorem shown_walk (p : PathM) (w : World) (T : TabC w) (h1 : p.loc.length ≤ 1073741824) (h2 : p.dom.length ≤ 1073741824) :
    Calls Tryz.prog 86 #[p.val] w fun e w' => Below w.heap.size w w' ∧ e = .returned (.string (bs (shownM p))) := by
  obtain ⟨nul, loc, dom, lit⟩ := p
  have e0 : PathM.val ⟨nul, loc, dom, lit⟩ = .agg #[.bool nul, .string (bs loc), .string (bs dom), .bool lit] := rfl
  rw [e0]
  clear e0
  have TW := Lib.hid T
  have HB := Lib.hid (Below.refl w.heap.size w |>.alloc (Nat.le_refl _) (.cells #[.bool nul, .string (bs loc), .string (bs dom), .bool lit] 23))
  have HBK := Lib.hid (Blk.new w 23 #[.bool nul, .string (bs loc), .string (bs dom), .bool lit])
  have HM : Hid (shownM ⟨nul, loc, dom, lit⟩ = if nul then [] else if lit then formM loc ++ [64, 91] ++ sixT (addrN dom).six ++ dom ++ [93] else if dom = [] then formM loc else formM loc ++ [64] ++ dom) := Lib.hid rfl
  obtain ⟨F, hF⟩ : ∃ F, shownM ⟨nul, loc, dom, lit⟩ = F := ⟨_, rfl⟩
  rw [hF] at HM
  rw [hF]
  have KF0 := Lib.hid (fun W (TW : TabC W) => form_walk loc W TW h1)
  have hfs : (bs (formM loc)).size ≤ 5000000000 := by rw [bs_size]; have := formM_len loc; have h3 : loc.length ≤ 1073741824 := h1; omega
  have hds : (bs dom).size ≤ 2000000000 := by rw [bs_size]; have h3 : dom.length ≤ 1073741824 := h2; omega
  generalize formM loc = fl at *
  clear hF T
  cases nul with
  | true =>
    have HR : Hid (F = []) := HM
    go_enter Tryz.func86, Tryz.ntmps86
    go_wp2_with fail
    go_ret
    exact ⟨HB.out, by rw [HR.out]; rfl⟩
  | false =>
    cases lit with
    | true =>
      have HR : Hid (F = fl ++ [64, 91] ++ sixT (addrN dom).six ++ dom ++ [93]) := HM
      have KA := Lib.hid (fun W TW => addr_any dom W TW h2)
      generalize addrN dom = n at *
      generalize (if (addrM dom).isSome = true then (0 : Int) else 70) = E at *
      clear HM
      obtain ⟨six, bits, addr⟩ := n
      cases six <;>
      · go_enter Tryz.func86, Tryz.ntmps86
        go_wp2_with fail
        refine (KA.out _ (TW.out.keep HB.out)).mono ?_
        rintro e w3 ⟨hb3, hok, rfl⟩
        have HOK := Lib.hid hok
        have HB3 := Lib.hid (HB.out.trans (hb3.mono HB.out.size))
        have HK3 := Lib.hid (HBK.out.keep hb3)
        have hlt3 : w.heap.size < w3.heap.size := HK3.out.lt
        have HA3 := Lib.hid (Blk.new w3 90 zn)
        clear hb3 hok
        go_upto_region 5 with (first
          | (refine wpList_storeN _ _ _ w3.heap.size zn _ rfl rfl rfl rfl rfl HA3.out rfl (NetM.cells_size HOK.out.len) (NetM.cells_one _) ?_; intro w4 hb4 ho4; have HB4 := Lib.hid hb4; have HO4 := Lib.hid ho4; clear hb4 ho4))
        have HW4 := Lib.hid ((HB3.out.alloc HB3.out.size _).trans (HO4.out.to_below HA3.out.lt (Nat.le_of_lt hlt3)))
        have HK4 := Lib.hid ((HK3.out.alloc _).only HO4.out (by omega))
        have k0 := HB4.out.cell 0
        rw [show ∀ b, (NetM.cells ⟨b, bits, addr⟩)[0]? = some (.bool b) from fun _ => rfl] at k0
        go_upto_region 8 with fail
        have hwl : w.heap.size < w4.heap.size := HK4.out.lt
        have kk1 := fun n : Over w4.heap.size w4 => (n.ok.cell (p := ⟨w.heap.size, 1, none⟩) hwl).trans (HK4.out.cell 1)
        have kk2 := fun n : Over w4.heap.size w4 => (n.ok.cell (p := ⟨w.heap.size, 2, none⟩) hwl).trans (HK4.out.cell 2)
        have kk1 : ∀ n : Over w4.heap.size w4, n.v.cell? ⟨w.heap.size, 1, none⟩ = some (.string (bs loc)) := kk1
        have kk2 : ∀ n : Over w4.heap.size w4, n.v.cell? ⟨w.heap.size, 2, none⟩ = some (.string (bs dom)) := kk2
        have KF := Lib.hid (fun n : Over w4.heap.size w4 => KF0.out n.v ((TW.out.keep HW4.out).keep n.ok))
        refine wp_region_below w4.heap.size (by kernel_rfl) (by kernel_rfl) ?_
        repeat (go_big_quiet_step ((go_at_call 120; go_loud (with_reducible exact calls_over _ (KF.out _) (Nat.le_refl _)))))
        refine wpQuiet_nil ?_
        rintro w7 ⟨⟨_, hb7⟩, rfl⟩
        have HB7 := Lib.hid (HW4.out.trans (hb7.mono HW4.out.size))
        clear hb7 kk1 kk2
        go_wp2_with fail
        go_ret
        refine ⟨HB7.out, ?_⟩
        rw [HR.out]
        show Ending.returned (.string _) = Ending.returned (.string _)
        congr 2
    | false =>
      have HM3 : Hid (F = if dom = [] then fl else fl ++ [64] ++ dom) := HM
      clear HM
      cases hd : dom with
      | nil =>
        have HR : Hid (F = fl) := Lib.hid (by rw [HM3.out, if_pos hd])
        subst hd
        have he : (bs ([] : Tx)).toList = [] := bs_nil []
        go_enter Tryz.func86, Tryz.ntmps86
        go_wp2_with fail
        refine (KF0.out _ (TW.out.keep HB.out)).mono ?_
        rintro e w3 ⟨hb3, rfl⟩
        have HB3 := Lib.hid (HB.out.trans (hb3.mono HB.out.size))
        clear hb3
        go_wp2_with fail
        go_ret
        exact ⟨HB3.out, by rw [HR.out]; rfl⟩
      | cons a1 r1 =>
        have hne2 : dom ≠ [] := by rw [hd]; exact List.cons_ne_nil _ _
        rw [← hd]
        have hee2 : (bs dom).toList.isEmpty = false := by rw [bs_isE, hd]; rfl
        have HR : Hid (F = fl ++ [64] ++ dom) := Lib.hid (by rw [HM3.out, if_neg hne2])
        clear hd hne2 HM3
        go_enter Tryz.func86, Tryz.ntmps86
        go_upto_region 11 with fail
        have hwl : w.heap.size < (w.alloc (.cells #[.bool false, .string (bs loc), .string (bs dom), .bool false] 23)).heap.size := HBK.out.lt
        have kk1 := fun n : Over (w.alloc (.cells #[.bool false, .string (bs loc), .string (bs dom), .bool false] 23)).heap.size (w.alloc (.cells #[.bool false, .string (bs loc), .string (bs dom), .bool false] 23)) => (n.ok.cell (p := ⟨w.heap.size, 1, none⟩) hwl).trans (HBK.out.cell 1)
        have kk2 := fun n : Over (w.alloc (.cells #[.bool false, .string (bs loc), .string (bs dom), .bool false] 23)).heap.size (w.alloc (.cells #[.bool false, .string (bs loc), .string (bs dom), .bool false] 23)) => (n.ok.cell (p := ⟨w.heap.size, 2, none⟩) hwl).trans (HBK.out.cell 2)
        have kk1 : ∀ n : Over (w.alloc (.cells #[.bool false, .string (bs loc), .string (bs dom), .bool false] 23)).heap.size (w.alloc (.cells #[.bool false, .string (bs loc), .string (bs dom), .bool false] 23)), n.v.cell? ⟨w.heap.size, 1, none⟩ = some (.string (bs loc)) := kk1
        have kk2 : ∀ n : Over (w.alloc (.cells #[.bool false, .string (bs loc), .string (bs dom), .bool false] 23)).heap.size (w.alloc (.cells #[.bool false, .string (bs loc), .string (bs dom), .bool false] 23)), n.v.cell? ⟨w.heap.size, 2, none⟩ = some (.string (bs dom)) := kk2
        have KF := Lib.hid (fun n : Over (w.alloc (.cells #[.bool false, .string (bs loc), .string (bs dom), .bool false] 23)).heap.size (w.alloc (.cells #[.bool false, .string (bs loc), .string (bs dom), .bool false] 23)) => KF0.out n.v ((TW.out.keep HB.out).keep n.ok))
        refine wp_region_below (w.alloc (.cells #[.bool false, .string (bs loc), .string (bs dom), .bool false] 23)).heap.size (by kernel_rfl) (by kernel_rfl) ?_
        repeat (go_big_quiet_step ((go_at_call 120; go_loud (with_reducible exact calls_over _ (KF.out _) (Nat.le_refl _)))))
        refine wpQuiet_nil ?_
        rintro w7 ⟨⟨_, hb7⟩, rfl⟩
        have HB7 := Lib.hid (HB.out.trans (hb7.mono HB.out.size))
        clear hb7 kk1 kk2
        go_wp2_with fail
        go_ret
        refine ⟨HB7.out, ?_⟩
        rw [HR.out]
        show Ending.returned (.string _) = Ending.returned (.string _)
        congr 2
def rightM (p : PathM) : Nat :=
  if mayM p = false then 90
  else if p.nul then 0
  else if (formM p.loc).length > 64 then 91
  else if p.lit = false ∧ p.dom.length > 255 then 91
  else if (shownM p).length + 2 > 256 then 91
  else 0
set_option maxRecDepth 4000 in
set_option maxHeartbeats 4000000 in
theorem pright_walk (p : PathM) (w : World) (T : TabC w) (h1 : p.loc.length ≤ 1073741824) (h2 : p.dom.length ≤ 1073741824) :
    Calls Tryz.prog 85 #[p.val] w fun e w' => Below w.heap.size w w' ∧ e = .returned (.int .i64 (rightM p : Int)) := by
  have KM := Lib.hid (fun W TW => may_walk p W TW h1 h2)
  have KF := Lib.hid (fun W TW => form_walk p.loc W TW h1)
  have KS := Lib.hid (fun W TW => shown_walk p W TW h1 h2)
  have HR0 : Hid (rightM p = if mayM p = false then 90 else if p.nul then 0 else if (formM p.loc).length > 64 then 91 else if p.lit = false ∧ p.dom.length > 255 then 91 else if (shownM p).length + 2 > 256 then 91 else 0) := Lib.hid rfl
  have hfs : ((bs (formM p.loc)).size : Int) = ((formM p.loc).length : Int) := by rw [bs_size]
  have hss : ((bs (shownM p)).size : Int) = ((shownM p).length : Int) := by rw [bs_size]
  have hsl := shownM_len p h1 h2
  generalize mayM p = M at *
  generalize shownM p = S at *
  obtain ⟨R, hR⟩ : ∃ R, rightM p = R := ⟨_, rfl⟩
  rw [hR] at HR0
  rw [hR]
  clear hR
  obtain ⟨nul, loc, dom, lit⟩ := p
  have e0 : PathM.val ⟨nul, loc, dom, lit⟩ = .agg #[.bool nul, .string (bs loc), .string (bs dom), .bool lit] := rfl
  rw [e0] at KM KS ⊢
  clear e0
  simp only [] at HR0 hfs hss KF h1 h2
  have hds : ((bs dom).size : Int) = (dom.length : Int) := by rw [bs_size]
  generalize formM loc = fl at *
  have HR1 : Hid (R = if M = false then 90 else if nul = true then 0 else if fl.length > 64 then 91 else if lit = false ∧ dom.length > 255 then 91 else if S.length + 2 > 256 then 91 else 0) := HR0
  have TW := Lib.hid T
  have HB := Lib.hid (Below.refl w.heap.size w |>.alloc (Nat.le_refl _) (.cells #[.bool nul, .string (bs loc), .string (bs dom), .bool lit] 23))
  have HBK := Lib.hid (Blk.new w 23 #[.bool nul, .string (bs loc), .string (bs dom), .bool lit])
  clear HR0 T
  go_enter Tryz.func85, Tryz.ntmps85
  go_wp2_with fail
  refine (KM.out _ (TW.out.keep HB.out)).mono ?_
  rintro e w2 ⟨hb2, rfl⟩
  have HB2 := Lib.hid (HB.out.trans (hb2.mono HB.out.size))
  have HK2 := Lib.hid (HBK.out.keep hb2)
  have k0 : w2.cell? ⟨w.heap.size, 0, none⟩ = some (.bool nul) := HK2.out.cell 0
  have k1 : w2.cell? ⟨w.heap.size, 1, none⟩ = some (.string (bs loc)) := HK2.out.cell 1
  clear hb2 HB HBK KM
  cases M with
  | false =>
    have HR : Hid (R = 90) := HR1
    go_wp2_with fail
    go_ret
    exact ⟨HB2.out, by rw [HR.out]; rfl⟩
  | true =>
    cases nul with
    | true =>
      have HR : Hid (R = 0) := HR1
      go_wp2_with fail
      go_ret
      exact ⟨HB2.out, by rw [HR.out]; rfl⟩
    | false =>
      have HR2 : Hid (R = if fl.length > 64 then 91 else if lit = false ∧ dom.length > 255 then 91 else if S.length + 2 > 256 then 91 else 0) := HR1
      clear HR1
      go_wp2_with fail
      refine (KF.out _ (TW.out.keep HB2.out)).mono ?_
      rintro e w3 ⟨hb3, rfl⟩
      have HB3 := Lib.hid (HB2.out.trans (hb3.mono HB2.out.size))
      have HK3 := Lib.hid (HK2.out.keep hb3)
      have k0 : w3.cell? ⟨w.heap.size, 0, none⟩ = some (.bool false) := HK3.out.cell 0
      have k1 : w3.cell? ⟨w.heap.size, 1, none⟩ = some (.string (bs loc)) := HK3.out.cell 1
      have k2 : w3.cell? ⟨w.heap.size, 2, none⟩ = some (.string (bs dom)) := HK3.out.cell 2
      have k3 : w3.cell? ⟨w.heap.size, 3, none⟩ = some (.bool lit) := HK3.out.cell 3
      clear hb3 HB2 HK2 KF
      by_cases h64 : fl.length > 64
      · have HR : Hid (R = 91) := Lib.hid (by rw [HR2.out, if_pos h64])
        have h64i : ((fl.length : Int)) > 64 := by omega
        go_wp2_with fail
        go_ret
        exact ⟨HB3.out, by rw [HR.out]; rfl⟩
      · have h64i : ¬ ((fl.length : Int)) > 64 := by omega
        have HR3 : Hid (R = if lit = false ∧ dom.length > 255 then 91 else if S.length + 2 > 256 then 91 else 0) := Lib.hid (by rw [HR2.out, if_neg h64])
        clear HR2 h64
        by_cases hdl : lit = false ∧ dom.length > 255
        · have HR : Hid (R = 91) := Lib.hid (by rw [HR3.out, if_pos hdl])
          obtain ⟨rfl, hd2⟩ := hdl
          have hdi : ((dom.length : Int)) > 255 := by omega
          go_wp2_with fail
          go_ret
          exact ⟨HB3.out, by rw [HR.out]; rfl⟩
        · have HR4 : Hid (R = if S.length + 2 > 256 then 91 else 0) := Lib.hid (by rw [HR3.out, if_neg hdl])
          have hcase : lit = true ∨ lit = false ∧ ¬ ((dom.length : Int)) > 255 := by
            cases lit with
            | true => exact .inl rfl
            | false => exact .inr ⟨rfl, fun h => hdl ⟨rfl, by omega⟩⟩
          clear hdl HR3
          rcases hcase with rfl | ⟨rfl, hdi⟩ <;>
          · go_wp2_with fail
            refine (KS.out _ (TW.out.keep HB3.out)).mono ?_
            rintro e w4 ⟨hb4, rfl⟩
            have HB4 := Lib.hid (HB3.out.trans (hb4.mono HB3.out.size))
            clear hb4
            by_cases hS : S.length + 2 > 256
            · have hSi : (S.length : Int) + 2 > 256 := by omega
              have HR : Hid (R = 91) := Lib.hid (by rw [HR4.out, if_pos hS])
              go_wp2_with fail
              go_ret
              exact ⟨HB4.out, by rw [HR.out]; rfl⟩
            · have hSi : ¬ (S.length : Int) + 2 > 256 := by omega
              have HR : Hid (R = 0) := Lib.hid (by rw [HR4.out, if_neg hS])
              go_wp2_with fail
              go_ret
              exact ⟨HB4.out, by rw [HR.out]; rfl⟩
end Go.Proofs.YtjnjnccfojfghaaGreatDoor

/-! The walks of path.Show, Angle. Condition: the texts' lengths, what the tables hold. -/
namespace Go.Proofs.YtjnjnccfojfghaaGreatDoor
open Go.RowKit
set_option linter.unusedVariables false
def pshowT (p : PathM) : Tx := if rightM p = 0 then shownM p else []
def angleT (p : PathM) : Tx := if rightM p = 0 then 60 :: (shownM p ++ [62]) else []
set_option maxHeartbeats 4000000 in
theorem pshow_walk (p : PathM) (w : World) (T : TabC w) (h1 : p.loc.length ≤ 1073741824) (h2 : p.dom.length ≤ 1073741824) :
    Calls Tryz.prog 49 #[p.val] w fun e w' => Below w.heap.size w w' ∧ e = .returned (.tuple #[.string (bs (pshowT p)), .int .i64 (rightM p : Int)]) := by
  have KR := Lib.hid (fun W TW => pright_walk p W TW h1 h2)
  have KS := Lib.hid (fun W TW => shown_walk p W TW h1 h2)
  have HT : Hid (pshowT p = if rightM p = 0 then shownM p else []) := Lib.hid rfl
  generalize pshowT p = PT at *
  generalize shownM p = S at *
  generalize rightM p = R at *
  obtain ⟨nul, loc, dom, lit⟩ := p
  have e0 : PathM.val ⟨nul, loc, dom, lit⟩ = .agg #[.bool nul, .string (bs loc), .string (bs dom), .bool lit] := rfl
  rw [e0] at KR KS ⊢
  clear e0
  have TW := Lib.hid T
  have HB := Lib.hid (Below.refl w.heap.size w |>.alloc (Nat.le_refl _) (.cells #[.bool nul, .string (bs loc), .string (bs dom), .bool lit] 23))
  have HBK := Lib.hid (Blk.new w 23 #[.bool nul, .string (bs loc), .string (bs dom), .bool lit])
  clear T
  go_enter Tryz.func49, Tryz.ntmps49
  go_wp2_with fail
  refine (KR.out _ (TW.out.keep HB.out)).mono ?_
  rintro e w2 ⟨hb2, rfl⟩
  have HB2 := Lib.hid (HB.out.trans (hb2.mono HB.out.size))
  have HK2 := Lib.hid (HBK.out.keep hb2)
  have k0 : w2.cell? ⟨w.heap.size, 0, none⟩ = some (.bool nul) := HK2.out.cell 0
  have k1 : w2.cell? ⟨w.heap.size, 1, none⟩ = some (.string (bs loc)) := HK2.out.cell 1
  have k2 : w2.cell? ⟨w.heap.size, 2, none⟩ = some (.string (bs dom)) := HK2.out.cell 2
  have k3 : w2.cell? ⟨w.heap.size, 3, none⟩ = some (.bool lit) := HK2.out.cell 3
  clear hb2 HB HBK KR
  by_cases hR : R = 0
  · have hRi : ((R : Int) != 0) = false := by rw [hR]; rfl
    have HR : Hid (PT = S) := Lib.hid (by rw [HT.out, if_pos hR])
    have HRR := Lib.hid hR
    clear hR
    go_wp2_with fail
    refine (KS.out _ (TW.out.keep HB2.out)).mono ?_
    rintro e w4 ⟨hb4, rfl⟩
    have HB4 := Lib.hid (HB2.out.trans (hb4.mono HB2.out.size))
    clear hb4
    go_wp2_with fail
    go_ret2
    exact ⟨HB4.out, by rw [HR.out, HRR.out]; rfl⟩
  · have hRi : ((R : Int) != 0) = true := bne_iff_ne.2 (by omega)
    have HR : Hid (PT = []) := Lib.hid (by rw [HT.out, if_neg hR])
    clear hR
    go_wp2_with fail
    go_ret2
    exact ⟨HB2.out, by rw [HR.out]; rfl⟩
set_option maxHeartbeats 4000000 in
theorem angle_walk (p : PathM) (w : World) (T : TabC w) (h1 : p.loc.length ≤ 1073741824) (h2 : p.dom.length ≤ 1073741824) :
    Calls Tryz.prog 30 #[p.val] w fun e w' => Below w.heap.size w w' ∧ e = .returned (.tuple #[.string (bs (angleT p)), .int .i64 (rightM p : Int)]) := by
  have KS := Lib.hid (fun W TW => pshow_walk p W TW h1 h2)
  have HT : Hid (angleT p = if rightM p = 0 then 60 :: (pshowT p ++ [62]) else []) := Lib.hid (by
    unfold angleT pshowT
    by_cases h : rightM p = 0
    · rw [if_pos h, if_pos h, if_pos h]
    · rw [if_neg h, if_neg h])
  have hsl : (bs (pshowT p)).size ≤ 8589934592 := by
    rw [bs_size]
    unfold pshowT
    split
    · exact shownM_len p h1 h2
    · simp
  generalize angleT p = PT at *
  generalize pshowT p = S at *
  generalize rightM p = R at *
  obtain ⟨nul, loc, dom, lit⟩ := p
  have e0 : PathM.val ⟨nul, loc, dom, lit⟩ = .agg #[.bool nul, .string (bs loc), .string (bs dom), .bool lit] := rfl
  rw [e0] at KS ⊢
  clear e0
  have TW := Lib.hid T
  have HB := Lib.hid (Below.refl w.heap.size w |>.alloc (Nat.le_refl _) (.cells #[.bool nul, .string (bs loc), .string (bs dom), .bool lit] 23))
  clear T
  go_enter Tryz.func30, Tryz.ntmps30
  go_wp2_with fail
  refine (KS.out _ (TW.out.keep HB.out)).mono ?_
  rintro e w2 ⟨hb2, rfl⟩
  have HB2 := Lib.hid (HB.out.trans (hb2.mono HB.out.size))
  clear hb2 HB KS
  by_cases hR : R = 0
  · have hRi : ((R : Int) != 0) = false := by rw [hR]; rfl
    have HR : Hid (PT = 60 :: (S ++ [62])) := Lib.hid (by rw [HT.out, if_pos hR])
    have HRR := Lib.hid hR
    clear hR
    go_wp2_with fail
    go_ret2
    refine ⟨HB2.out, ?_⟩
    rw [HR.out, HRR.out]
    rfl
  · have hRi : ((R : Int) != 0) = true := bne_iff_ne.2 (by omega)
    have HR : Hid (PT = []) := Lib.hid (by rw [HT.out, if_neg hR])
    clear hR
    go_wp2_with fail
    go_ret2
    exact ⟨HB2.out, by rw [HR.out]; rfl⟩
end Go.Proofs.YtjnjnccfojfghaaGreatDoor

/-! The walk of path.Domain. Condition: the text's length, what the tables hold. -/
namespace Go.Proofs.YtjnjnccfojfghaaGreatDoor
open Go.RowKit
set_option linter.unusedVariables false
def innerM (s : Tx) : Tx := (s.drop 1).take (s.length - 2)
def six0M (i : Tx) : Bool := decide (4 < i.length) && decide ((i.take 5).map lowC = [105, 112, 118, 54, 58])
def inner2M (s : Tx) : Tx := if six0M (innerM s) then (innerM s).drop 5 else innerM s
def brackM (s : Tx) : Bool := decide (1 < s.length) && (s.head? == some 91 && s.getLast? == some 93)
def domE (s : Tx) : Nat :=
  if brackM s then (if (addrM (inner2M s)).isSome = true ∧ (addrN (inner2M s)).six = six0M (innerM s) then 0 else 90)
  else if namedM s = false then 90 else if s.length > 255 then 91 else 0
theorem inner2_le (s : Tx) : (inner2M s).length ≤ s.length := by
  have h : (innerM s).length ≤ s.length := by unfold innerM; rw [List.length_take, List.length_drop]; omega
  unfold inner2M
  split
  · rw [List.length_drop]; omega
  · exact h
theorem no_byte {a : UInt8} {k : Nat} (hk : k < 256) (h : ¬ a = k.toUInt8) : ((a.toNat : Int) == (k : Int)) = false := by
  rw [beq_eq_false_iff_ne]
  intro e
  apply h
  have h2 : a.toNat = k := by omega
  rw [← h2]
  simp
/-- what the first look at a text finds -/
def plainC (s : Tx) : Prop := ¬ (s.length : Int) > 1 ∨ (∃ a : UInt8, (s.length : Int) > 1 ∧ (∃ h : 0 < (bs s).size, (bs s)[0]'h = a) ∧ ((a.toNat : Int) == 91) = false) ∨ (∃ (a z : UInt8) (n : Nat), (s.length : Int) > 1 ∧ (∃ h : 0 < (bs s).size, (bs s)[0]'h = a) ∧ ((a.toNat : Int) == 91) = true ∧ s.length = n + 1 ∧ (∃ h : n < (bs s).size, (bs s)[n]'h = z) ∧ ((z.toNat : Int) == 93) = false)
def brackC (s : Tx) : Prop := ∃ (a z : UInt8) (n : Nat), (s.length : Int) > 1 ∧ (∃ h : 0 < (bs s).size, (bs s)[0]'h = a) ∧ ((a.toNat : Int) == 91) = true ∧ s.length = n + 1 ∧ (∃ h : n < (bs s).size, (bs s)[n]'h = z) ∧ ((z.toNat : Int) == 93) = true
theorem brack_case (s : Tx) : (brackM s = false ∧ plainC s) ∨ (brackM s = true ∧ brackC s) := by
  cases s with
  | nil => exact .inl ⟨rfl, .inl (by decide)⟩
  | cons a r =>
    obtain ⟨n, hn⟩ : ∃ n, r.length = n := ⟨_, rfl⟩
    have hl : (a :: r).length = n + 1 := by rw [List.length_cons, hn]
    have hsz : (bs (a :: r)).size = n + 1 := by rw [bs_size, hl]
    have hz1 : n < (a :: r).length := by omega
    obtain ⟨z, hz⟩ : ∃ z, (a :: r)[n]'hz1 = z := ⟨_, rfl⟩
    have hlast : (a :: r).getLast? = some z := by
      rw [List.getLast?_eq_getElem?, hl, Nat.add_sub_cancel, List.getElem?_eq_getElem hz1, hz]
    have hB : brackM (a :: r) = (decide (1 < n + 1) && (a == 91 && z == 93)) := by
      unfold brackM
      rw [hlast, hl]
      rfl
    rw [hB]
    by_cases h1 : 1 < n + 1
    · rw [decide_eq_true h1]
      by_cases ha : a = 91
      · by_cases hz3 : z = 93
        · refine .inr ⟨by rw [ha, hz3]; rfl, a, z, n, by omega, ⟨by omega, rfl⟩, by rw [ha]; rfl, hl, ⟨by omega, hz⟩, by rw [hz3]; rfl⟩
        · refine .inl ⟨by rw [beq_eq_false_iff_ne.2 hz3]; simp, .inr (.inr ⟨a, z, n, by omega, ⟨by omega, rfl⟩, by rw [ha]; rfl, hl, ⟨by omega, hz⟩, no_byte (k := 93) (by decide) hz3⟩)⟩
      · exact .inl ⟨by rw [beq_eq_false_iff_ne.2 ha]; rfl, .inr (.inl ⟨a, by omega, ⟨by omega, rfl⟩, no_byte (k := 91) (by decide) ha⟩)⟩
    · exact .inl ⟨by rw [decide_eq_false h1]; rfl, .inl (by omega)⟩
set_option maxRecDepth 4000 in
set_option maxHeartbeats 4000000 in
theorem domain_plain (s : Tx) (hb : brackM s = false) (hcase : plainC s) (w : World) (T : TabC w) (hs : s.length ≤ 1073741824) :
    Calls Tryz.prog 29 #[.string (bs s)] w fun e w' => Below w.heap.size w w' ∧ ∃ f b, e = .returned (.tuple #[.string f, .bool b, .int .i64 (domE s : Int)]) := by
  have HR0 : Hid (domE s = if namedM s = false then 90 else if s.length > 255 then 91 else 0) := Lib.hid (by unfold domE; rw [hb]; rfl)
  have KN0 : Hid (Calls Tryz.prog 48 #[.string (bs s)] w fun e w' => Below w.heap.size w w' ∧ e = .returned (.bool (namedM s))) := by
    obtain ⟨m, hm⟩ := T.ml
    exact Lib.hid (named_walk s m w hm hs)
  have KL := Lib.hid (fun W => lower_walk s W (Nat.le_trans hs (by decide)))
  have hszi : ((bs s).size : Int) = (s.length : Int) := by rw [bs_size]
  have hsz := bs_size s
  generalize domE s = R at *
  generalize namedM s = N at *
  generalize bs (s.map lowC) = LS at *
  clear hb T
  unfold plainC at hcase
  rcases hcase with h1 | ⟨a, h1, ⟨hp0, hg0⟩, h91⟩ | ⟨a, z, n, h1, ⟨hp0, hg0⟩, h91, hl, ⟨hpn, hgn⟩, h93⟩
  case' inr.inr =>
    have hni : (s.length : Int) - 1 = (n : Int) := by omega
    have hnl : (n : Int) < (s.length : Int) := by omega
  all_goals
    go_enter Tryz.func29, Tryz.ntmps29
    go_wp2_with fail
    refine KN0.out.mono ?_
    rintro e w2 ⟨hb2, rfl⟩
    have HB2 := Lib.hid hb2
    clear hb2
    cases N with
    | false =>
      have HR : Hid (R = 90) := HR0
      go_wp2_with fail
      go_ret3
      exact ⟨HB2.out, _, _, by rw [HR.out]; rfl⟩
    | true =>
      by_cases h255 : s.length > 255
      · have HR : Hid (R = 91) := Lib.hid (by rw [HR0.out]; exact if_pos h255)
        have h255i : (s.length : Int) > 255 := by omega
        go_wp2_with fail
        go_ret3
        exact ⟨HB2.out, _, _, by rw [HR.out]; rfl⟩
      · have HR : Hid (R = 0) := Lib.hid (by rw [HR0.out]; exact if_neg h255)
        have h255i : ¬ (s.length : Int) > 255 := by omega
        go_wp2_with fail
        refine (KL.out _).mono ?_
        rintro e w3 ⟨hb3, rfl⟩
        have HB3 := Lib.hid (HB2.out.trans (hb3.mono HB2.out.size))
        clear hb3
        go_wp2_with fail
        go_ret3
        exact ⟨HB3.out, _, _, by rw [HR.out]; rfl⟩
end Go.Proofs.YtjnjnccfojfghaaGreatDoor
