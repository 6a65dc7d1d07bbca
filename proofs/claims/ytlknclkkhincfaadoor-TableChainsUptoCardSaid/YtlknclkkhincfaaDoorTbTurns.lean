/-
  The walk of TableTurns. Conditions: the sizes; the tables.
-/
import Derived.Test.YtlknclkkhincfaaDoorTbLaw2
import Derived.Test.YtlknclkkhincfaaDoorTbEx
import Derived.Test.YtlknclkkhincfaaDoorLibAll
import Derived.Deep.CutBlock
import Derived.Deep.DeepCutAuto
namespace Go.Proofs.YtlknclkkhincfaaDoor
open Go.RowKit
set_option linter.unusedVariables false
theorem uxR : UX Tryd.prog 34 40 2 := by
  obtain ⟨i, h1, h2, h3, h4⟩ := info_parts (show (Tryd.prog.info? 40).map (fun i => (i.zero, i.size, i.bytes)) = some (some (.agg #[.string ⟨#[]⟩, .string ⟨#[]⟩]), 2, 32) by kernel_rfl)
  exact ⟨Tryd.underlying34, ⟨i, _, h1, h2, rfl, h3, by omega⟩, by omega⟩
theorem news2 (w : World) (E : TypeId) (x y : Value) : ∀ ad, (some (⟨w.heap.size, 0, none⟩ : Addr)) = some ad → ∀ j u, ([x, y] : List Value)[j]? = some u → (w.alloc (.cells #[x, y] E)).cell? (ad.add j) = some u := news_of w E [x, y]
theorem own_snoc {L : List En} {e : En} {i : Nat} (h : Own L) (hp : plainB e.k e.v = true) (hl : L.length ≤ i) (hi : i < 60) (hd : ∀ t x, t < L.length → L[t]? = some x → x.k.map lowC ≠ e.k.map lowC) : Own (L ++ [e]) := by
  refine ⟨fun x hx => ?_, ?_, by rw [List.length_append]; simp; omega⟩
  · rcases List.mem_append.1 hx with hx | hx
    · exact h.pl x hx
    · obtain rfl : x = e := by simpa using hx
      exact hp
  · rw [List.pairwise_append]
    refine ⟨h.pw, by simp, fun a ha b hb => ?_⟩
    obtain rfl : b = e := by simpa using hb
    obtain ⟨t, ht, rfl⟩ := List.mem_iff_getElem.1 ha
    exact hd t _ ht (List.getElem?_eq_getElem ht)
theorem bs_ne {a b : List UInt8} (h : a ≠ b) : (bs a).toList ≠ (bs b).toList := by rw [bs_nil, bs_nil]; exact h
theorem re_cells {w : World} {A : Option Addr} {T : List En} (h : RE w A T) {j : Nat} {x : En} (hx : T[j]? = some x) : ∃ b off, A = some ⟨b, off, none⟩ ∧ b < w.heap.size ∧ w.cell? ⟨b, off + j * 2, none⟩ = some (.string (bs x.k)) ∧ w.cell? ⟨b, off + j * 2 + 1, none⟩ = some (.string (bs x.v)) := by
  rcases h with h | ⟨b, off, rfl, hlt, hc⟩
  · rw [h] at hx; simp at hx
  · obtain ⟨h1, h2⟩ := hc j x hx
    exact ⟨b, off, rfl, hlt, h1, h2⟩
def Dif (bo : Bool) (x : En) (own : List En) (t : Nat) : Prop := bo = true → plainB x.k x.v = true ∧ ∀ q y, q < t → own[q]? = some y → y.k.map lowC ≠ x.k.map lowC
theorem Dif.no (x : En) (own : List En) (t : Nat) : Dif false x own t := fun h => by cases h
theorem rlower_call (l : List UInt8) (w : World) (h : l.length ≤ maxLen) : Calls Tryd.prog 13 #[.string (bs l)] w fun e w' => Below w.heap.size w w' ∧ e = .returned (.string (bs (l.map lowC))) := by
  have h := rlower_walk (bs l) w (by rw [bs_size]; exact h)
  rw [bs_list] at h
  exact h
theorem one_bs (l : List UInt8) (i : Nat) (h : i < l.length) : (bs l).extract i (i + 1) = bs [l[i]] := by
  apply ByteArray.ext
  apply Array.ext'
  rw [ByteArray.data_extract]
  simp only [bs, Array.toList_extract, List.extract_eq_take_drop]
  rw [show i + 1 - i = 1 by omega, List.drop_eq_getElem_cons h]
  rfl
/-- the entries, turned -/
def rotE (own : List En) (t : Nat) : List En := own.drop t ++ own.take t
theorem rotE_perm (own : List En) (t : Nat) : (rotE own t).Perm own := by
  unfold rotE
  have h := List.perm_append_comm (l₁ := own.drop t) (l₂ := own.take t)
  rw [List.take_append_drop] at h
  exact h
theorem rotE_at {own : List En} {t i : Nat} (ht : t ≤ own.length) (hi : i < own.length) : (rotE own t)[i]? = own[(i + t) % own.length]? := by
  unfold rotE
  by_cases h : i < own.length - t
  · rw [List.getElem?_append_left (by rw [List.length_drop]; exact h), List.getElem?_drop, Nat.mod_eq_of_lt (by omega)]
    congr 1; omega
  · have e : (i + t) % own.length = i + t - own.length := by
      rw [Nat.mod_eq_sub_mod (by omega), Nat.mod_eq_of_lt (by omega)]
    rw [List.getElem?_append_right (by rw [List.length_drop]; omega), List.length_drop, List.getElem?_take_of_lt (by omega), e]
    congr 1; omega
theorem rotE_len {own : List En} {t : Nat} (ht : t ≤ own.length) : (rotE own t).length = own.length := (rotE_perm own t).length_eq
theorem one_step {L : List En} {i : Nat} {x : En} (hx : L[i]? = some x) : oneT (L.take (i + 1)) = oneT (L.take i) ++ x.k ++ [32] ++ x.v ++ [10] := by
  obtain ⟨h, rfl⟩ := List.getElem?_eq_some_iff.1 hx
  rw [List.take_succ_eq_append_getElem h]
  unfold oneT
  rw [List.map_append, List.flatten_append]
  simp only [List.map_cons, List.map_nil, List.flatten_cons, List.flatten_nil, List.append_nil, List.append_assoc]
theorem two_step {L : List En} {i : Nat} {x : En} {m : List UInt8} (hx : L[i]? = some x) : pre2 ++ twoT m (L.take (i + 1)) = pre2 ++ twoT m (L.take i) ++ x.k ++ m ++ x.v ++ m ++ suf2 := by
  obtain ⟨h, rfl⟩ := List.getElem?_eq_some_iff.1 hx
  rw [List.take_succ_eq_append_getElem h]
  unfold twoT
  rw [List.map_append, List.flatten_append]
  simp only [List.map_cons, List.map_nil, List.flatten_cons, List.flatten_nil, List.append_nil, List.append_assoc]
set_option maxRecDepth 100000 in
set_option maxHeartbeats 4000000 in
theorem turns_walk (w : World) (A : Option Addr) (n c : Nat) (L : List En) (hn : n = L.length) (hr : RE w A L) (hc : n ≤ c) (hm : c ≤ maxLen) (hL : ∀ e ∈ L, e.k.length ≤ maxLen ∧ e.v.length ≤ 9223372036854775807)
    (turn : Int) (ht1 : -9223372036854775808 ≤ turn) (ht2 : turn ≤ 9223372036854775807) (bl : List UInt8) (hb : bl.length ≤ 9223372036854775807) (hT : TabsT w.heap.size w) :
    Calls Tryd.prog 4 #[.slice A n c, .int .i64 turn, .string (bs bl)] w fun e w' => Below w.heap.size w w' ∧ e = .returned (.bool true) := by
  unfold maxLen at hm
  have HSh := Lib.hid (shown_walk w hT)
  have HT := Lib.hid (fun (w' : World) (hb : Below w.heap.size w w') => tabsT_below hT hb)
  have HR := Lib.hid hr
  have HLs := Lib.hid hL
  have HN := Lib.hid hn
  have hbs := bs_size bl
  clear hr hL hT hn
  go_enter Tryd.func4, Tryd.ntmps4
  go_wp2_with fail
  refine HSh.out.mono ?_
  rintro e w1 ⟨hb1, rfl⟩
  have HB1 := Lib.hid hb1
  clear hb1 HSh
  go_upto_block 0 with fail
  go_cut [8, 9, 10, 11] from 30 to 80 (fun v8 v9 v10 v11 wx => ∃ (own : List En) (g : Option Nat), Hid (Below w.heap.size w wx) ∧ Hid (OwnX 2 wx g v8 (own.map enC).flatten) ∧ Hid (∀ q, g = some q → w.heap.size ≤ q) ∧ Hid (Own own))
  case first =>
    go_wp2_with fail
    go_loopg [8, 9] 60 (fun k s8 s9 wr => ∃ (i : Nat) (own : List En) (g : Option Nat), s9 = .int .i64 (i : Int) ∧ i + k = 60 ∧ Hid (Below w.heap.size w wr) ∧ Hid (OwnX 2 wr g s8 (own.map enC).flatten) ∧ Hid (∀ q, g = some q → w.heap.size ≤ q) ∧ Hid (Own own ∧ own.length ≤ i))
    case atStart => exact ⟨0, [], none, rfl, rfl, HB1, Lib.hid (OwnX.nil _ none), Lib.hid (fun q h => by cases h), Lib.hid ⟨⟨(fun e he => by cases he), List.Pairwise.nil, by simp⟩, by simp⟩⟩
    case round =>
      obtain ⟨i, own, g, rfl, hik, HB, HX, HG, HO⟩ := hrel
      obtain ⟨wo, rfl⟩ : ∃ wo, wo = wr := ⟨_, rfl⟩
      obtain ⟨ko, rfl⟩ : ∃ ko, ko = gk := ⟨_, rfl⟩
      have hx := HX.out
      obtain ⟨A8, n8, c8, rfl, -⟩ := hx.sl
      obtain ⟨e8, h8c, h8m, hre8⟩ := hx.re
      subst e8
      unfold maxLen at h8m
      have HR8 := Lib.hid hre8
      clear hx hre8
      by_cases hlt : i < n ∧ i < 60
      · obtain ⟨hlt, h60⟩ := hlt
        have hlt1 : (i : Int) < (n : Int) := by omega
        have h60i : (i : Int) < 60 := by omega
        obtain ⟨x, hx⟩ : ∃ x, L[i]? = some x := ⟨_, List.getElem?_eq_getElem (by rw [← HN.out]; exact hlt)⟩
        obtain ⟨b, off, rfl, hbl, q0, q1⟩ := re_cells (HR.out.below HB.out) hx
        obtain ⟨hxk, hxv⟩ := HLs.out x (List.mem_of_getElem? hx)
        have HP := Lib.hid (fun w2 => plain_walk x.k x.v w2 hxk hxv)
        have HLx := Lib.hid (fun w2 => rlower_call x.k w2 hxk)
        have hbw : b < wo.heap.size := hbl
        have KK := Lib.hid (fun n : Over wo.heap.size wo => show n.v.cell? ⟨b, off + i * 2, none⟩ = some (.string (bs x.k)) ∧ n.v.cell? ⟨b, off + i * 2 + 1, none⟩ = some (.string (bs x.v)) from ⟨(n.ok.cell (p := ⟨b, off + i * 2, none⟩) hbw).trans q0, (n.ok.cell (p := ⟨b, off + i * 2 + 1, none⟩) hbw).trans q1⟩)
        obtain ⟨pb, hpb⟩ : ∃ pb, plainB x.k x.v = pb := ⟨_, rfl⟩
        rw [hpb] at HP
        have HPB := Lib.hid hpb
        clear hx hxk hxv hpb
        go_wp2_with fail
        have kk0 := fun n => (KK.out n).1
        have kk1 := fun n => (KK.out n).2
        refine wp_region_below wo.heap.size (by kernel_rfl) (by kernel_rfl) ?_
        repeat (go_big_quiet_step ((go_at_call 12; exact calls_over _ (HP.out _) (Nat.le_refl _))))
        refine wpQuiet_nil ?_
        rintro _ ⟨⟨w2, hb2⟩, rfl⟩
        have HB2 := Lib.hid hb2
        clear kk0 kk1 hb2 HP
        go_wp2_with fail
        go_loopg [10, 11] own.length (fun k s10 s11 wx => ∃ (t : Nat) (bo : Bool), s10 = .bool bo ∧ s11 = .int .i64 (t : Int) ∧ t + k = own.length ∧ Hid (Below wo.heap.size wo wx) ∧ Hid (Dif bo x own t))
        case atStart => exact ⟨0, pb, rfl, rfl, by omega, HB2, Lib.hid (fun h => ⟨by rw [HPB.out, h], fun q y hq => by omega⟩ : Dif pb x own 0)⟩
        case round =>
          obtain ⟨t, bo, rfl, rfl, htk, HBx, HQ⟩ := hrel
          clear HB2 HPB
          by_cases hgo : t < own.length ∧ bo = true
          · obtain ⟨htl, rfl⟩ := hgo
            have htl1 : (t : Int) < (own.length : Int) := by omega
            obtain ⟨y, hy⟩ : ∃ y, own[t]? = some y := ⟨_, List.getElem?_eq_getElem htl⟩
            obtain ⟨b8, off8, rfl, hb8, z0, z1⟩ := re_cells (HR8.out.below HBx.out) hy
            have hyk := (plainB_facts (HO.out.1.pl y (List.mem_of_getElem? hy))).2.2.2.1
            have HLy := Lib.hid (fun w2 => rlower_call y.k w2 (by unfold maxLen; omega))
            have HBx2 := HBx.out.size
            have KX := Lib.hid (fun n : Over wr.heap.size wr => show n.v.cell? ⟨b, off + i * 2, none⟩ = some (.string (bs x.k)) ∧ n.v.cell? ⟨b8, off8 + t * 2, none⟩ = some (.string (bs y.k)) from ⟨(n.ok.cell (p := ⟨b, off + i * 2, none⟩) (Nat.lt_of_lt_of_le hbw HBx2)).trans ((HBx.out.cell (p := ⟨b, off + i * 2, none⟩) hbw).trans q0), (n.ok.cell (p := ⟨b8, off8 + t * 2, none⟩) hb8).trans z0⟩)
            have HE := Lib.hid (show (bs (y.k.map lowC)).toList = (bs (x.k.map lowC)).toList ↔ y.k.map lowC = x.k.map lowC by rw [bs_nil, bs_nil])
            have HYq := Lib.hid hy
            obtain ⟨u1, hu1⟩ : ∃ u1, bs (y.k.map lowC) = u1 := ⟨_, rfl⟩
            obtain ⟨u2, hu2⟩ : ∃ u2, bs (x.k.map lowC) = u2 := ⟨_, rfl⟩
            rw [hu1] at HLy HE
            have HLx2 : Hid (∀ w2, Calls Tryd.prog 13 #[.string (bs x.k)] w2 fun e w' => Below w2.heap.size w2 w' ∧ e = .returned (.string u2)) := Lib.hid (by rw [← hu2]; exact HLx.out)
            rw [hu2] at HE
            clear hu1 hu2 hy z0 z1
            go_wp2_with fail
            have kx0 := fun n => (KX.out n).1
            have kx1 := fun n => (KX.out n).2
            refine wp_region_below wr.heap.size (by kernel_rfl) (by kernel_rfl) ?_
            repeat (go_big_quiet_step ((go_at_call 13; first | ((with_reducible refine calls_over _ (HLy.out _) ?_); exact Nat.le_refl _) | ((with_reducible refine calls_over _ (HLx2.out _) ?_); exact Nat.le_refl _))))
            refine wpQuiet_nil ?_
            rintro _ ⟨⟨w3, hb3⟩, rfl⟩
            have HB3 := Lib.hid (HBx.out.trans (hb3.mono HBx.out.size))
            clear kx0 kx1 hb3
            by_cases heq : u1.toList = u2.toList
            · have hbe : (u1.toList == u2.toList) = true := beq_iff_eq.2 heq
              go_wp2_with fail
              go_roundg (gk - 1)
              case rel => exact ⟨t + 1, false, by simp [heq], by go_num, by omega, HB3, Lib.hid (Dif.no _ _ _)⟩
              case measure => omega
            · have hbe : (u1.toList == u2.toList) = false := beq_eq_false_iff_ne.2 heq
              have HQ2 : Hid (Dif true x own (t + 1)) := Lib.hid (fun _ => ⟨(HQ.out rfl).1, fun q z hq hz => by
                rcases Nat.lt_or_ge q t with h | h
                · exact (HQ.out rfl).2 q z h hz
                · obtain rfl : q = t := by omega
                  rw [HYq.out] at hz
                  obtain rfl := Option.some.inj hz
                  exact fun e => heq (HE.out.2 e)⟩)
              go_wp2_with fail
              go_roundg (gk - 1)
              case rel => exact ⟨t + 1, true, by simp [heq], by go_num, by omega, HB3, HQ2⟩
              case measure => omega
          · have HB3 := Lib.hid (HB.out.trans (HBx.out.mono HB.out.size))
            have HX3 := Lib.hid (HX.out.below HBx.out fun k hk => HX.out.lt hk)
            cases bo with
            | false =>
              have HO2 : Hid (Own own ∧ own.length ≤ i + 1) := Lib.hid ⟨HO.out.1, by have := HO.out.2; omega⟩
              clear hgo
              by_cases htl : t < own.length
              · have htl1 : (t : Int) < (own.length : Int) := by omega
                go_wp2_with fail
                go_roundg (ko - 1)
                case rel => exact ⟨i + 1, own, g, by go_num, by omega, HB3, HX3, HG, HO2⟩
                case measure => omega
              · have htl1 : ¬ (t : Int) < (own.length : Int) := by omega
                go_wp2_with fail
                go_roundg (ko - 1)
                case rel => exact ⟨i + 1, own, g, by go_num, by omega, HB3, HX3, HG, HO2⟩
                case measure => omega
            | true =>
              have htl : ¬ t < own.length := fun h => hgo ⟨h, rfl⟩
              have htl1 : ¬ (t : Int) < (own.length : Int) := by omega
              have HO2 : Hid (Own (own ++ [x]) ∧ (own ++ [x]).length ≤ i + 1) := Lib.hid ⟨own_snoc HO.out.1 (HQ.out rfl).1 HO.out.2 h60 (fun q y hq hy => (HQ.out rfl).2 q y (by omega) hy), by rw [List.length_append]; have := HO.out.2; simp; omega⟩
              have r0 := (HBx.out.cell (p := ⟨b, off + i * 2, none⟩) hbw).trans q0
              have r1 := (HBx.out.cell (p := ⟨b, off + i * 2 + 1, none⟩) hbw).trans q1
              have hba := (Below.refl wr.heap.size wr).alloc (Nat.le_refl _) (.cells #[.string (bs x.k), .string (bs x.v)] 40)
              have HX4 := Lib.hid (HX3.out.below hba fun k hk => HX3.out.lt hk)
              have hsz : Hid ((own.map enC).flatten.length + 1 * 2 ≤ 1000000000000) := Lib.hid (by rw [flat_len (enC_len own), List.length_map]; have := HO.out.1.le; omega)
              have HBa := Lib.hid hba
              clear hgo hba q0 q1
              go_wp2_with (at_builtin; refine wpList_appX _ uxR (.tmp 74) (.tmp 79) rfl rfl rfl HX4.out (some ⟨wr.heap.size, 0, none⟩) 1 1 rfl [.string (bs x.k), .string (bs x.v)] rfl (fun h => by cases h) (news2 wr 40 _ _) (enx_one x) hsz.out ?_; intro v9 g9 w9 hX9 hG9 ho9; obtain ⟨A9, n9, c9, rfl, -⟩ := hX9.sl; have HX9 := Lib.hid hX9; have HG9 := Lib.hid hG9; have HO9 := Lib.hid ho9; clear hX9 hG9 ho9)
              go_roundg (ko - 1)
              case rel =>
                have hw := HB.out.size
                have hwx := HBx.out.size
                have hwa := HBa.out.size
                have hgb : ∀ q, g9 = some q → w.heap.size ≤ q := fun q hq => by
                  rcases HO9.out with h | h
                  · exact HG.out q (by rw [← h]; exact hq)
                  · rw [h] at hq; injection hq with hq; omega
                refine ⟨i + 1, own ++ [x], g9, by go_num, by omega, Lib.hid ?_, Lib.hid ?_, Lib.hid hgb, HO2⟩
                · have hb4 := HB3.out.trans (HBa.out.mono HB3.out.size)
                  exact belowX hb4 HG9.out HG.out (by omega)
                · have : ((own ++ [x]).map enC).flatten = (own.map enC).flatten ++ [.string (bs x.k), .string (bs x.v)] := by simp [enC]
                  rw [this]
                  exact HX9.out
              case measure => omega
      · have HOf : Hid (Own own) := Lib.hid HO.out.1
        by_cases hl1 : i < n
        · have hl2 : (i : Int) < (n : Int) := by omega
          have h60 : ¬ (i : Int) < 60 := by omega
          go_wp2_with fail
          go_meet
          exact ⟨own, g, HB, HX, HG, HOf⟩
        · have hl2 : ¬ (i : Int) < (n : Int) := by omega
          go_wp2_with fail
          go_meet
          exact ⟨own, g, HB, HX, HG, HOf⟩
  case rest =>
    obtain ⟨own, g, HB2, HX, HG, HO⟩ := hcut
    clear HB1
    obtain ⟨Av, nv, cv, rfl, -⟩ := HX.out.sl
    obtain ⟨env, hnc, hncm, hre⟩ := HX.out.re
    subst env
    unfold maxLen at hncm
    have HRv := Lib.hid hre
    clear hre
    go_upto_block 4 with fail
    go_cut [12, 13] from 81 to 107 (fun v12 v13 wx => wc = wx ∧ ∃ m : List UInt8, v12 = .string (bs m) ∧ Hid (m.all isBl = true ∧ m ≠ [] ∧ m.length ≤ 21))
    case first =>
      go_wp2_with fail
      go_loopg [12, 13] 20 (fun k s12 s13 wr => ∃ (i : Nat) (m : List UInt8), wc = wr ∧ s12 = .string (bs m) ∧ s13 = .int .i64 (i : Int) ∧ i + k = 20 ∧ Hid (m.all isBl = true ∧ m ≠ [] ∧ m.length ≤ i + 1))
      case atStart => exact ⟨0, [32], rfl, rfl, rfl, by omega, Lib.hid ⟨rfl, by simp, by simp⟩⟩
      case round =>
        obtain ⟨i, m, rfl, rfl, rfl, hik, HM⟩ := hrel
        by_cases hl1 : i < bl.length
        · have hl2 : (i : Int) < (bl.length : Int) := by omega
          by_cases h20 : i < 20
          · have h20i : (i : Int) < 20 := by omega
            have p0 : i < (bs bl).size := by rw [hbs]; exact hl1
            have hg := bs_get bl i p0 hl1
            have HE := Lib.hid (one_bs bl i hl1)
            obtain ⟨x, hx1, hx2⟩ : ∃ x, (bs bl)[i]'p0 = x ∧ (bs bl).extract i (i + 1) = bs [x] := ⟨bl[i]'hl1, hg, HE.out⟩
            have HE2 := Lib.hid hx2
            have hms := bs_size m
            have hml := HM.out.2.2
            have hx1s : (bs [x]).size = 1 := rfl
            clear hg HE hx2
            by_cases c1 : x = 32
            · have d1 : ((x.toNat : Int) == 32) = true := by rw [c1]; rfl
              have HM2 : Hid ((m ++ [x]).all isBl = true ∧ m ++ [x] ≠ [] ∧ (m ++ [x]).length ≤ i + 1 + 1) := Lib.hid ⟨by rw [List.all_append, HM.out.1, c1]; rfl, by simp, by rw [List.length_append]; simp; omega⟩
              clear c1
              go_wp2_with fail
              go_roundg (gk - 1)
              case rel => exact ⟨i + 1, m ++ [x], rfl, by rw [HE2.out, bs_app], by go_num, by omega, HM2⟩
              case measure => omega
            · have d1 : ((x.toNat : Int) == 32) = false := beq_eq_false_iff_ne.2 (fun e => c1 (UInt8.toNat_inj.1 (by have : (32 : UInt8).toNat = 32 := rfl; omega)))
              by_cases c2 : x = 9
              · have d2 : ((x.toNat : Int) == 9) = true := by rw [c2]; rfl
                have HM2 : Hid ((m ++ [x]).all isBl = true ∧ m ++ [x] ≠ [] ∧ (m ++ [x]).length ≤ i + 1 + 1) := Lib.hid ⟨by rw [List.all_append, HM.out.1, c2]; rfl, by simp, by rw [List.length_append]; simp; omega⟩
                clear c1 c2
                go_wp2_with fail
                go_roundg (gk - 1)
                case rel => exact ⟨i + 1, m ++ [x], rfl, by rw [HE2.out, bs_app], by go_num, by omega, HM2⟩
                case measure => omega
              · have d2 : ((x.toNat : Int) == 9) = false := beq_eq_false_iff_ne.2 (fun e => c2 (UInt8.toNat_inj.1 (by have : (9 : UInt8).toNat = 9 := rfl; omega)))
                have HM2 : Hid (m.all isBl = true ∧ m ≠ [] ∧ m.length ≤ i + 1 + 1) := Lib.hid ⟨HM.out.1, HM.out.2.1, by omega⟩
                clear c1 c2
                go_wp2_with fail
                go_roundg (gk - 1)
                case rel => exact ⟨i + 1, m, rfl, rfl, by go_num, by omega, HM2⟩
                case measure => omega
          · have h20i : ¬ (i : Int) < 20 := by omega
            have HM2 : Hid (m.all isBl = true ∧ m ≠ [] ∧ m.length ≤ 21) := Lib.hid ⟨HM.out.1, HM.out.2.1, by have := HM.out.2.2; omega⟩
            go_wp2_with fail
            go_meet
            exact ⟨rfl, m, rfl, HM2⟩
        · have hl2 : ¬ (i : Int) < (bl.length : Int) := by omega
          have HM2 : Hid (m.all isBl = true ∧ m ≠ [] ∧ m.length ≤ 21) := Lib.hid ⟨HM.out.1, HM.out.2.1, by have := HM.out.2.2; omega⟩
          go_wp2_with fail
          go_meet
          exact ⟨rfl, m, rfl, HM2⟩
    case rest =>
      obtain ⟨rfl, m, rfl, HM⟩ := hcut
      have hol := HO.out.le
      have hms := bs_size m
      have hml := HM.out.2.2
      obtain ⟨n0, hn0⟩ : ∃ n0, own.length = n0 := ⟨_, rfl⟩
      obtain ⟨tt, htt⟩ : ∃ tt, (if 0 < turn then (turn % (n0 : Int)).toNat else 0) = tt := ⟨_, rfl⟩
      have htl : n0 = 0 ∨ tt < n0 := by
        rw [← htt]
        by_cases h0 : n0 = 0
        · exact .inl h0
        · refine .inr ?_
          split
          · have := Int.emod_lt_of_pos turn (show (0 : Int) < (n0 : Int) by omega)
            have := Int.emod_nonneg turn (show (n0 : Int) ≠ 0 by omega)
            omega
          · omega
      have HTT := Lib.hid htt
      have HN0 := Lib.hid hn0
      rw [hn0] at HX hnc
      clear htt hn0
      rw [HN0.out]
      go_wp2_with fail
      go_loopg [14, 15, 16] n0 (fun k s14 s15 s16 wr => ∃ i : Nat, s14 = .string (bs (oneT (own.take i))) ∧ s15 = .string (bs (pre2 ++ twoT m ((rotE own tt).take i))) ∧ s16 = .int .i64 (i : Int) ∧ i + k = n0 ∧ Hid (Below wc.heap.size wc wr))
      case atStart => exact ⟨0, rfl, rfl, rfl, by omega, Lib.hid (Below.refl _ _)⟩
      case round =>
        obtain ⟨i, rfl, rfl, rfl, hik, HBr⟩ := hrel
        by_cases hlt : i < n0
        · have hlt1 : (i : Int) < (n0 : Int) := by omega
          obtain ⟨x, hx⟩ : ∃ x, own[i]? = some x := ⟨_, List.getElem?_eq_getElem (by rw [HN0.out]; exact hlt)⟩
          obtain ⟨y, hy⟩ : ∃ y, (rotE own tt)[i]? = some y := ⟨_, List.getElem?_eq_getElem (by rw [rotE_len (by rw [HN0.out]; omega), HN0.out]; exact hlt)⟩
          have htn : tt < n0 := by omega
          have hn60 : n0 ≤ 60 := by rw [← HN0.out]; exact hol
          have hyk : own[(i + tt) % n0]? = some y := by
            have := rotE_at (own := own) (t := tt) (i := i) (by rw [HN0.out]; omega) (by rw [HN0.out]; exact hlt)
            rw [HN0.out] at this
            rw [← this]; exact hy
          obtain ⟨kk, hkk⟩ : ∃ kk, (i + tt) % n0 = kk := ⟨_, rfl⟩
          have hkl : kk < n0 := by rw [← hkk]; exact Nat.mod_lt _ (by omega)
          rw [hkk] at hyk
          have HKK := Lib.hid hkk
          clear hkk
          obtain ⟨b, off, rfl, hbl, q0, q1⟩ := re_cells (HRv.out.below HBr.out) hx
          obtain ⟨_, _, e, _, q2, q3⟩ := re_cells (HRv.out.below HBr.out) hyk
          injection e with e
          injection e with e1 e2
          subst e1 e2
          obtain ⟨-, -, -, x4, -, -, x7⟩ := plainB_facts (HO.out.pl x (List.mem_of_getElem? hx))
          obtain ⟨-, -, -, y4, -, -, y7⟩ := plainB_facts (HO.out.pl y (List.mem_of_getElem? hyk))
          have hoP : (oneT (own.take i)).length ≤ 60 * 1322 := Nat.le_trans (one_len _ (fun e he => HO.out.pl e (List.mem_of_mem_take he))) (Nat.mul_le_mul_right _ (by rw [List.length_take]; omega))
          have htP : (pre2 ++ twoT m ((rotE own tt).take i)).length ≤ 13 + 60 * 1370 := by
            rw [List.length_append]
            have := two_len m hml ((rotE own tt).take i) (fun e he => HO.out.pl e ((rotE_perm own tt).mem_iff.1 (List.mem_of_mem_take he)))
            have h2 : ((rotE own tt).take i).length * 1370 ≤ 60 * 1370 := Nat.mul_le_mul_right _ (by rw [List.length_take]; omega)
            have h3 : pre2.length = 13 := rfl
            omega
          have HO1 : Hid (bs (oneT (own.take i)) ++ bs x.k ++ ⟨#[32]⟩ ++ bs x.v ++ ⟨#[10]⟩ = bs (oneT (own.take (i + 1)))) := Lib.hid (by
            rw [one_step hx, show (⟨#[32]⟩ : ByteArray) = bs [32] from rfl, show (⟨#[10]⟩ : ByteArray) = bs [10] from rfl, bs_app, bs_app, bs_app, bs_app])
          have HO2 : Hid (bs (pre2 ++ twoT m ((rotE own tt).take i)) ++ bs y.k ++ bs m ++ bs y.v ++ bs m ++ ⟨#[10, 32, 32, 35, 32, 120, 10, 10]⟩ = bs (pre2 ++ twoT m ((rotE own tt).take (i + 1)))) := Lib.hid (by
            rw [two_step hy, show (⟨#[10, 32, 32, 35, 32, 120, 10, 10]⟩ : ByteArray) = bs suf2 from rfl, bs_app, bs_app, bs_app, bs_app, bs_app])
          have s1 := bs_size (oneT (own.take i))
          have s2 := bs_size (pre2 ++ twoT m ((rotE own tt).take i))
          have s3 := bs_size x.k
          have s4 := bs_size x.v
          have s5 := bs_size y.k
          have s6 := bs_size y.v
          clear hx hy hyk
          generalize oneT (own.take i) = o1 at *
          generalize pre2 ++ twoT m ((rotE own tt).take i) = o2 at *
          go_wp2_with fail
          go_quiet (fail)
          have HBr2 := Lib.hid (bdrewN HBr.out nq)
          have p2 : (wr.drewN nq).cell? ⟨b, off + kk * 2, none⟩ = some (.string (bs y.k)) := q2
          have p3 : (wr.drewN nq).cell? ⟨b, off + kk * 2 + 1, none⟩ = some (.string (bs y.v)) := q3
          clear q0 q1 q2 q3 HBr
          generalize wr.drewN nq = wr2 at *
          by_cases htu : 0 < turn
          · have m0 := Int.emod_lt_of_pos turn (show (0 : Int) < (n0 : Int) by omega)
            have m1 := Int.emod_nonneg turn (show (n0 : Int) ≠ 0 by omega)
            have m2 : (turn % (n0 : Int)) = (tt : Int) := by
              have := HTT.out
              rw [if_pos htu] at this
              omega
            have m3 : ((i : Int) + (tt : Int)) % (n0 : Int) = (kk : Int) := by
              rw [← HKK.out]
              simp
            have hkI : (kk : Int) < (n0 : Int) := by omega
            have htI : (tt : Int) < (n0 : Int) := by omega
            clear m0 m1
            go_wp2_with fail
            simp only [m3]
            clear m3 m2 htu
            go_quiet (fail)
            go_wp2_with fail
            go_roundg (gk - 1)
            case rel => exact ⟨i + 1, by rw [HO1.out], by rw [HO2.out], by go_num, by omega, Lib.hid (bdrewN HBr2.out nq)⟩
            case measure => omega
          · have hk0 : kk = i := by
              have := HTT.out
              rw [if_neg htu] at this
              rw [← HKK.out, ← this, Nat.add_zero, Nat.mod_eq_of_lt hlt]
            subst hk0
            go_wp2_with fail
            go_quiet (fail)
            go_wp2_with fail
            go_roundg (gk - 1)
            case rel => exact ⟨kk + 1, by rw [HO1.out], by rw [HO2.out], by go_num, by omega, Lib.hid (bdrewN HBr2.out nq)⟩
            case measure => omega
        · obtain rfl : i = n0 := by omega
          have hi1 : ¬ (i : Int) < (i : Int) := by omega
          obtain ⟨U, u1, u2, u3⟩ := same_tables HO.out (rotE_perm own tt) HM.out.1 HM.out.2.1 hml
          have ho1 := one_len own HO.out.pl
          have ho2 := two_len m hml (rotE own tt) (fun e he => HO.out.pl e ((rotE_perm own tt).mem_iff.1 he))
          have hrl : (rotE own tt).length = i := by rw [(rotE_perm own tt).length_eq, HN0.out]
          rw [HN0.out] at ho1 u3 hol
          rw [hrl] at ho2
          have e1 : own.take i = own := List.take_of_length_le (by rw [HN0.out]; omega)
          have e2 : (rotE own tt).take i = rotE own tt := List.take_of_length_le (by rw [hrl]; omega)
          rw [e1, e2]
          have h3 : pre2.length = 13 := rfl
          have hb1 := HB2.out.trans (HBr.out.mono HB2.out.size)
          have HB3 := Lib.hid hb1
          have KP1 := Lib.hid (parse_ok wr (bs (oneT own)) (oneT own) rfl u1 (by omega) (HT.out wr hb1))
          have KP2 := Lib.hid (fun (w' : World) (hb : Below w.heap.size w w') => parse_ok w' (bs (pre2 ++ twoT m (rotE own tt))) (pre2 ++ twoT m (rotE own tt)) rfl u2 (by rw [List.length_append]; omega) (HT.out w' hb))
          have HU3 := Lib.hid u3
          clear u1 u2 u3 ho1 ho2 hrl e1 e2 h3 hb1 HBr
          generalize bs (oneT own) = o1 at *
          generalize bs (pre2 ++ twoT m (rotE own tt)) = o2 at *
          go_wp2_with fail
          with_reducible refine KP1.out.mono ?_
          rintro e w3 ⟨hb3, ta, rfl, oka⟩
          have HB4 := Lib.hid ((HB3.out.trans (hb3.mono HB3.out.size)).alloc (Nat.le_trans HB3.out.size hb3.size) (.cells #[.int .i64 0, .int .i64 0] 27))
          have OA := Lib.hid (oka.below ((Below.refl w3.heap.size w3).alloc (Nat.le_refl _) (.cells #[.int .i64 0, .int .i64 0] 27)))
          have NA := Lib.hid (Blk.new w3 27 #[.int .i64 0, .int .i64 0])
          clear hb3 oka KP1 HB3
          go_wp2_with fail
          with_reducible refine (KP2.out _ HB4.out).mono ?_
          rintro e w4 ⟨hb4, tb, rfl, okb⟩
          have HB5 := Lib.hid ((HB4.out.trans (hb4.mono HB4.out.size)).alloc (Nat.le_trans HB4.out.size hb4.size) (.cells #[.int .i64 0, .int .i64 0] 27))
          have hb45 := hb4.alloc hb4.size (.cells #[.int .i64 0, .int .i64 0] 27)
          have OA5 := Lib.hid (OA.out.below hb45)
          have OB5 := Lib.hid (okb.below ((Below.refl w4.heap.size w4).alloc (Nat.le_refl _) (.cells #[.int .i64 0, .int .i64 0] 27)))
          have NA5 := NA.out.keep hb45
          have NB5 := Blk.new w4 27 #[.int .i64 0, .int .i64 0]
          have x0 := NA5.cell 0
          have y0 := NB5.cell 0
          have KA := Lib.hid (len_walk _ ta U OA5.out)
          have KB := Lib.hid (len_walk _ tb U OB5.out)
          rw [HU3.out] at KA KB
          clear hb4 hb45 okb KP2 NA5 NB5 NA OA HB4
          go_wp2_with fail
          with_reducible refine KA.out.mono ?_
          rintro e w5 ⟨rfl, rfl⟩
          go_wp2_with fail
          with_reducible refine KB.out.mono ?_
          rintro e w5 ⟨rfl, rfl⟩
          clear KA KB
          generalize w4.alloc (.cells #[.int .i64 0, .int .i64 0] 27) = w5 at *
          go_wp2_with fail
          clear x0 y0
          go_loopg [22] i (fun k s22 wr => ∃ j : Nat, s22 = .int .i64 (j : Int) ∧ j + k = i ∧ Hid (Below w5.heap.size w5 wr))
          case atStart => exact ⟨0, rfl, by omega, Lib.hid (Below.refl _ _)⟩
          case round =>
            obtain ⟨j, rfl, hj, HBj⟩ := hrel
            by_cases hlt : j < i
            · have hlt1 : (j : Int) < (i : Int) := by omega
              obtain ⟨x, hx⟩ : ∃ x, U[j]? = some x := ⟨_, List.getElem?_eq_getElem (by rw [HU3.out]; exact hlt)⟩
              have hat : atE U (j : Int) = (x.k, x.v, true) := by unfold atE; rw [if_neg (by omega), Int.toNat_natCast, hx]
              have KA := Lib.hid (at_walk wr ta U (OA5.out.below HBj.out) (j : Int))
              have KB := Lib.hid (fun (w' : World) (hb : Below w5.heap.size w5 w') => at_walk w' tb U (OB5.out.below hb) (j : Int))
              rw [hat] at KA KB
              clear hat hx
              generalize bs x.k = xk at *
              generalize bs x.v = xv at *
              go_wp2_with fail
              with_reducible refine KA.out.mono ?_
              rintro e w6 ⟨hb6, rfl⟩
              have HB6 := Lib.hid (HBj.out.trans (hb6.mono HBj.out.size))
              clear hb6 KA
              go_wp2_with fail
              with_reducible refine (KB.out _ HB6.out).mono ?_
              rintro e w7 ⟨hb7, rfl⟩
              have HB7 := Lib.hid (HB6.out.trans (hb7.mono HB6.out.size))
              clear hb7 KB
              go_wp2_with fail
              go_roundg (gk - 1)
              case rel => exact ⟨j + 1, by go_num, by omega, HB7⟩
              case measure => omega
            · have hlt1 : ¬ (j : Int) < (i : Int) := by omega
              go_wp2_with fail
              go_ret
              exact ⟨HB5.out.trans (HBj.out.mono HB5.out.size), rfl⟩
end Go.Proofs.YtlknclkkhincfaaDoor
