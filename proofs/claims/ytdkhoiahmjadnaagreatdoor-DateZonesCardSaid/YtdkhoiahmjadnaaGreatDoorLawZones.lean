/-
  The walk of the statement DateZones. It asks what the library's tables hold.
-/
import Derived.Test.YtdkhoiahmjadnaaGreatDoorLawBack
namespace Go.Proofs.YtdkhoiahmjadnaaGreatDoor
open Go.RowKit Go.Sort
set_option linter.unusedVariables false

def preW (di d mo y h mi s : Nat) : List UInt8 := capD.getD di [] ++ [44, 32] ++ Lib.decDigits d ++ [32] ++ capM.getD (mo - 1) [] ++ [32] ++ dig4 y ++ [32] ++ timB h mi s ++ [32]
theorem join_pre (di d mo y h mi s zh zm : Nat) : joinW (shW di d mo y h mi s zh zm) = preW di d mo y h mi s ++ zoneW zh zm := by
  simp [joinW, shW, preW]
theorem pre_len {t : Int} {di d mo y h mi s : Nat} (P : Parts t di d mo y h mi s) : (preW di d mo y h mi s).length = 25 ∨ (preW di d mo y h mi s).length = 26 := by
  have c1 : (capD.getD di []).length = 3 := by have := (cap_len P.hdi P.hm0 P.hm1).1; rw [Lib.size_eq] at this; exact this
  have c2 : (capM.getD (mo - 1) []).length = 3 := by have := (cap_len P.hdi P.hm0 P.hm1).2; rw [Lib.size_eq] at this; exact this
  have c3 := dec_sz2 (d := d) (by have := P.hd1; omega)
  simp only [Lib.size_eq, List.toList_toArray] at c3
  simp only [preW, dig2, dig4, timB, List.length_append, List.length_cons, List.length_nil]
  omega
/-- all that the law wants to know of the texts -/
theorem zone_texts {tick : Int} {zh zm : Nat} (h0 : 0 ≤ tick) (h1 : tick ≤ 253402000000) (hh : zh ≤ 23) (hm : zm ≤ 59) :
    ∃ S PRE : ByteArray, (⟨(showL (tick + (3600 * (zh : Int) + 60 * zm))).toArray⟩ : ByteArray) = S ∧ parseP (PRE ++ (⟨#[43]⟩ ++ ⟨(dig2 zh ++ dig2 zm).toArray⟩)) = (tick, 0) ∧ ((S.size = 30 ∧ PRE.size = 25 ∧ S.extract 0 25 = PRE) ∨ (S.size = 31 ∧ PRE.size = 26 ∧ S.extract 0 26 = PRE)) := by
  have t0 : 0 ≤ tick + (3600 * (zh : Int) + 60 * zm) := by omega
  have t1 : tick + (3600 * (zh : Int) + 60 * zm) ≤ 253402300799 := by omega
  obtain ⟨di, d, mo, y, h, mi, s, P⟩ := parts_of t0 t1
  refine ⟨⟨(preW di d mo y h mi s ++ zoneW 0 0).toArray⟩, ⟨(preW di d mo y h mi s).toArray⟩, ?_, ?_, ?_⟩
  · rw [P.show_ t0 t1, shB_words, join_pre]
  · have e : (⟨(preW di d mo y h mi s).toArray⟩ : ByteArray) ++ (⟨#[43]⟩ ++ ⟨(dig2 zh ++ dig2 zm).toArray⟩) = ⟨(joinW (shW di d mo y h mi s zh zm)).toArray⟩ := by
      show (⟨(preW di d mo y h mi s).toArray⟩ : ByteArray) ++ (⟨[43].toArray⟩ ++ ⟨(dig2 zh ++ dig2 zm).toArray⟩) = _
      rw [app_str, app_str, join_pre]
      rfl
    rw [e, parse_shown P t0 t1 hh hm (by omega)]
    congr 1
    omega
  · have hz : (zoneW 0 0).length = 5 := rfl
    have hx : ∀ n, (preW di d mo y h mi s).length = n → (⟨(preW di d mo y h mi s ++ zoneW 0 0).toArray⟩ : ByteArray).extract 0 n = ⟨(preW di d mo y h mi s).toArray⟩ := by
      intro n hn
      have := extract_mid (s := ⟨(preW di d mo y h mi s ++ zoneW 0 0).toArray⟩) (pre := []) (w := preW di d mo y h mi s) (post := zoneW 0 0) (by simp)
      rw [hn] at this
      simpa using this
    rcases pre_len P with hl | hl
    · left
      refine ⟨?_, ?_, hx _ hl⟩
      · rw [Lib.size_eq]; simp only [List.toList_toArray, List.length_append, hl, hz]
      · rw [Lib.size_eq]; simpa using hl
    · right
      refine ⟨?_, ?_, hx _ hl⟩
      · rw [Lib.size_eq]; simp only [List.toList_toArray, List.length_append, hl, hz]
      · rw [Lib.size_eq]; simpa using hl
theorem four_rb (zh zm : Nat) (hh : zh ≤ 23) (hm : zm ≤ 59) (w : World) : (convert 35 9 (.slice (some ⟨w.heap.size, 0, none⟩) 4 4)).run Tryz.prog (w.alloc (.cells #[.int .u8 (48 + (zh : Int) / 10), .int .u8 (48 + (zh : Int) % 10), .int .u8 (48 + (zm : Int) / 10), .int .u8 (48 + (zm : Int) % 10)] 5)) = .ok (.string ⟨(dig2 zh ++ dig2 zm).toArray⟩) (w.alloc (.cells #[.int .u8 (48 + (zh : Int) / 10), .int .u8 (48 + (zh : Int) % 10), .int .u8 (48 + (zm : Int) / 10), .int .u8 (48 + (zm : Int) % 10)] 5)) := by
  have hr : RB (w.alloc (.cells #[.int .u8 (48 + (zh : Int) / 10), .int .u8 (48 + (zh : Int) % 10), .int .u8 (48 + (zm : Int) / 10), .int .u8 (48 + (zm : Int) % 10)] 5)) (w.heap.size + 1) (some ⟨w.heap.size, 0, none⟩) (dig2 zh ++ dig2 zm) := by
    have e1 := dg_nat (k := zh / 10) (by omega)
    have e2 := dg_nat (k := zh % 10) (by omega)
    have e3 := dg_nat (k := zm / 10) (by omega)
    have e4 := dg_nat (k := zm % 10) (by omega)
    refine (Blk.new w _ _).rb 0 ?_ (by omega)
    unfold dig2 Lib.byteCells
    simp only [List.drop_zero, List.map_cons, List.map_nil, List.cons_append, List.nil_append]
    rw [e1, e2, e3, e4]
    rfl
  exact cvRB hr 4 4 rfl
set_option maxRecDepth 100000 in
set_option maxHeartbeats 4000000 in
theorem zones_walk (tick hours minutes : Int) (w : World) (T : TabsD w) :
    Calls Tryz.prog 7 #[.int .i64 tick, .int .i64 hours, .int .i64 minutes] w fun e w' => Below w.heap.size w w' ∧ e = .returned (.bool true) := by
  have HS := Lib.hid (shown_walk w T)
  have TT : Hid (∀ w', Below w.heap.size w w' → TabsD w') := Lib.hid fun w' hb => T.keep hb
  clear T
  by_cases g1 : hours < 0
  · go_enter Tryz.func7, Tryz.ntmps7
    go_wp2_with fail
    refine HS.out.mono ?_
    rintro e w2 ⟨hb, rfl⟩
    go_wp2
    go_ret
    exact ⟨hb, rfl⟩
  by_cases g2 : 23 < hours
  · go_enter Tryz.func7, Tryz.ntmps7
    go_wp2_with fail
    refine HS.out.mono ?_
    rintro e w2 ⟨hb, rfl⟩
    go_wp2
    go_ret
    exact ⟨hb, rfl⟩
  by_cases g3 : minutes < 0
  · go_enter Tryz.func7, Tryz.ntmps7
    go_wp2_with fail
    refine HS.out.mono ?_
    rintro e w2 ⟨hb, rfl⟩
    go_wp2
    go_ret
    exact ⟨hb, rfl⟩
  by_cases g4 : 59 < minutes
  · go_enter Tryz.func7, Tryz.ntmps7
    go_wp2_with fail
    refine HS.out.mono ?_
    rintro e w2 ⟨hb, rfl⟩
    go_wp2
    go_ret
    exact ⟨hb, rfl⟩
  by_cases g5 : tick < 0
  · go_enter Tryz.func7, Tryz.ntmps7
    go_wp2_with fail
    refine HS.out.mono ?_
    rintro e w2 ⟨hb, rfl⟩
    go_wp2
    go_ret
    exact ⟨hb, rfl⟩
  by_cases g6 : 253402000000 < tick
  · go_enter Tryz.func7, Tryz.ntmps7
    go_wp2_with fail
    refine HS.out.mono ?_
    rintro e w2 ⟨hb, rfl⟩
    go_wp2
    go_ret
    exact ⟨hb, rfl⟩
  obtain ⟨zh, rfl⟩ := Int.eq_ofNat_of_zero_le (show 0 ≤ hours by omega)
  obtain ⟨zm, rfl⟩ := Int.eq_ofNat_of_zero_le (show 0 ≤ minutes by omega)
  obtain ⟨S, PRE, hS, hP, hsz⟩ := zone_texts (zh := zh) (zm := zm) (show 0 ≤ tick by omega) (by omega) (by omega) (by omega)
  have hbz : (⟨(dig2 zh ++ dig2 zm).toArray⟩ : ByteArray).size = 4 := rfl
  have hW := fun w' T' => show_walk (tick + (3600 * (zh : Int) + 60 * zm)) w' (by omega) (by omega) T'
  rw [dayE_ok (by omega) (by omega), hS] at hW
  have HW := Lib.hid hW
  have HCV := Lib.hid (fun w' => four_rb zh zm (by omega) (by omega) w')
  generalize (⟨(dig2 zh ++ dig2 zm).toArray⟩ : ByteArray) = ZS at *
  have HP : Hid (PRE.size ≤ 26 → ∀ w', TabsD w' → Calls Tryz.prog 16 #[.string (PRE ++ (⟨#[43]⟩ ++ ZS))] w' fun e w2 => Below w'.heap.size w' w2 ∧ e = .returned (.tuple #[.int .i64 tick, .int .i64 0])) := Lib.hid fun hps w' T' => by
    have h := parse_walk (PRE ++ (⟨#[43]⟩ ++ ZS)) w' T' (by rw [ByteArray.size_append, ByteArray.size_append, hbz]; show PRE.size + (1 + 4) < 4294967281; omega)
    rw [hP] at h
    exact h
  have z0 : (0 : Int) ≤ (zh : Int) := by omega
  have z1 : (zh : Int) ≤ 23 := by omega
  have z2 : (0 : Int) ≤ (zm : Int) := by omega
  have z3 : (zm : Int) ≤ 59 := by omega
  have e1 : IntKind.i64.wrap (3600 * (zh : Int)) = 3600 * (zh : Int) := IntWalk.i64_in _ (by omega)
  have e2 : IntKind.i64.wrap (60 * (zm : Int)) = 60 * (zm : Int) := IntWalk.i64_in _ (by omega)
  have e3 : IntKind.i64.wrap (3600 * (zh : Int) + 60 * (zm : Int)) = 3600 * (zh : Int) + 60 * (zm : Int) := IntWalk.i64_in _ (by omega)
  have e4 : IntKind.i64.wrap (tick + (3600 * (zh : Int) + 60 * (zm : Int))) = tick + (3600 * (zh : Int) + 60 * (zm : Int)) := IntWalk.i64_in _ (by omega)
  clear hS hP hW
  rcases hsz with ⟨s1, s2, s3⟩ | ⟨s1, s2, s3⟩
  all_goals
    have HP2 := Lib.hid (HP.out (by omega))
    clear HP
    go_enter Tryz.func7, Tryz.ntmps7
    go_wp2_with fail
    refine HS.out.mono ?_
    rintro e w2 ⟨hb, rfl⟩
    have B := Lib.hid hb
    clear hb
    go_wp2_with fail
    refine (HW.out _ (TT.out _ B.out)).mono ?_
    rintro e w3 ⟨hb, rfl⟩
    have B := Lib.hid (B.out.trans (hb.mono B.out.size))
    have BA := Lib.hid (B.out.alloc B.out.size (.cells #[.int .u8 (48 + (zh : Int) / 10), .int .u8 (48 + (zh : Int) % 10), .int .u8 (48 + (zm : Int) / 10), .int .u8 (48 + (zm : Int) % 10)] 5))
    have hcv := HCV.out w3
    clear hb
    go_wp2_with fail
    refine (HP2.out _ (TT.out _ BA.out)).mono ?_
    rintro e w4 ⟨hb, rfl⟩
    have B := Lib.hid (BA.out.trans (hb.mono BA.out.size))
    clear hb
    go_wp2
    go_ret
    exact ⟨B.out, by simp⟩
end Go.Proofs.YtdkhoiahmjadnaaGreatDoor
