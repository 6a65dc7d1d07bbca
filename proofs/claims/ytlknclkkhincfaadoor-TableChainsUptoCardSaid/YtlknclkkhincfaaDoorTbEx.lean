/-
  The document's examples, worked out; the walk of shown. Conditions: the tables.
-/
import Derived.Test.YtlknclkkhincfaaDoorTbPar
import Derived.Test.YtlknclkkhincfaaDoorTbAsk
import Derived.WalkKit
namespace Go.Proofs.YtlknclkkhincfaaDoor
open Go.RowKit
set_option linter.unusedVariables false
theorem parse_ok (w : World) (s : ByteArray) (text : List UInt8) (hs : s = bs text) {T : List En} {a : Int} (hp : parseP text = (T, 0, a)) (hl : text.length ≤ 262144) (hT : TabsT w.heap.size w) :
    Calls Tryd.prog 8 #[.string s] w fun e w' => Below w.heap.size w w' ∧ ∃ tb, e = .returned (.tuple #[.pointer (some ⟨tb, 0, none⟩), .agg #[.int .i64 0, .int .i64 0]]) ∧ TabOk w' tb T := by
  subst hs
  refine (parse_walk text w hl hT).mono fun e w' h => ?_
  rw [hp] at h
  obtain ⟨hb, h | h⟩ := h
  · obtain ⟨-, tb, S, he, h1, h2, h3⟩ := h
    exact ⟨hb, tb, he, h1.st, h2, h3⟩
  · exact absurd rfl h.1
theorem parse_no (w : World) (s : ByteArray) (text : List UInt8) (hs : s = bs text) {T : List En} {c a : Int} (hp : parseP text = (T, c, a)) (hc : ¬ c = 0) (hl : text.length ≤ 262144) (hT : TabsT w.heap.size w) :
    Calls Tryd.prog 8 #[.string s] w fun e w' => Below w.heap.size w w' ∧ e = .returned (.tuple #[.pointer none, .agg #[.int .i64 c, .int .i64 a]]) := by
  subst hs
  refine (parse_walk text w hl hT).mono fun e w' h => ?_
  rw [hp] at h
  obtain ⟨hb, h | h⟩ := h
  · exact absurd h.1 hc
  · exact ⟨hb, h.2⟩
def exT : List En := [⟨[46, 101, 120, 97, 109, 112, 108, 101, 46, 111, 114, 103], [115, 109, 116, 112, 58, 91, 104, 93]⟩, ⟨[64, 120], [121]⟩, ⟨[97], [98, 32, 99]⟩]
set_option maxRecDepth 100000 in
theorem ex_parse1 : parseP [97, 32, 98, 10, 32, 32, 99, 10, 35, 32, 120, 10, 46, 69, 120, 97, 109, 112, 108, 101, 46, 111, 114, 103, 32, 32, 32, 115, 109, 116, 112, 58, 91, 104, 93, 10, 64, 120, 32, 121] = (exT, 0, -1) := by kernel_rfl
set_option maxRecDepth 100000 in
theorem ex_parse2 : parseP [32, 97, 32, 98] = ([], 61, 0) := by kernel_rfl
set_option maxRecDepth 100000 in
theorem ex_parse3 : parseP [97, 32, 98, 10, 97, 32, 99] = ([⟨[97], [98]⟩], 63, 4) := by kernel_rfl
set_option maxRecDepth 100000 in
theorem ex_domain : dmX (exP exT) [109, 97, 105, 108, 46, 69, 88, 65, 77, 80, 76, 69, 46, 111, 114, 103] = ([115, 109, 116, 112, 58, 91, 104, 93], true) := by kernel_rfl
set_option maxRecDepth 100000 in
theorem ex_domain2 : dmX (exP exT) [101, 120, 97, 109, 112, 108, 101, 46, 111, 114, 103] = ([], false) := by kernel_rfl
set_option maxRecDepth 100000 in
theorem ex_addr : adX (exP exT) [113] [120] = ([121], true) := by kernel_rfl
set_option maxRecDepth 100000 in
theorem ex_exact : exP exT [65] = ([98, 32, 99], true) := by kernel_rfl
theorem ex_at : atE exT 0 = ([46, 101, 120, 97, 109, 112, 108, 101, 46, 111, 114, 103], [115, 109, 116, 112, 58, 91, 104, 93], true) := by kernel_rfl
theorem ex_domainW (w : World) (tb : Nat) (h : TabOk w tb exT) (hT : TabsT w.heap.size w) : Calls Tryd.prog 19 #[.pointer (some ⟨tb, 0, none⟩), .string ⟨#[109, 97, 105, 108, 46, 69, 88, 65, 77, 80, 76, 69, 46, 111, 114, 103]⟩] w fun e w' => Below w.heap.size w w' ∧ e = .returned (.tuple #[.string ⟨#[115, 109, 116, 112, 58, 91, 104, 93]⟩, .bool true]) := by
  have h := domain_walk w tb exT h [109, 97, 105, 108, 46, 69, 88, 65, 77, 80, 76, 69, 46, 111, 114, 103] (by decide) hT
  rw [ex_domain] at h
  exact h
theorem ex_domain2W (w : World) (tb : Nat) (h : TabOk w tb exT) (hT : TabsT w.heap.size w) : Calls Tryd.prog 19 #[.pointer (some ⟨tb, 0, none⟩), .string ⟨#[101, 120, 97, 109, 112, 108, 101, 46, 111, 114, 103]⟩] w fun e w' => Below w.heap.size w w' ∧ e = .returned (.tuple #[.string ⟨#[]⟩, .bool false]) := by
  have h := domain_walk w tb exT h [101, 120, 97, 109, 112, 108, 101, 46, 111, 114, 103] (by decide) hT
  rw [ex_domain2] at h
  exact h
theorem ex_addrW (w : World) (tb : Nat) (h : TabOk w tb exT) (hT : TabsT w.heap.size w) : Calls Tryd.prog 20 #[.pointer (some ⟨tb, 0, none⟩), .string ⟨#[113]⟩, .string ⟨#[120]⟩] w fun e w' => Below w.heap.size w w' ∧ e = .returned (.tuple #[.string ⟨#[121]⟩, .bool true]) := by
  have h := addr_walk w tb exT h [113] [120] (by decide) (by decide) hT
  rw [ex_addr] at h
  exact h
theorem ex_exactW (w : World) (tb : Nat) (h : TabOk w tb exT) (hT : TabsT w.heap.size w) : Calls Tryd.prog 21 #[.pointer (some ⟨tb, 0, none⟩), .string ⟨#[65]⟩] w fun e w' => Below w.heap.size w w' ∧ e = .returned (.tuple #[.string ⟨#[98, 32, 99]⟩, .bool true]) := by
  have h := exact_walk w tb exT h ⟨#[65]⟩ [65] rfl (by decide) hT
  rw [ex_exact] at h
  exact h
theorem ex_atW (w : World) (tb : Nat) (h : TabOk w tb exT) : Calls Tryd.prog 10 #[.pointer (some ⟨tb, 0, none⟩), .int .i64 0] w fun e w' => Below w.heap.size w w' ∧ e = .returned (.tuple #[.string ⟨#[46, 101, 120, 97, 109, 112, 108, 101, 46, 111, 114, 103]⟩, .string ⟨#[115, 109, 116, 112, 58, 91, 104, 93]⟩, .bool true]) := by
  have h := at_walk w tb exT h 0
  rw [ex_at] at h
  exact h
set_option maxRecDepth 100000 in
set_option maxHeartbeats 2000000 in
theorem shown_walk (w : World) (hT : TabsT w.heap.size w) : Calls Tryd.prog 6 #[] w fun e w' => Below w.heap.size w w' ∧ e = .returned (.bool true) := by
  have HT := Lib.hid (fun (w' : World) (hb : Below w.heap.size w w') => tabsT_below hT hb)
  have K := Lib.hid (parse_ok w ⟨#[97, 32, 98, 10, 32, 32, 99, 10, 35, 32, 120, 10, 46, 69, 120, 97, 109, 112, 108, 101, 46, 111, 114, 103, 32, 32, 32, 115, 109, 116, 112, 58, 91, 104, 93, 10, 64, 120, 32, 121]⟩ [97, 32, 98, 10, 32, 32, 99, 10, 35, 32, 120, 10, 46, 69, 120, 97, 109, 112, 108, 101, 46, 111, 114, 103, 32, 32, 32, 115, 109, 116, 112, 58, 91, 104, 93, 10, 64, 120, 32, 121] rfl ex_parse1 (by decide) hT)
  clear hT
  go_enter Tryd.func6, Tryd.ntmps6
  go_wp2_with fail
  with_reducible refine K.out.mono ?_
  rintro e1 w1 ⟨hb, tb, rfl, ok⟩
  have B1 := Lib.hid (hb.alloc hb.size (.cells #[.int .i64 0, .int .i64 0] 27))
  have O1 := Lib.hid (ok.below ((Below.refl w1.heap.size w1).alloc (Nat.le_refl _) (.cells #[.int .i64 0, .int .i64 0] 27)))
  have z0 := (Blk.new w1 27 #[.int .i64 0, .int .i64 0]).cell 0
  clear hb ok K
  have KL := Lib.hid (len_walk _ tb exT O1.out)
  go_wp2_with fail
  with_reducible refine KL.out.mono ?_
  rintro e2 w2 ⟨rfl, rfl⟩
  clear z0 KL
  generalize w1.alloc (.cells #[.int .i64 0, .int .i64 0] 27) = w2 at *
  have hl3 : exT.length = 3 := rfl
  have Kw3 := Lib.hid (ex_domainW w2 tb O1.out (HT.out _ B1.out))
  go_wp2_with fail
  with_reducible refine Kw3.out.mono ?_
  rintro e w3 ⟨hb, rfl⟩
  have B3 := Lib.hid (B1.out.trans (hb.mono B1.out.size))
  have O3 := Lib.hid (O1.out.below hb)
  clear hb Kw3 B1 O1
  have Kw4 := Lib.hid (ex_domain2W w3 tb O3.out (HT.out _ B3.out))
  go_wp2_with fail
  with_reducible refine Kw4.out.mono ?_
  rintro e w4 ⟨hb, rfl⟩
  have B4 := Lib.hid (B3.out.trans (hb.mono B3.out.size))
  have O4 := Lib.hid (O3.out.below hb)
  clear hb Kw4 B3 O3
  have Kw5 := Lib.hid (ex_addrW w4 tb O4.out (HT.out _ B4.out))
  go_wp2_with fail
  with_reducible refine Kw5.out.mono ?_
  rintro e w5 ⟨hb, rfl⟩
  have B5 := Lib.hid (B4.out.trans (hb.mono B4.out.size))
  have O5 := Lib.hid (O4.out.below hb)
  clear hb Kw5 B4 O4
  have Kw6 := Lib.hid (ex_exactW w5 tb O5.out (HT.out _ B5.out))
  go_wp2_with fail
  with_reducible refine Kw6.out.mono ?_
  rintro e w6 ⟨hb, rfl⟩
  have B6 := Lib.hid (B5.out.trans (hb.mono B5.out.size))
  have O6 := Lib.hid (O5.out.below hb)
  clear hb Kw6 B5 O5
  have Kw7 := Lib.hid (ex_atW w6 tb O6.out)
  go_wp2_with fail
  with_reducible refine Kw7.out.mono ?_
  rintro e w7 ⟨hb, rfl⟩
  have B7 := Lib.hid (B6.out.trans (hb.mono B6.out.size))
  have O7 := Lib.hid (O6.out.below hb)
  clear hb Kw7 B6 O6
  have KP := Lib.hid (parse_no w7 ⟨#[32, 97, 32, 98]⟩ [32, 97, 32, 98] rfl ex_parse2 (by decide) (by decide) (HT.out _ B7.out))
  go_wp2_with fail
  with_reducible refine KP.out.mono ?_
  rintro e w8 ⟨hb, rfl⟩
  have B8 := Lib.hid ((B7.out.trans (hb.mono B7.out.size)).alloc (Nat.le_trans B7.out.size hb.size) (.cells #[.int .i64 61, .int .i64 0] 27))
  have N8 := Lib.hid (Blk.new w8 27 #[.int .i64 61, .int .i64 0])
  clear hb KP B7 O7
  have KQ := Lib.hid (parse_no (w8.alloc (.cells #[.int .i64 61, .int .i64 0] 27)) ⟨#[97, 32, 98, 10, 97, 32, 99]⟩ [97, 32, 98, 10, 97, 32, 99] rfl ex_parse3 (by decide) (by decide) (HT.out _ B8.out))
  go_wp2_with fail
  with_reducible refine KQ.out.mono ?_
  rintro e w9 ⟨hb, rfl⟩
  have N9 := (N8.out.keep hb).alloc (.cells #[.int .i64 63, .int .i64 4] 27)
  have B9 := Lib.hid ((B8.out.trans (hb.mono B8.out.size)).alloc (Nat.le_trans B8.out.size hb.size) (.cells #[.int .i64 63, .int .i64 4] 27))
  have M9 := Blk.new w9 27 #[.int .i64 63, .int .i64 4]
  have x0 := N9.cell 0
  have x1 := N9.cell 1
  have y0 := M9.cell 0
  have y1 := M9.cell 1
  clear hb KQ N8 N9 M9 B8
  go_wp2
  go_ret
  exact ⟨B9.out, rfl⟩
end Go.Proofs.YtlknclkkhincfaaDoor
