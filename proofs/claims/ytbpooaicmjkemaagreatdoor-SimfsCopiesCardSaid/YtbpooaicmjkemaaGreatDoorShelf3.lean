/-
  DERIVED: THE SHELF's CONTRACTS AT THIS DUMP, IN PLAIN WORDS (tools/lay-plain.mjs out of 'TryzIter0.lean', which tools/lay-shelf.mjs wrote): THE SAME DECLARATIONS UNDER THE SAME NAMES: 'import', 'namespace', 'open', 'def', 'theorem' AND NOTHING ELSE: no command of the shelf's: FOR A HAND-IN. Each laying: the table of numbers ('.._ren') and one theorem, a field a fact of the dump's own or the kernel's comparison; each contract: ONE APPLICATION.
-/
import Derived.Shelf.SlIter.Sorted
import Derived.Shelf.SortM.Plain
import Derived.Shelf.SortM.SortNone
import Derived.Shelf.SlMaps.Clone
import Derived.Ground.GgzProg
import Derived.Ground.SlgmProg
import Derived.Ground.SlmcProg
import Derived.Test.YtbpooaicmjkemaaGreatDoorProg
namespace Go.Proofs
open Go.Shelf
def Tryz.sortedV_ren : Go.Shelf.Ren := ⟨fun | 6 => 25 | 8 => 78 | 9 => 79 | 11 => 110 | 13 => 112 | 12 => 111 | 23 => 134 | 24 => 135 | 14 => 125 | 15 => 126 | 16 => 127 | 17 => 128 | 18 => 129 | 19 => 130 | 20 => 131 | 21 => 132 | 22 => 133 | 25 => 143 | 26 => 144 | 27 => 145 | 28 => 146 | 29 => 147 | 30 => 148 | 31 => 156 | n => n, fun | 26 => 9 | 28 => 60 | 24 => 32 | 0 => 0 | 3 => 3 | 37 => 149 | 48 => 167 | 50 => 169 | 4 => 4 | 40 => 161 | 39 => 160 | 45 => 41 | 5 => 5 | 9 => 9 | 51 => 177 | 55 => 181 | 57 => 186 | 58 => 187 | 33 => 62 | n => n, fun | n => n⟩
theorem Tryz.sortedV : Go.Proofs.SlLaysZ.n6 Tryz.prog Tryz.sortedV_ren := {
  mixed := by kernel_rfl
  f6 := ⟨Tryz.f25.name, by decide, Tryz.func25.trans (congrArg some (by kernel_rfl))⟩
  f8 := ⟨Tryz.f78.name, by decide, Tryz.func78.trans (congrArg some (by kernel_rfl))⟩
  f11 := ⟨Tryz.f110.name, by decide, Tryz.func110.trans (congrArg some (by kernel_rfl))⟩
  t0 := Tryz.underlying0
  a0 := Tryz.isAgg0
  z0 := Tryz.sizeOf0
  v0 := Tryz.zeroValue0
  t24 := Tryz.underlying32
  a24 := Tryz.isAgg32
  z24 := Tryz.sizeOf32
  v24 := Tryz.zeroValue32
  t26 := Tryz.underlying9
  a26 := Tryz.isAgg9
  z26 := Tryz.sizeOf9
  v26 := Tryz.zeroValue9
  t28 := Tryz.underlying60
  a28 := Tryz.isAgg60
  z28 := Tryz.sizeOf60
  v28 := Tryz.zeroValue60
  i26 := by kernel_rfl }
def Tryz.sortV_ren : Go.Shelf.Ren := ⟨fun | 6 => 79 | 8 => 112 | 9 => 111 | 19 => 134 | 20 => 135 | 21 => 125 | 22 => 126 | 23 => 127 | 24 => 128 | 25 => 129 | 26 => 130 | 27 => 131 | 28 => 132 | 29 => 133 | 36 => 143 | 31 => 144 | 32 => 145 | 37 => 146 | 38 => 147 | 39 => 148 | 41 => 156 | n => n, fun | 27 => 32 | 29 => 9 | 3 => 3 | 32 => 149 | 26 => 32 | 0 => 0 | 44 => 167 | 46 => 169 | 4 => 4 | 36 => 161 | 35 => 160 | 41 => 41 | 5 => 5 | 9 => 9 | 53 => 177 | 57 => 181 | 63 => 186 | 64 => 187 | n => n, fun | n => n⟩
theorem Tryz.sortV : Go.Proofs.SlLaysM.n6 Tryz.prog Tryz.sortV_ren := {
  mixed := by kernel_rfl
  f6 := ⟨Tryz.f79.name, by decide, Tryz.func79.trans (congrArg some (by kernel_rfl))⟩
  f8 := Tryz.func112.trans (congrArg some (by kernel_rfl))
  f9 := ⟨Tryz.f111.name, by decide, Tryz.func111.trans (congrArg some (by kernel_rfl))⟩
  f19 := Tryz.func134.trans (congrArg some (by kernel_rfl))
  f20 := Tryz.func135.trans (congrArg some (by kernel_rfl))
  f21 := ⟨Tryz.f125.name, by decide, Tryz.func125.trans (congrArg some (by kernel_rfl))⟩
  f22 := ⟨Tryz.f126.name, by decide, Tryz.func126.trans (congrArg some (by kernel_rfl))⟩
  f23 := ⟨Tryz.f127.name, by decide, Tryz.func127.trans (congrArg some (by kernel_rfl))⟩
  f24 := ⟨Tryz.f128.name, by decide, Tryz.func128.trans (congrArg some (by kernel_rfl))⟩
  f25 := ⟨Tryz.f129.name, by decide, Tryz.func129.trans (congrArg some (by kernel_rfl))⟩
  f26 := ⟨Tryz.f130.name, by decide, Tryz.func130.trans (congrArg some (by kernel_rfl))⟩
  f27 := ⟨Tryz.f131.name, by decide, Tryz.func131.trans (congrArg some (by kernel_rfl))⟩
  f28 := ⟨Tryz.f132.name, by decide, Tryz.func132.trans (congrArg some (by kernel_rfl))⟩
  f29 := ⟨Tryz.f133.name, by decide, Tryz.func133.trans (congrArg some (by kernel_rfl))⟩
  f31 := Tryz.func144.trans (congrArg some (by kernel_rfl))
  f32 := Tryz.func145.trans (congrArg some (by kernel_rfl))
  f36 := ⟨Tryz.f143.name, by decide, Tryz.func143.trans (congrArg some (by kernel_rfl))⟩
  f37 := ⟨Tryz.f146.name, by decide, Tryz.func146.trans (congrArg some (by kernel_rfl))⟩
  f38 := ⟨Tryz.f147.name, by decide, Tryz.func147.trans (congrArg some (by kernel_rfl))⟩
  f39 := ⟨Tryz.f148.name, by decide, Tryz.func148.trans (congrArg some (by kernel_rfl))⟩
  f41 := ⟨Tryz.f156.name, by decide, Tryz.func156.trans (congrArg some (by kernel_rfl))⟩
  t0 := Tryz.underlying0
  a0 := Tryz.isAgg0
  z0 := Tryz.sizeOf0
  v0 := Tryz.zeroValue0
  t3 := Tryz.underlying3
  a3 := Tryz.isAgg3
  z3 := Tryz.sizeOf3
  v3 := Tryz.zeroValue3
  t4 := Tryz.underlying4
  a4 := Tryz.isAgg4
  z4 := Tryz.sizeOf4
  v4 := Tryz.zeroValue4
  t5 := Tryz.underlying5
  a5 := Tryz.isAgg5
  z5 := Tryz.sizeOf5
  v5 := Tryz.zeroValue5
  t9 := Tryz.underlying9
  a9 := Tryz.isAgg9
  z9 := Tryz.sizeOf9
  v9 := Tryz.zeroValue9
  t26 := Tryz.underlying32
  a26 := Tryz.isAgg32
  z26 := Tryz.sizeOf32
  v26 := Tryz.zeroValue32
  t27 := Tryz.underlying32
  a27 := Tryz.isAgg32
  z27 := Tryz.sizeOf32
  v27 := Tryz.zeroValue32
  t29 := Tryz.underlying9
  a29 := Tryz.isAgg9
  z29 := Tryz.sizeOf9
  v29 := Tryz.zeroValue9
  t32 := Tryz.underlying149
  a32 := Tryz.isAgg149
  z32 := Tryz.sizeOf149
  v32 := Tryz.zeroValue149
  t35 := Tryz.underlying160
  a35 := Tryz.isAgg160
  z35 := Tryz.sizeOf160
  v35 := Tryz.zeroValue160
  t36 := Tryz.underlying161
  a36 := Tryz.isAgg161
  z36 := Tryz.sizeOf161
  v36 := Tryz.zeroValue161
  t41 := Tryz.underlying41
  a41 := Tryz.isAgg41
  z41 := Tryz.sizeOf41
  v41 := Tryz.zeroValue41
  t44 := Tryz.underlying167
  a44 := Tryz.isAgg167
  z44 := Tryz.sizeOf167
  v44 := Tryz.zeroValue167
  t46 := Tryz.underlying169
  a46 := Tryz.isAgg169
  z46 := Tryz.sizeOf169
  v46 := Tryz.zeroValue169
  t53 := Tryz.underlying177
  a53 := Tryz.isAgg177
  z53 := Tryz.sizeOf177
  v53 := Tryz.zeroValue177
  t57 := Tryz.underlying181
  a57 := Tryz.isAgg181
  z57 := Tryz.sizeOf181
  v57 := Tryz.zeroValue181
  t63 := Tryz.underlying186
  a63 := Tryz.isAgg186
  z63 := Tryz.sizeOf186
  v63 := Tryz.zeroValue186
  t64 := Tryz.underlying187
  a64 := Tryz.isAgg187
  z64 := Tryz.sizeOf187
  v64 := Tryz.zeroValue187 }
def Tryz.mcloneV_ren : Go.Shelf.Ren := ⟨fun | 5 => 46 | 7 => 91 | n => n, fun | 23 => 65 | 25 => 9 | 3 => 70 | 4 => 4 | 20 => 20 | n => n, fun | n => n⟩
theorem Tryz.mcloneV : Go.Proofs.SlLaysW.n5 Tryz.prog Tryz.mcloneV_ren := {
  mixed := by kernel_rfl
  f5 := ⟨Tryz.f46.name, by decide, Tryz.func46.trans (congrArg some (by kernel_rfl))⟩
  f7 := Tryz.func91.trans (congrArg some (by kernel_rfl))
  t4 := Tryz.underlying4
  a4 := Tryz.isAgg4
  z4 := Tryz.sizeOf4
  v4 := Tryz.zeroValue4
  t20 := Tryz.underlying20
  a20 := Tryz.isAgg20
  z20 := Tryz.sizeOf20
  v20 := Tryz.zeroValue20
  t23 := Tryz.underlying65
  a23 := Tryz.isAgg65
  z23 := Tryz.sizeOf65
  v23 := Tryz.zeroValue65 }
end Go.Proofs
