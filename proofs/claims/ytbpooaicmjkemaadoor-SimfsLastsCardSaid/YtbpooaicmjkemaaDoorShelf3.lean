/-
  DERIVED: THE SHELF's CONTRACTS AT THIS DUMP, IN PLAIN WORDS (tools/lay-plain.mjs out of 'TrydIter0.lean', which tools/lay-shelf.mjs wrote): THE SAME DECLARATIONS UNDER THE SAME NAMES: 'import', 'namespace', 'open', 'def', 'theorem' AND NOTHING ELSE: no command of the shelf's: FOR A HAND-IN. Each laying: the table of numbers ('.._ren') and one theorem, a field a fact of the dump's own or the kernel's comparison; each contract: ONE APPLICATION.
-/
import Derived.Shelf.SlIter.Sorted
import Derived.Shelf.SortM.Plain
import Derived.Shelf.SortM.SortNone
import Derived.Shelf.SlMaps.Clone
import Derived.Ground.GgzProg
import Derived.Ground.SlgmProg
import Derived.Ground.SlmcProg
import Derived.Test.YtbpooaicmjkemaaDoorProg
namespace Go.Proofs
open Go.Shelf
def Tryd.sortedV_ren : Go.Shelf.Ren := ⟨fun | 6 => 16 | 8 => 43 | 9 => 44 | 11 => 57 | 13 => 59 | 12 => 58 | 23 => 77 | 24 => 78 | 14 => 68 | 15 => 69 | 16 => 70 | 17 => 71 | 18 => 72 | 19 => 73 | 20 => 74 | 21 => 75 | 22 => 76 | 25 => 84 | 26 => 85 | 27 => 86 | 28 => 87 | 29 => 88 | 30 => 89 | 31 => 97 | n => n, fun | 26 => 9 | 28 => 47 | 24 => 32 | 0 => 0 | 3 => 3 | 37 => 96 | 48 => 113 | 50 => 115 | 4 => 4 | 40 => 106 | 39 => 105 | 45 => 110 | 5 => 5 | 9 => 9 | 51 => 121 | 55 => 125 | 57 => 130 | 58 => 131 | 33 => 49 | n => n, fun | n => n⟩
theorem Tryd.sortedV : Go.Proofs.SlLaysZ.n6 Tryd.prog Tryd.sortedV_ren := {
  mixed := by kernel_rfl
  f6 := ⟨Tryd.f16.name, by decide, Tryd.func16.trans (congrArg some (by kernel_rfl))⟩
  f8 := ⟨Tryd.f43.name, by decide, Tryd.func43.trans (congrArg some (by kernel_rfl))⟩
  f11 := ⟨Tryd.f57.name, by decide, Tryd.func57.trans (congrArg some (by kernel_rfl))⟩
  t0 := Tryd.underlying0
  a0 := Tryd.isAgg0
  z0 := Tryd.sizeOf0
  v0 := Tryd.zeroValue0
  t24 := Tryd.underlying32
  a24 := Tryd.isAgg32
  z24 := Tryd.sizeOf32
  v24 := Tryd.zeroValue32
  t26 := Tryd.underlying9
  a26 := Tryd.isAgg9
  z26 := Tryd.sizeOf9
  v26 := Tryd.zeroValue9
  t28 := Tryd.underlying47
  a28 := Tryd.isAgg47
  z28 := Tryd.sizeOf47
  v28 := Tryd.zeroValue47
  i26 := by kernel_rfl }
def Tryd.sortV_ren : Go.Shelf.Ren := ⟨fun | 6 => 44 | 8 => 59 | 9 => 58 | 19 => 77 | 20 => 78 | 21 => 68 | 22 => 69 | 23 => 70 | 24 => 71 | 25 => 72 | 26 => 73 | 27 => 74 | 28 => 75 | 29 => 76 | 36 => 84 | 31 => 85 | 32 => 86 | 37 => 87 | 38 => 88 | 39 => 89 | 41 => 97 | n => n, fun | 27 => 32 | 29 => 9 | 3 => 3 | 32 => 96 | 26 => 32 | 0 => 0 | 44 => 113 | 46 => 115 | 4 => 4 | 36 => 106 | 35 => 105 | 41 => 110 | 5 => 5 | 9 => 9 | 53 => 121 | 57 => 125 | 63 => 130 | 64 => 131 | n => n, fun | n => n⟩
theorem Tryd.sortV : Go.Proofs.SlLaysM.n6 Tryd.prog Tryd.sortV_ren := {
  mixed := by kernel_rfl
  f6 := ⟨Tryd.f44.name, by decide, Tryd.func44.trans (congrArg some (by kernel_rfl))⟩
  f8 := Tryd.func59.trans (congrArg some (by kernel_rfl))
  f9 := ⟨Tryd.f58.name, by decide, Tryd.func58.trans (congrArg some (by kernel_rfl))⟩
  f19 := Tryd.func77.trans (congrArg some (by kernel_rfl))
  f20 := Tryd.func78.trans (congrArg some (by kernel_rfl))
  f21 := ⟨Tryd.f68.name, by decide, Tryd.func68.trans (congrArg some (by kernel_rfl))⟩
  f22 := ⟨Tryd.f69.name, by decide, Tryd.func69.trans (congrArg some (by kernel_rfl))⟩
  f23 := ⟨Tryd.f70.name, by decide, Tryd.func70.trans (congrArg some (by kernel_rfl))⟩
  f24 := ⟨Tryd.f71.name, by decide, Tryd.func71.trans (congrArg some (by kernel_rfl))⟩
  f25 := ⟨Tryd.f72.name, by decide, Tryd.func72.trans (congrArg some (by kernel_rfl))⟩
  f26 := ⟨Tryd.f73.name, by decide, Tryd.func73.trans (congrArg some (by kernel_rfl))⟩
  f27 := ⟨Tryd.f74.name, by decide, Tryd.func74.trans (congrArg some (by kernel_rfl))⟩
  f28 := ⟨Tryd.f75.name, by decide, Tryd.func75.trans (congrArg some (by kernel_rfl))⟩
  f29 := ⟨Tryd.f76.name, by decide, Tryd.func76.trans (congrArg some (by kernel_rfl))⟩
  f31 := Tryd.func85.trans (congrArg some (by kernel_rfl))
  f32 := Tryd.func86.trans (congrArg some (by kernel_rfl))
  f36 := ⟨Tryd.f84.name, by decide, Tryd.func84.trans (congrArg some (by kernel_rfl))⟩
  f37 := ⟨Tryd.f87.name, by decide, Tryd.func87.trans (congrArg some (by kernel_rfl))⟩
  f38 := ⟨Tryd.f88.name, by decide, Tryd.func88.trans (congrArg some (by kernel_rfl))⟩
  f39 := ⟨Tryd.f89.name, by decide, Tryd.func89.trans (congrArg some (by kernel_rfl))⟩
  f41 := ⟨Tryd.f97.name, by decide, Tryd.func97.trans (congrArg some (by kernel_rfl))⟩
  t0 := Tryd.underlying0
  a0 := Tryd.isAgg0
  z0 := Tryd.sizeOf0
  v0 := Tryd.zeroValue0
  t3 := Tryd.underlying3
  a3 := Tryd.isAgg3
  z3 := Tryd.sizeOf3
  v3 := Tryd.zeroValue3
  t4 := Tryd.underlying4
  a4 := Tryd.isAgg4
  z4 := Tryd.sizeOf4
  v4 := Tryd.zeroValue4
  t5 := Tryd.underlying5
  a5 := Tryd.isAgg5
  z5 := Tryd.sizeOf5
  v5 := Tryd.zeroValue5
  t9 := Tryd.underlying9
  a9 := Tryd.isAgg9
  z9 := Tryd.sizeOf9
  v9 := Tryd.zeroValue9
  t26 := Tryd.underlying32
  a26 := Tryd.isAgg32
  z26 := Tryd.sizeOf32
  v26 := Tryd.zeroValue32
  t27 := Tryd.underlying32
  a27 := Tryd.isAgg32
  z27 := Tryd.sizeOf32
  v27 := Tryd.zeroValue32
  t29 := Tryd.underlying9
  a29 := Tryd.isAgg9
  z29 := Tryd.sizeOf9
  v29 := Tryd.zeroValue9
  t32 := Tryd.underlying96
  a32 := Tryd.isAgg96
  z32 := Tryd.sizeOf96
  v32 := Tryd.zeroValue96
  t35 := Tryd.underlying105
  a35 := Tryd.isAgg105
  z35 := Tryd.sizeOf105
  v35 := Tryd.zeroValue105
  t36 := Tryd.underlying106
  a36 := Tryd.isAgg106
  z36 := Tryd.sizeOf106
  v36 := Tryd.zeroValue106
  t41 := Tryd.underlying110
  a41 := Tryd.isAgg110
  z41 := Tryd.sizeOf110
  v41 := Tryd.zeroValue110
  t44 := Tryd.underlying113
  a44 := Tryd.isAgg113
  z44 := Tryd.sizeOf113
  v44 := Tryd.zeroValue113
  t46 := Tryd.underlying115
  a46 := Tryd.isAgg115
  z46 := Tryd.sizeOf115
  v46 := Tryd.zeroValue115
  t53 := Tryd.underlying121
  a53 := Tryd.isAgg121
  z53 := Tryd.sizeOf121
  v53 := Tryd.zeroValue121
  t57 := Tryd.underlying125
  a57 := Tryd.isAgg125
  z57 := Tryd.sizeOf125
  v57 := Tryd.zeroValue125
  t63 := Tryd.underlying130
  a63 := Tryd.isAgg130
  z63 := Tryd.sizeOf130
  v63 := Tryd.zeroValue130
  t64 := Tryd.underlying131
  a64 := Tryd.isAgg131
  z64 := Tryd.sizeOf131
  v64 := Tryd.zeroValue131 }
def Tryd.mcloneV_ren : Go.Shelf.Ren := ⟨fun | 5 => 40 | 7 => 56 | n => n, fun | 23 => 52 | 25 => 9 | 3 => 60 | 4 => 4 | 20 => 20 | n => n, fun | n => n⟩
theorem Tryd.mcloneV : Go.Proofs.SlLaysW.n5 Tryd.prog Tryd.mcloneV_ren := {
  mixed := by kernel_rfl
  f5 := ⟨Tryd.f40.name, by decide, Tryd.func40.trans (congrArg some (by kernel_rfl))⟩
  f7 := Tryd.func56.trans (congrArg some (by kernel_rfl))
  t4 := Tryd.underlying4
  a4 := Tryd.isAgg4
  z4 := Tryd.sizeOf4
  v4 := Tryd.zeroValue4
  t20 := Tryd.underlying20
  a20 := Tryd.isAgg20
  z20 := Tryd.sizeOf20
  v20 := Tryd.zeroValue20
  t23 := Tryd.underlying52
  a23 := Tryd.isAgg52
  z23 := Tryd.sizeOf52
  v23 := Tryd.zeroValue52 }
end Go.Proofs
