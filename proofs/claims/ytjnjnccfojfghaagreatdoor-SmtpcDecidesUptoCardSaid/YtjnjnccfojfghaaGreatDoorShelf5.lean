/-
  DERIVED: THE SHELF's CONTRACTS AT THIS DUMP, IN PLAIN WORDS (tools/lay-plain.mjs out of 'TryzIter0.lean', which tools/lay-shelf.mjs wrote): THE SAME DECLARATIONS UNDER THE SAME NAMES: 'import', 'namespace', 'open', 'def', 'theorem' AND NOTHING ELSE: no command of the shelf's: FOR A HAND-IN. Each laying: the table of numbers ('.._ren') and one theorem, a field a fact of the dump's own or the kernel's comparison; each contract: ONE APPLICATION.
-/
import Derived.Shelf.Lays7
import Derived.Shelf.SlLaysV
import Derived.Ground.Names7Prog
import Derived.Ground.SlbvProg
import Derived.Test.YtjnjnccfojfghaaGreatDoorProg
namespace Go.Proofs
open Go.Shelf
def Tryz.laysDR_ren : Go.Shelf.Ren := ⟨fun | 32 => 125 | 49 => 167 | n => n, fun | 30 => 25 | 21 => 21 | 3 => 3 | 0 => 0 | 5 => 5 | 4 => 4 | 33 => 150 | 66 => 204 | 25 => 143 | 69 => 207 | 68 => 206 | n => n, fun | 2 => 1 | 3 => 2 | n => n⟩
theorem Tryz.laysDR : Go.Proofs.Lays7.n32 Tryz.prog Tryz.laysDR_ren := {
  mixed := by kernel_rfl
  f32 := Tryz.func125.trans (congrArg some (by kernel_rfl))
  f49 := Tryz.func167.trans (congrArg some (by kernel_rfl))
  t0 := Tryz.underlying0
  a0 := Tryz.isAgg0
  z0 := Tryz.sizeOf0
  v0 := Tryz.zeroValue0
  i0 := by kernel_rfl
  t3 := Tryz.underlying3
  a3 := Tryz.isAgg3
  z3 := Tryz.sizeOf3
  v3 := Tryz.zeroValue3
  i3 := by kernel_rfl
  t4 := Tryz.underlying4
  a4 := Tryz.isAgg4
  z4 := Tryz.sizeOf4
  v4 := Tryz.zeroValue4
  i4 := by kernel_rfl
  t5 := Tryz.underlying5
  a5 := Tryz.isAgg5
  z5 := Tryz.sizeOf5
  v5 := Tryz.zeroValue5
  i5 := by kernel_rfl
  t21 := Tryz.underlying21
  a21 := Tryz.isAgg21
  z21 := Tryz.sizeOf21
  v21 := Tryz.zeroValue21
  i21 := by kernel_rfl
  t25 := Tryz.underlying143
  a25 := Tryz.isAgg143
  z25 := Tryz.sizeOf143
  v25 := Tryz.zeroValue143
  i25 := by kernel_rfl
  t30 := Tryz.underlying25
  a30 := Tryz.isAgg25
  z30 := Tryz.sizeOf25
  v30 := Tryz.zeroValue25
  i30 := by kernel_rfl
  t33 := Tryz.underlying150
  a33 := Tryz.isAgg150
  z33 := Tryz.sizeOf150
  v33 := Tryz.zeroValue150
  i33 := by kernel_rfl
  t66 := Tryz.underlying204
  a66 := Tryz.isAgg204
  z66 := Tryz.sizeOf204
  t68 := Tryz.underlying206
  a68 := Tryz.isAgg206
  z68 := Tryz.sizeOf206
  v68 := Tryz.zeroValue206
  i68 := by kernel_rfl
  t69 := Tryz.underlying207
  a69 := Tryz.isAgg207
  z69 := Tryz.sizeOf207
  v69 := Tryz.zeroValue207
  i69 := by kernel_rfl
  g2 := by kernel_rfl
  g3 := by kernel_rfl }
def Tryz.laysMk_ren : Go.Shelf.Ren := ⟨fun | 11 => 162 | n => n, fun | 9 => 9 | 27 => 174 | 4 => 4 | 0 => 0 | 3 => 3 | 5 => 5 | n => n, fun | n => n⟩
theorem Tryz.laysMk : Go.Proofs.SlLaysV.n11 Tryz.prog Tryz.laysMk_ren := {
  mixed := by kernel_rfl
  f11 := Tryz.func162.trans (congrArg some (by kernel_rfl))
  t0 := Tryz.underlying0
  a0 := Tryz.isAgg0
  z0 := Tryz.sizeOf0
  v0 := Tryz.zeroValue0
  t3 := Tryz.underlying3
  a3 := Tryz.isAgg3
  z3 := Tryz.sizeOf3
  v3 := Tryz.zeroValue3
  t4 := Tryz.underlying4
  a4 := Tryz.isAgg4
  z4 := Tryz.sizeOf4
  v4 := Tryz.zeroValue4
  t5 := Tryz.underlying5
  a5 := Tryz.isAgg5
  z5 := Tryz.sizeOf5
  v5 := Tryz.zeroValue5
  t9 := Tryz.underlying9
  a9 := Tryz.isAgg9
  z9 := Tryz.sizeOf9
  v9 := Tryz.zeroValue9
  t27 := Tryz.underlying174
  a27 := Tryz.isAgg174
  z27 := Tryz.sizeOf174 }
def Tryz.laysCt_ren : Go.Shelf.Ren := ⟨fun | 16 => 163 | n => n, fun | 31 => 203 | 5 => 5 | 4 => 4 | 0 => 0 | 27 => 174 | n => n, fun | n => n⟩
theorem Tryz.laysCt : Go.Proofs.SlLaysV.n16 Tryz.prog Tryz.laysCt_ren := {
  mixed := by kernel_rfl
  f16 := Tryz.func163.trans (congrArg some (by kernel_rfl))
  t0 := Tryz.underlying0
  a0 := Tryz.isAgg0
  z0 := Tryz.sizeOf0
  v0 := Tryz.zeroValue0
  t4 := Tryz.underlying4
  a4 := Tryz.isAgg4
  z4 := Tryz.sizeOf4
  v4 := Tryz.zeroValue4
  t5 := Tryz.underlying5
  a5 := Tryz.isAgg5
  z5 := Tryz.sizeOf5
  v5 := Tryz.zeroValue5
  t27 := Tryz.underlying174
  a27 := Tryz.isAgg174
  z27 := Tryz.sizeOf174
  t31 := Tryz.underlying203
  a31 := Tryz.isAgg203
  z31 := Tryz.sizeOf203
  v31 := Tryz.zeroValue203 }
end Go.Proofs
