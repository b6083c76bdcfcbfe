/-
  A CONTRACT OF THE SHELF LAID AT THIS DUMP, in plain words, by program. Conditions: none.
-/
import Derived.Test.YtodhmkgfeliclaaDoorProg
import Derived.Ground.NamesProg
import Derived.Shelf.Unicode.ValidAny
namespace Go.Proofs.YtodhmkgfeliclaaDoor
open Go.Shelf
def laysValid_ren : Go.Shelf.Ren := ⟨fun | 196 => 24 | 259 => 26 | n => n, fun | 9 => 9 | 4 => 4 | 3 => 3 | 5 => 5 | 12 => 12 | 119 => 45 | 0 => 0 | 46 => 49 | 139 => 48 | 138 => 47 | 53 => 50 | n => n, fun | 3 => 0 | 4 => 1 | n => n⟩
theorem laysValid : Go.Proofs.Lays.n196 Tryd.prog laysValid_ren := {
  mixed := by kernel_rfl
  f196 := Tryd.func24.trans (congrArg some (by kernel_rfl))
  f259 := Tryd.func26.trans (congrArg some (by kernel_rfl))
  t0 := Tryd.underlying0
  a0 := Tryd.isAgg0
  z0 := Tryd.sizeOf0
  v0 := Tryd.zeroValue0
  t3 := Tryd.underlying3
  a3 := Tryd.isAgg3
  z3 := Tryd.sizeOf3
  v3 := Tryd.zeroValue3
  t4 := Tryd.underlying4
  a4 := Tryd.isAgg4
  z4 := Tryd.sizeOf4
  v4 := Tryd.zeroValue4
  t5 := Tryd.underlying5
  a5 := Tryd.isAgg5
  z5 := Tryd.sizeOf5
  v5 := Tryd.zeroValue5
  t9 := Tryd.underlying9
  a9 := Tryd.isAgg9
  z9 := Tryd.sizeOf9
  v9 := Tryd.zeroValue9
  t12 := Tryd.underlying12
  a12 := Tryd.isAgg12
  z12 := Tryd.sizeOf12
  v12 := Tryd.zeroValue12
  t46 := Tryd.underlying49
  a46 := Tryd.isAgg49
  z46 := Tryd.sizeOf49
  v46 := Tryd.zeroValue49
  t53 := Tryd.underlying50
  a53 := Tryd.isAgg50
  z53 := Tryd.sizeOf50
  v53 := Tryd.zeroValue50
  t119 := Tryd.underlying45
  a119 := Tryd.isAgg45
  z119 := Tryd.sizeOf45
  t138 := Tryd.underlying47
  a138 := Tryd.isAgg47
  z138 := Tryd.sizeOf47
  v138 := Tryd.zeroValue47
  t139 := Tryd.underlying48
  a139 := Tryd.isAgg48
  z139 := Tryd.sizeOf48
  v139 := Tryd.zeroValue48
  g3 := by kernel_rfl
  g4 := by kernel_rfl }
end Go.Proofs.YtodhmkgfeliclaaDoor
