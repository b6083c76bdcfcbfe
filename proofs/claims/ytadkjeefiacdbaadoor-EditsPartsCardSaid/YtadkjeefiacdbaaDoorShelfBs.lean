/-
  A CONTRACT OF THE SHELF LAID AT THIS DUMP, in plain words, by program. Conditions: none.
-/
import Derived.Test.YtadkjeefiacdbaaDoorProg
import Derived.Ground.NamesProg

import Derived.Shelf.Slices.SearchI
namespace Go.Proofs.YtadkjeefiacdbaaDoor
open Go.Shelf
def laysBs_ren : Go.Shelf.Ren := ⟨fun | 25 => 35 | 31 => 51 | 32 => 52 | 37 => 57 | n => n, fun | 22 => 62 | 3 => 3 | 4 => 4 | 40 => 87 | 0 => 0 | n => n, fun | n => n⟩
theorem laysBs : Go.Proofs.Lays2.n25 Tryd.prog laysBs_ren := {
  mixed := by kernel_rfl
  f25 := Tryd.func35.trans (congrArg some (by kernel_rfl))
  f31 := Tryd.func51.trans (congrArg some (by kernel_rfl))
  f32 := Tryd.func52.trans (congrArg some (by kernel_rfl))
  f37 := Tryd.func57.trans (congrArg some (by kernel_rfl))
  t0 := Tryd.underlying0
  a0 := Tryd.isAgg0
  z0 := Tryd.sizeOf0
  v0 := Tryd.zeroValue0
  t3 := Tryd.underlying3
  a3 := Tryd.isAgg3
  z3 := Tryd.sizeOf3
  v3 := Tryd.zeroValue3
  t4 := Tryd.underlying4
  a4 := Tryd.isAgg4
  z4 := Tryd.sizeOf4
  v4 := Tryd.zeroValue4
  t22 := Tryd.underlying62
  a22 := Tryd.isAgg62
  z22 := Tryd.sizeOf62
  v22 := Tryd.zeroValue62
  t40 := Tryd.underlying87
  a40 := Tryd.isAgg87
  z40 := Tryd.sizeOf87
  v40 := Tryd.zeroValue87 }
end Go.Proofs.YtadkjeefiacdbaaDoor
