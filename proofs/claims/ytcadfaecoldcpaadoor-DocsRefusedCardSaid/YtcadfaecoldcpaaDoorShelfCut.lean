/-
  A CONTRACT OF THE SHELF LAID AT THIS DUMP, in plain words, by program. Conditions: none.
-/
import Derived.Test.YtcadfaecoldcpaaDoorProg
import Derived.Ground.NamesProg
import Derived.Shelf.Strings.Cut

namespace Go.Proofs.YtcadfaecoldcpaaDoor
open Go.Shelf
def laysCut_ren : Go.Shelf.Ren := ⟨fun | 145 => 78 | 220 => 80 | 219 => 81 | 217 => 82 | 225 => 83 | 224 => 84 | 267 => 85 | 266 => 86 | 314 => 87 | n => n, fun | 9 => 9 | 4 => 4 | 59 => 127 | 3 => 3 | 5 => 5 | 46 => 86 | 146 => 133 | 51 => 102 | n => n, fun | 1 => 2 | n => n⟩
set_option maxRecDepth 100000 in
theorem laysCut : Go.Proofs.Lays.n145 Tryd.prog laysCut_ren := {
  mixed := by kernel_rfl
  f145 := Tryd.func78.trans (congrArg some (by kernel_rfl))
  f217 := Tryd.func82.trans (congrArg some (by kernel_rfl))
  f219 := Tryd.func81.trans (congrArg some (by kernel_rfl))
  f220 := Tryd.func80.trans (congrArg some (by kernel_rfl))
  f224 := Tryd.func84.trans (congrArg some (by kernel_rfl))
  f225 := Tryd.func83.trans (congrArg some (by kernel_rfl))
  f266 := Tryd.func86.trans (congrArg some (by kernel_rfl))
  f267 := Tryd.func85.trans (congrArg some (by kernel_rfl))
  f314 := Tryd.func87.trans (congrArg some (by kernel_rfl))
  t3 := Tryd.underlying3
  a3 := Tryd.isAgg3
  z3 := Tryd.sizeOf3
  v3 := Tryd.zeroValue3
  t4 := Tryd.underlying4
  a4 := Tryd.isAgg4
  z4 := Tryd.sizeOf4
  v4 := Tryd.zeroValue4
  t5 := Tryd.underlying5
  a5 := Tryd.isAgg5
  z5 := Tryd.sizeOf5
  v5 := Tryd.zeroValue5
  t9 := Tryd.underlying9
  a9 := Tryd.isAgg9
  z9 := Tryd.sizeOf9
  v9 := Tryd.zeroValue9
  t46 := Tryd.underlying86
  a46 := Tryd.isAgg86
  z46 := Tryd.sizeOf86
  v46 := Tryd.zeroValue86
  t51 := Tryd.underlying102
  a51 := Tryd.isAgg102
  z51 := Tryd.sizeOf102
  v51 := Tryd.zeroValue102
  t59 := Tryd.underlying127
  a59 := Tryd.isAgg127
  z59 := Tryd.sizeOf127
  v59 := Tryd.zeroValue127
  t146 := Tryd.underlying133
  a146 := Tryd.isAgg133
  z146 := Tryd.sizeOf133
  v146 := Tryd.zeroValue133
  g1 := by kernel_rfl }
end Go.Proofs.YtcadfaecoldcpaaDoor
