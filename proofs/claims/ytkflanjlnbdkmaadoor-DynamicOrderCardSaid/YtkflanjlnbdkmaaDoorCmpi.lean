/- The library's sort at this dump's numbers, in plain words: printed by a program. -/
import Derived.Test.YtkflanjlnbdkmaaDoorChecked
import Derived.Shelf.Slices.Cells
namespace Go.Proofs.YtkflanjlnbdkmaaDoor
open Go.Shelf Go.RowKit Go.Lib Go.Sort
def compI_ren : Go.Shelf.Ren := ⟨fun | 20 => 90 | n => n, fun | 22 => 25 | 3 => 3 | 4 => 4 | 0 => 0 | n => n, fun | n => n⟩
theorem compI : Go.Proofs.Lays2.n20 Tryd.prog compI_ren := {
  mixed := by kernel_rfl,
  f20 := Tryd.func90.trans (congrArg some (by kernel_rfl)),
  t0 := Tryd.underlying0,
  a0 := Tryd.isAgg0,
  z0 := Tryd.sizeOf0,
  v0 := Tryd.zeroValue0,
  t3 := Tryd.underlying3,
  a3 := Tryd.isAgg3,
  z3 := Tryd.sizeOf3,
  v3 := Tryd.zeroValue3,
  t4 := Tryd.underlying4,
  a4 := Tryd.isAgg4,
  z4 := Tryd.sizeOf4,
  v4 := Tryd.zeroValue4,
  t22 := Tryd.underlying25,
  a22 := Tryd.isAgg25,
  z22 := Tryd.sizeOf25,
  v22 := Tryd.zeroValue25,
  i3 := by kernel_rfl }
end Go.Proofs.YtkflanjlnbdkmaaDoor
