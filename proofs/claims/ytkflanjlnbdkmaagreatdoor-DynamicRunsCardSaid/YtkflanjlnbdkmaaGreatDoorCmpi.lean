/- The library's sort at this dump's numbers, in plain words: printed by a program. -/
import Derived.Test.YtkflanjlnbdkmaaGreatDoorChecked
import Derived.Shelf.Slices.Cells
namespace Go.Proofs.YtkflanjlnbdkmaaGreatDoor
open Go.Shelf Go.RowKit Go.Lib Go.Sort
def compI_ren : Go.Shelf.Ren := ⟨fun | 20 => 47 | n => n, fun | 22 => 25 | 3 => 3 | 4 => 4 | 0 => 0 | n => n, fun | n => n⟩
theorem compI : Go.Proofs.Lays2.n20 Tryz.prog compI_ren := {
  mixed := by kernel_rfl,
  f20 := Tryz.func47.trans (congrArg some (by kernel_rfl)),
  t0 := Tryz.underlying0,
  a0 := Tryz.isAgg0,
  z0 := Tryz.sizeOf0,
  v0 := Tryz.zeroValue0,
  t3 := Tryz.underlying3,
  a3 := Tryz.isAgg3,
  z3 := Tryz.sizeOf3,
  v3 := Tryz.zeroValue3,
  t4 := Tryz.underlying4,
  a4 := Tryz.isAgg4,
  z4 := Tryz.sizeOf4,
  v4 := Tryz.zeroValue4,
  t22 := Tryz.underlying25,
  a22 := Tryz.isAgg25,
  z22 := Tryz.sizeOf25,
  v22 := Tryz.zeroValue25,
  i3 := by kernel_rfl }
end Go.Proofs.YtkflanjlnbdkmaaGreatDoor
