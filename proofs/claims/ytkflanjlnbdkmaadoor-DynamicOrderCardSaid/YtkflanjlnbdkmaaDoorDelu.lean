/- The library's sort at this dump's numbers, in plain words: printed by a program. -/
import Derived.Test.YtkflanjlnbdkmaaDoorChecked
import Derived.Shelf.SlicesE.Delete
namespace Go.Proofs.YtkflanjlnbdkmaaDoor
open Go.Shelf Go.RowKit Go.Lib Go.Sort
def delU_ren : Go.Shelf.Ren := ⟨fun | 45 => 59 | n => n, fun | 22 => 68 | 23 => 70 | 3 => 3 | 4 => 4 | 0 => 0 | n => n, fun | n => n⟩
theorem delU : Go.Proofs.SlLaysE.n45 Tryd.prog delU_ren := {
  mixed := by kernel_rfl,
  f45 := ⟨Tryd.f59.name, by decide, Tryd.func59.trans (congrArg some (by kernel_rfl))⟩,
  t0 := Tryd.underlying0,
  a0 := Tryd.isAgg0,
  z0 := Tryd.sizeOf0,
  v0 := Tryd.zeroValue0,
  t3 := Tryd.underlying3,
  a3 := Tryd.isAgg3,
  z3 := Tryd.sizeOf3,
  v3 := Tryd.zeroValue3,
  t4 := Tryd.underlying4,
  a4 := Tryd.isAgg4,
  z4 := Tryd.sizeOf4,
  v4 := Tryd.zeroValue4,
  t22 := Tryd.underlying68,
  a22 := Tryd.isAgg68,
  z22 := Tryd.sizeOf68,
  v22 := Tryd.zeroValue68,
  a23 := Tryd.isAgg70,
  z23 := Tryd.sizeOf70 }
end Go.Proofs.YtkflanjlnbdkmaaDoor
