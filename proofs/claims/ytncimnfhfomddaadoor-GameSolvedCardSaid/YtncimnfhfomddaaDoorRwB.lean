/- Rows of truth values. -/
import Derived.Test.YtncimnfhfomddaaDoorP12
namespace Go.Proofs.YtncimnfhfomddaaDoor
open Go.ChangeShapes Go.WideShapes Go.ChangeAt Go.RowKit

/-- a row of truth values in a block of its own -/
def RowB (w : World) (g n : Nat) (f : Nat → Bool) : Prop := w.rowIs g 4 n fun i => .bool (f i)
theorem RowB.cell {w : World} {g n : Nat} {f : Nat → Bool} (h : RowB w g n f) {i : Nat} (hi : i < n) : w.cell? ⟨g, i, none⟩ = some (.bool (f i)) := World.rowIs.cell h hi
theorem RowB.frozen {w : World} {g n : Nat} {f : Nat → Bool} (h : RowB w g n f) (i : Nat) : w.frozen? ⟨g, i, none⟩ = false := World.rowIs.frozen h i
theorem RowB.lt {w : World} {g n : Nat} {f : Nat → Bool} (h : RowB w g n f) : g < w.heap.size := World.rowIs.lt h
theorem RowB.set {w : World} {g n : Nat} {f : Nat → Bool} (h : RowB w g n f) (i : Nat) (x : Bool) : RowB (w.setCell ⟨g, i, none⟩ (.bool x)) g n (fun j => if j = i then x else f j) :=
  World.rowIs.congr (World.rowIs.set h i (.bool x)) fun j _ => by dsimp only; split <;> rfl
theorem RowB.congr {w : World} {g n : Nat} {f f' : Nat → Bool} (h : RowB w g n f) (e : ∀ i, i < n → f i = f' i) : RowB w g n f' := World.rowIs.congr h fun i hi => by rw [e i hi]
theorem RowB.below {w w' : World} {g n : Nat} {f : Nat → Bool} (h : RowB w g n f) (hb : Below w.heap.size w w') : RowB w' g n f := rowIs_new h hb
theorem info_bool : (Tryd.prog.info? 4).map (fun i => (i.zero, i.size, i.bytes)) = some (some (.bool false), 1, 1) := by kernel_rfl
end Go.Proofs.YtncimnfhfomddaaDoor
