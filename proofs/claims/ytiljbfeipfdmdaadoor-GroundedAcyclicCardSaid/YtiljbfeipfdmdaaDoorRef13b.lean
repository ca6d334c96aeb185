/- The reference of layer 13: ConflictFree, Defends, Step, Admissible, IsComplete. -/
import Derived.Test.YtiljbfeipfdmdaaDoorRef13
namespace Go.Proofs.YtiljbfeipfdmdaaDoor
open Go.ChangeShapes Go.WideShapes Go.ChangeAt Go.RowKit

/-- no element of x attacks an element of y -/
def noHit (l : List (Int × Int)) (x y : List Int) : Bool := x.all (fun a => y.all (fun b => !hasB l a b))
theorem noHit_row {l : List (Int × Int)} {x y : List Int} {k : Nat} (h : k < x.length) (h0 : noHit l (x.take k) y = true) (h1 : noHit l [x[k]] y = true) : noHit l (x.take (k + 1)) y = true := by
  unfold noHit at *; rw [List.take_succ_eq_append_getElem h, List.all_append, h0]; exact h1
theorem noHit_cell {l : List (Int × Int)} {a : Int} {y : List Int} {k : Nat} (h : k < y.length) (h0 : noHit l [a] (y.take k) = true) (h1 : hasB l a y[k] = false) : noHit l [a] (y.take (k + 1)) = true := by
  unfold noHit at *; rw [List.take_succ_eq_append_getElem h]
  simp only [List.all_cons, List.all_nil, Bool.and_true, List.all_append] at *
  rw [h0]; simp [h1]
theorem noHit_bad {l : List (Int × Int)} {x y : List Int} {i k : Nat} (hi : i < x.length) (hk : k < y.length) (h1 : hasB l x[i] y[k] = true) : noHit l x y = false := by
  cases hb : noHit l x y
  · rfl
  · unfold noHit at hb
    rw [List.all_eq_true] at hb
    have h2 := hb _ (List.getElem_mem hi)
    rw [List.all_eq_true] at h2
    have h3 := h2 _ (List.getElem_mem hk)
    rw [h1] at h3; cases h3
/-- what ConflictFree returns -/
def cfR (N : Int) (l : List (Int × Int)) (x : List Int) : Bool := noHit l x x && setB N x

/-- what Defends returns -/
def defR (N : Int) (l : List (Int × Int)) (x : List Int) (i : Int) : Bool := setB N x && decide (0 ≤ i) && decide (i < N) && (attackersL l i).all (fun k => hitB l x k)
theorem defR_bad {N : Int} {l : List (Int × Int)} {x : List Int} {i : Int} {k : Nat} (h : k < (attackersL l i).length) (h1 : hitB l x (attackersL l i)[k] = false) : defR N l x i = false := by
  cases hb : defR N l x i
  · rfl
  · simp only [defR, Bool.and_eq_true, List.all_eq_true] at hb
    rw [hb.2 _ (List.getElem_mem h)] at h1; cases h1

end Go.Proofs.YtiljbfeipfdmdaaDoor
