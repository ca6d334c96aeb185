/- The reference of layers 11 and 13: In, inside, Valid, hit, ConflictFree. -/
import Derived.Test.YtkfocifejoogaaaDoorRef10c
import Derived.Test.YtkfocifejoogaaaDoorAdm3
namespace Go.Proofs.YtkfocifejoogaaaDoor
open Go.ChangeShapes Go.WideShapes Go.ChangeAt Go.RowKit

/-- an element of x attacks i -/
def hitB (l : List (Int × Int)) (x : List Int) (i : Int) : Bool := x.any (fun a => hasB l a i)
theorem hitB_hit {l : List (Int × Int)} {x : List Int} {i : Int} {k : Nat} (h : k < x.length) (hx : hasB l x[k] i = true) : hitB l x i = true := List.any_eq_true.2 ⟨_, List.getElem_mem h, hx⟩
theorem hitB_next {l : List (Int × Int)} {x : List Int} {i : Int} {k : Nat} (h : k < x.length) (h0 : hitB l (x.take k) i = false) (hx : hasB l x[k] i = false) : hitB l (x.take (k + 1)) i = false := by
  unfold hitB at *; rw [List.take_succ_eq_append_getElem h, List.any_append, h0]; simp [hx]

end Go.Proofs.YtkfocifejoogaaaDoor
