/- The reference of layer 13: Step, Admissible, IsComplete, Range, IsStable. -/
import Derived.Test.YtiljbfeipfdmdaaDoorLaw13
namespace Go.Proofs.YtiljbfeipfdmdaaDoor
open Go.ChangeShapes Go.WideShapes Go.ChangeAt Go.RowKit

theorem stepR_length (n : Nat) (l : List (Int × Int)) (x : List Int) : (stepR n l x).length ≤ n := nodesB_length _ _

/-- what the reference's Range, IsStable return -/
def inRange (l : List (Int × Int)) (x : List Int) (i : Int) : Bool := inB x i || hitB l x i
def rangeR (n : Nat) (l : List (Int × Int)) (x : List Int) : List Int := if setB n x then nodesB n (fun j => inRange l x j) else []


def stableR (n : Nat) (l : List (Int × Int)) (x : List Int) : Bool := cfR n l x && ((rangeR n l x).length == n)
end Go.Proofs.YtiljbfeipfdmdaaDoor
