/- keep.SmallLists. -/
import Derived.Test.YtcpombepajapjaaDoorAw15
namespace Go.Proofs.YtcpombepajapjaaDoor
open Go.ChangeShapes Go.WideShapes Go.ChangeAt Go.RowKit

/-- few lists, all short -/
def smallB (L : List (List Int)) (n : Int) : Bool := L.all (fun x => decide ((x.length : Int) ≤ n)) && decide ((L.length : Int) ≤ n)

end Go.Proofs.YtcpombepajapjaaDoor
