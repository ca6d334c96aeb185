/- Nothing is proved here. -/
import Derived.Test.YthkknlnfdckdfaaDoorChecked
namespace Go.Proofs.YthkknlnfdckdfaaDoor
end Go.Proofs.YthkknlnfdckdfaaDoor
