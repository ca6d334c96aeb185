/- Nothing is proved here. -/
import Derived.Test.YthkknlnfdckdfaaChecked
namespace Go.Proofs.Ythkknlnfdckdfaa
end Go.Proofs.Ythkknlnfdckdfaa
