/- The reference's Grow and Shrink: the same lists and errors as Grow's and Shrink's. -/
import Derived.Test.YtiljbfeipfdmdaaDoorPartW
import Derived.Test.YtiljbfeipfdmdaaDoorAwake
namespace Go.Proofs.YtiljbfeipfdmdaaDoor
open Go.ChangeShapes Go.WideShapes Go.ChangeAt Go.RowKit

/-- how many numbers a slice holds -/
def lenOf : Value → Nat
  | .slice _ n _ => n
  | _ => 0
theorem nodesB_sublist {n : Nat} {p q : Nat → Bool} (h : ∀ i, p i = true → q i = true) : (nodesB n p).Sublist (nodesB n q) := by
  unfold nodesB
  refine List.Sublist.map _ ?_
  have e : (List.range n).filter p = ((List.range n).filter q).filter p := by
    rw [List.filter_filter]
    refine List.filter_congr fun i _ => ?_
    cases hp : p i
    · simp
    · simp [h i hp]
  rw [e]
  exact List.filter_sublist
theorem nodes_len {n a b : Nat} (ha : a < 2 ^ n) (hb : b < 2 ^ n) (h : sub a b) : (nodesB n a.testBit).length ≤ (nodesB n b.testBit).length ∧ ((nodesB n a.testBit).length = (nodesB n b.testBit).length → a = b) :=
  ⟨(nodesB_sublist h).length_le, fun e => nodes_inj ha hb ((nodesB_sublist h).eq_of_length e)⟩
theorem stepR_nodes {n : Nat} {l : List (Int × Int)} (hv : InR n l) {m : Nat} (hm : m < 2 ^ n) : stepR n l (nodesB n m.testBit) = nodesB n (stepN n l m).testBit := by
  rw [stepR_eq hv]
  unfold stepL
  rw [if_pos (setB_nodes n _), mask_nodes hm]

end Go.Proofs.YtiljbfeipfdmdaaDoor
