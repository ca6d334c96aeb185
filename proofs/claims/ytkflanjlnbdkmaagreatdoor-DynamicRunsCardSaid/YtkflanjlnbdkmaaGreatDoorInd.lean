/- graph.Induced: plain words and the walk. -/
import Derived.Test.YtkflanjlnbdkmaaGreatDoorLb
namespace Go.Proofs.YtkflanjlnbdkmaaGreatDoor
open Go.ChangeShapes Go.WideShapes Go.ChangeAt Go.RowKit

/-- the place of a number in a list, or -1 -/
def ixL (nl : List Int) (v : Int) : Int := idxP (fun y => v == y) 0 nl
def indF (nl : List Int) (p : Int × Int) : Option (Int × Int) := if 0 ≤ ixL nl p.1 ∧ 0 ≤ ixL nl p.2 then some (ixL nl p.1, ixL nl p.2) else none
/-- the pairs of the part with the nodes of a list -/
def indP (nl : List Int) (l : List (Int × Int)) : List (Int × Int) := l.filterMap (indF nl)
theorem indP_hit {nl : List Int} {l : List (Int × Int)} {k : Nat} (h : k < l.length) (h1 : 0 ≤ ixL nl l[k].1) (h2 : 0 ≤ ixL nl l[k].2) : indP nl (l.take (k + 1)) = indP nl (l.take k) ++ [(ixL nl l[k].1, ixL nl l[k].2)] := by
  unfold indP
  rw [List.take_succ_eq_append_getElem h, List.filterMap_append]
  simp [indF, h1, h2]
theorem indP_miss {nl : List Int} {l : List (Int × Int)} {k : Nat} (h : k < l.length) (h1 : ¬ (0 ≤ ixL nl l[k].1 ∧ 0 ≤ ixL nl l[k].2)) : indP nl (l.take (k + 1)) = indP nl (l.take k) := by
  unfold indP
  rw [List.take_succ_eq_append_getElem h, List.filterMap_append]
  have : indF nl l[k] = none := by unfold indF; rw [if_neg h1]
  simp [this]
theorem indP_len (nl : List Int) (l : List (Int × Int)) : (indP nl l).length ≤ l.length := List.length_filterMap_le _ _

end Go.Proofs.YtkflanjlnbdkmaaGreatDoor
