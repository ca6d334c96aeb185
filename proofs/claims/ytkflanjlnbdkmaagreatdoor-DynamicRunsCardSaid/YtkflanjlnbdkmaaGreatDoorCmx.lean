/- graph.Components: the search for the next component. -/
import Derived.Test.YtkflanjlnbdkmaaGreatDoorCmw
namespace Go.Proofs.YtkflanjlnbdkmaaGreatDoor
open Go.ChangeShapes Go.WideShapes Go.ChangeAt Go.RowKit Go.Sort

/-- the variables that the search captures: the masks of the attackers, and what is left -/
structure Cap2 (w : World) (gI p1 p2 n : Nat) (m : Nat → Nat) (rest : Nat) : Prop where
  c1 : w.cell? ⟨p1, 0, none⟩ = some (.slice (some ⟨gI, 0, none⟩) n n)
  c2 : w.cell? ⟨p2, 0, none⟩ = some (.int .u64 (rest : Nat))
  row : w.rowIs gI 92 n (fun i => .int .u64 (m i : Nat))
theorem Cap2.below {w w' : World} {gI p1 p2 n : Nat} {m : Nat → Nat} {rest : Nat} (h : Cap2 w gI p1 p2 n m rest) (hb : Below w.heap.size w w') : Cap2 w' gI p1 p2 n m rest :=
  ⟨(hb.cell (p := ⟨p1, 0, none⟩) (lt_of_cell h.c1)).trans h.c1, (hb.cell (p := ⟨p2, 0, none⟩) (lt_of_cell h.c2)).trans h.c2, rowIs_new h.row hb⟩
/-- an attacker outside, in what is left -/
def outB (m : Nat → Nat) (rest set : Nat) (i : Int) : Bool := minusN (m i.toNat &&& rest) set != 0

def RetIy (b : Bool) (w : World) : Ending → World → Prop := fun e w' => ∃ i : Int, e = .returned (.int .i64 i) ∧ decide (0 ≤ i) = b ∧ Below w.heap.size w w'
theorem any_stepY {α : Type} (p : α → Bool) (L : List α) {k : Nat} (h : k < L.length) : (L.take (k + 1)).any p = ((L.take k).any p || p L[k]) := by
  rw [List.take_succ_eq_append_getElem h, List.any_append]; simp

end Go.Proofs.YtkflanjlnbdkmaaGreatDoor
