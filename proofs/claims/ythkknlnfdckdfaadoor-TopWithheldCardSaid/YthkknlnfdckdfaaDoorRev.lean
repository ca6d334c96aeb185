/- graph: Reverse, Attackers. -/
import Derived.Test.YthkknlnfdckdfaaDoorGr
import Derived.Test.YthkknlnfdckdfaaDoorSrt
import Derived.Test.YthkknlnfdckdfaaDoorRef13
namespace Go.Proofs.YthkknlnfdckdfaaDoor
open Go.ChangeShapes Go.WideShapes Go.ChangeAt Go.RowKit

theorem isAggP : ∀ w, (isAgg 50).run Tryd.prog w = .ok true w := Tryd.isAgg50
theorem sizeOfP : ∀ w, (Go.sizeOf 50).run Tryd.prog w = .ok 2 w := Tryd.sizeOf50

/-- 'out = append(out, api.Pair{..})', the new pair's block by its number -/
theorem wpList_appP2 {ops : Array Oper} {rest : List Oper} {o : Oper} {a : Act} {Q : Exit → Act → World → Prop} (hgd : o.guard = none) (s x : Operand)
    (ho : o.op = .call { callee := .builtin .append, args := #[s, x], argTypes := #[25, 25] })
    (X : World) (base : Nat) (v : Value) (l : List (Int × Int)) (y z : Int) (hown : OwnP X base v l) (hs : a.eval s = v) {gx : Nat} (hx : a.eval x = .slice (some ⟨gx, 0, none⟩) 1 1) (hgx : gx = X.heap.size)
    (hlen : l.length ≤ 1000000) (hbase : base ≤ X.heap.size)
    (h : ∀ v' w', OwnP w' base v' (l ++ [(y, z)]) → Below base X w' → X.grownBy w' v.ownBlock → wpList Tryd.prog ops Q rest (a.put o.dst v') w') :
    wpList Tryd.prog ops Q (o :: rest) a (X.alloc (.cells #[.int .i64 y, .int .i64 z] 50)) := by
  subst hgx
  exact wpList_appP hgd s x ho X base v l y z hown hs hx hlen hbase h

/-- the call returns a graph by value, its pairs in new memory -/
def RetGN (N : Int) (l : List (Int × Int)) (w : World) : Ending → World → Prop := fun e w' => ∃ A c, e = .returned (.agg #[.int .i64 N, .slice A l.length c]) ∧ RP w' A l ∧ (∀ b o, A = some ⟨b, o, none⟩ → w.heap.size ≤ b) ∧ Below w.heap.size w w'

end Go.Proofs.YthkknlnfdckdfaaDoor
