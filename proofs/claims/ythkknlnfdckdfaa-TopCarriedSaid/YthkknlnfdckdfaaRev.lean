/- graph: Reverse, Attackers. -/
import Derived.Test.YthkknlnfdckdfaaGr
import Derived.Test.YthkknlnfdckdfaaSrt
import Derived.Test.YthkknlnfdckdfaaRef13
namespace Go.Proofs.Ythkknlnfdckdfaa
open Go.ChangeShapes Go.WideShapes Go.ChangeAt Go.RowKit

theorem isAggP : ∀ w, (isAgg 73).run Try.prog w = .ok true w := Try.isAgg73
theorem sizeOfP : ∀ w, (Go.sizeOf 73).run Try.prog w = .ok 2 w := Try.sizeOf73

/-- 'out = append(out, api.Pair{..})', the new pair's block by its number -/
theorem wpList_appP2 {ops : Array Oper} {rest : List Oper} {o : Oper} {a : Act} {Q : Exit → Act → World → Prop} (hgd : o.guard = none) (s x : Operand)
    (ho : o.op = .call { callee := .builtin .append, args := #[s, x], argTypes := #[26, 26] })
    (X : World) (base : Nat) (v : Value) (l : List (Int × Int)) (y z : Int) (hown : OwnP X base v l) (hs : a.eval s = v) {gx : Nat} (hx : a.eval x = .slice (some ⟨gx, 0, none⟩) 1 1) (hgx : gx = X.heap.size)
    (hlen : l.length ≤ 1000000) (hbase : base ≤ X.heap.size)
    (h : ∀ v' w', OwnP w' base v' (l ++ [(y, z)]) → Below base X w' → X.grownBy w' v.ownBlock → wpList Try.prog ops Q rest (a.put o.dst v') w') :
    wpList Try.prog ops Q (o :: rest) a (X.alloc (.cells #[.int .i64 y, .int .i64 z] 73)) := by
  subst hgx
  exact wpList_appP hgd s x ho X base v l y z hown hs hx hlen hbase h

/-- the call returns a graph by value, its pairs in new memory -/
def RetGN (N : Int) (l : List (Int × Int)) (w : World) : Ending → World → Prop := fun e w' => ∃ A c, e = .returned (.agg #[.int .i64 N, .slice A l.length c]) ∧ RP w' A l ∧ (∀ b o, A = some ⟨b, o, none⟩ → w.heap.size ≤ b) ∧ Below w.heap.size w w'

end Go.Proofs.Ythkknlnfdckdfaa
