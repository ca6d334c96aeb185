/- graph: Reverse, Attackers. -/
import Derived.Test.YtncimnfhfomddaaDoorGr
import Derived.Test.YtncimnfhfomddaaDoorSrt
import Derived.Test.YtncimnfhfomddaaDoorRef13
namespace Go.Proofs.YtncimnfhfomddaaDoor
open Go.ChangeShapes Go.WideShapes Go.ChangeAt Go.RowKit

theorem isAggP : ∀ w, (isAgg 42).run Tryd.prog w = .ok true w := Tryd.isAgg42
theorem sizeOfP : ∀ w, (Go.sizeOf 42).run Tryd.prog w = .ok 2 w := Tryd.sizeOf42

/-- the library's sort of pairs, by compare -/
theorem sortP_any (g c : Nat) (l : List (Int × Int)) (w : World) (hH : Go.Sort.HoldsK encP 2 w g 0 l.toArray) (hg : g < w.heap.size) (hl : l.length ≤ 100000) :
    Calls Tryd.prog 56 #[.slice (some ⟨g, 0, none⟩) l.length c, .func (.func 105) #[] #[]] w (fun e w' =>
      e = .returned (.tuple #[]) ∧ ∃ n os, w' = sortWorldK encP 2 w g 0 n (l.mergeSort fun x y => !(ltOf cmpP) y x).toArray os) := by
  have eg : ∀ args w, (callFunc 105 args).run Tryd.prog w = .ok (.enter 105 args) w := enters_of Tryd.func105 (by kernel_rfl) rfl
  have hcmp : CmpLays Tryd.prog 105 #[] encP 2 cmpP g 0 l.toArray.size w := fun _ _ _ _ x y => (compare_any x y _).mono fun _ _ h => ⟨h.1, h.2⟩
  have h := AnyQ.slices_SortFunc_total sortP 2 isAggP sizeOfP encP (fun _ => rfl) (fun x v hv => by simp [encP] at hv; rcases hv with rfl | rfl <;> rfl) cmpP swoP 105 #[] g 0 c l.toArray w eg hcmp hH hg (by simp; omega) totP
  exact h
theorem sortP_none (A : Option Addr) (c : Nat) (w : World) :
    Calls Tryd.prog 56 #[.slice A 0 c, .func (.func 105) #[] #[]] w (Ret (.tuple #[]) w) :=
  (AnyF.slices_SortFunc_none { sortP with } A c (.func (.func 105) #[] #[]) w).mono fun _ _ h => ⟨h.1, h.2.symm⟩

/-- 'out = append(out, api.Pair{..})', the new pair's block by its number -/
theorem wpList_appP2 {ops : Array Oper} {rest : List Oper} {o : Oper} {a : Act} {Q : Exit → Act → World → Prop} (hgd : o.guard = none) (s x : Operand)
    (ho : o.op = .call { callee := .builtin .append, args := #[s, x], argTypes := #[22, 22] })
    (X : World) (base : Nat) (v : Value) (l : List (Int × Int)) (y z : Int) (hown : OwnP X base v l) (hs : a.eval s = v) {gx : Nat} (hx : a.eval x = .slice (some ⟨gx, 0, none⟩) 1 1) (hgx : gx = X.heap.size)
    (hlen : l.length ≤ 1000000) (hbase : base ≤ X.heap.size)
    (h : ∀ v' w', OwnP w' base v' (l ++ [(y, z)]) → Below base X w' → X.grownBy w' v.ownBlock → wpList Tryd.prog ops Q rest (a.put o.dst v') w') :
    wpList Tryd.prog ops Q (o :: rest) a (X.alloc (.cells #[.int .i64 y, .int .i64 z] 42)) := by
  subst hgx
  exact wpList_appP hgd s x ho X base v l y z hown hs hx hlen hbase h

/-- the call returns a graph by value, its pairs in new memory -/
def RetGN (N : Int) (l : List (Int × Int)) (w : World) : Ending → World → Prop := fun e w' => ∃ A c, e = .returned (.agg #[.int .i64 N, .slice A l.length c]) ∧ RP w' A l ∧ (∀ b o, A = some ⟨b, o, none⟩ → w.heap.size ≤ b) ∧ Below w.heap.size w w'

end Go.Proofs.YtncimnfhfomddaaDoor
