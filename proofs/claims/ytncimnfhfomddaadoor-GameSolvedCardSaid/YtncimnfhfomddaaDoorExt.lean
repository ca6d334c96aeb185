import Derived.Test.YtncimnfhfomddaaDoorLb
import Derived.Test.YtncimnfhfomddaaDoorInsW
/- Package extension: in, places, within. -/
namespace Go.Proofs.YtncimnfhfomddaaDoor
open Go.ChangeShapes Go.WideShapes Go.ChangeAt Go.RowKit

theorem boxed1 (w : World) (t : TypeId) (x : Value) : ∃ W0, w.alloc (.cells #[x] t) = W0 ∧ W0.cell? ⟨w.heap.size, 0, none⟩ = some x ∧ Below w.heap.size w W0 :=
  ⟨_, rfl, by rw [(Blk.new w t #[x]).cell]; rfl, (Below.refl _ _).alloc (Nat.le_refl _) _⟩
/-- label 1 stands at place i -/
def atB (x : List Int) (i : Int) : Bool := decide (0 ≤ i) && decide (i < x.length) && (x.getD i.toNat 0 == 1)
/-- x has fewer members than y, and y has them all -/
def withinB (x y : List Int) : Bool := decide (x.length < y.length) && insideB x y
/-- the places of the labels in vs, label by label -/
def placesL (l vs : List Int) : List Int := vs.flatMap fun v => withL l v

theorem own_noneI {w : World} {b : Nat} {A : Option Addr} {l : List Int} {c : Nat} (h : OwnI w b (.slice A l.length c) l) : A = none → l = [] ∧ c = 0 := fun e => by
  subst e
  obtain ⟨A9, c9, e9, _, h9⟩ := h.form2
  injection e9 with e1 e2 e3
  subst e1 e3
  exact h9 rfl
theorem placesL_snoc (l vs : List Int) (v : Int) : placesL l (vs ++ [v]) = placesL l vs ++ withL l v := by unfold placesL; rw [List.flatMap_append]; simp
theorem placesL_len (l vs : List Int) : (placesL l vs).length ≤ vs.length * l.length := by
  refine snoc_ind (P := fun vs => (placesL l vs).length ≤ vs.length * l.length) (by simp [placesL]) ?_ vs
  intro vs v ih
  rw [placesL_snoc, List.length_append, List.length_append, List.length_singleton, Nat.add_mul, Nat.one_mul]
  have : (withL l v).length ≤ l.length := nodesB_length _ _
  omega

/-- the judgements of Preferred, Stable and SemiStable: y puts x out -/
def prefB (x y : List Int) : Bool := withinB (placesL y [1]) (placesL x [1])
end Go.Proofs.YtncimnfhfomddaaDoor

/- Package extension: the three judgements, and the search among all complete labellings. -/
namespace Go.Proofs.YtncimnfhfomddaaDoor
open Go.ChangeShapes Go.WideShapes Go.ChangeAt Go.RowKit

/-- z puts x out: Preferred, Stable, SemiStable -/
def prefP (z x : List Int) : Bool := withinB (placesL x [1]) (placesL z [1])
def stabP (_z x : List Int) : Bool := decide (0 < (placesL x [3]).length)
def semiP (z x : List Int) : Bool := withinB (placesL z [3]) (placesL x [3])
theorem places1_len (l : List Int) (v : Int) : (placesL l [v]).length ≤ l.length := by have := placesL_len l [v]; simpa using this

/-- an index that is at least 0 exactly if one of L passes p -/
def RetIx (b : Bool) (w : World) : Ending → World → Prop := fun e w' => ∃ i : Int, e = .returned (.int .i64 i) ∧ decide (0 ≤ i) = b ∧ Below w.heap.size w w'
theorem any_stepX {α : Type} (p : α → Bool) (L : List α) {k : Nat} (h : k < L.length) : (L.take (k + 1)).any p = ((L.take k).any p || p L[k]) := by
  rw [List.take_succ_eq_append_getElem h, List.any_append]; simp

end Go.Proofs.YtncimnfhfomddaaDoor

/- Package extension: best, Preferred, Stable, SemiStable. -/
namespace Go.Proofs.YtncimnfhfomddaaDoor
open Go.ChangeShapes Go.WideShapes Go.ChangeAt Go.RowKit

theorem compR_sm (N : Int) (l : List (Int × Int)) : (compR N l).1.length ≤ 200 ∧ ∀ x ∈ (compR N l).1, x.length ≤ 100 := by
  unfold compR
  split
  · rename_i hv
    have hN : N.toNat ≤ 40 := by
      unfold valE at hv
      split at hv
      · cases hv
      · omega
    split
    · exact ⟨by simp, fun x hx => by cases hx⟩
    · exact ⟨by simp only; omega, fun x hx => by have := comp_len hx; omega⟩
  · exact ⟨by simp, fun x hx => by cases hx⟩
/-- the call returns lists (their capacity is enough) and an error -/
def RetLC (r : List (List Int) × Int) (w : World) : Ending → World → Prop := fun e w' => ∃ A c, e = .returned (.tuple #[.slice A r.1.length c, .int .i64 r.2]) ∧ RSo w' A r.1 ∧ (A = none → r.1 = [] ∧ c = 0) ∧ r.1.length ≤ c ∧ Below w.heap.size w w'
theorem RetLC.le {r : List (List Int) × Int} {w w' : World} {e : Ending} (h : RetLC r w e w') : RetLE r w e w' := by
  obtain ⟨A, c, h1, h2, h3, _, h4⟩ := h
  exact ⟨A, c, h1, h2, h3, h4⟩
theorem OwnS.capX {w : World} {b : Nat} {A : Option Addr} {n c : Nat} {xs : List Value} (h : OwnS w b (.slice A n c) xs) : n ≤ c := by
  obtain ⟨_, h2⟩ := h
  rcases h2 with ⟨e, _⟩ | ⟨g, cap, cur, e, _, _, hc, _⟩
  · injection e with _ e1 e2; omega
  · injection e with _ e1 e2; omega
/-- those that none of the list puts out -/
def keptL (p : List Int → List Int → Bool) (L : List (List Int)) : List (List Int) := L.filter fun x => !(L.any fun z => p z x)
/-- what best answers -/
def bestR (p : List Int → List Int → Bool) (N : Int) (l : List (Int × Int)) : List (List Int) × Int := if (compR N l).2 = 0 then (keptL p (compR N l).1, 0) else ([], (compR N l).2)
theorem filter_stepX {α : Type} (p : α → Bool) (L : List α) {k : Nat} (h : k < L.length) : (L.take (k + 1)).filter p = (L.take k).filter p ++ if p L[k] then [L[k]] else [] := by
  rw [List.take_succ_eq_append_getElem h, List.filter_append]
  congr 1
  rw [List.filter_cons, List.filter_nil]

end Go.Proofs.YtncimnfhfomddaaDoor

/- Package extension: Some, All. -/
namespace Go.Proofs.YtncimnfhfomddaaDoor
open Go.ChangeShapes Go.WideShapes Go.ChangeAt Go.RowKit


end Go.Proofs.YtncimnfhfomddaaDoor
