import Derived.Test.YthkknlnfdckdfaaGreatDoorAdm
import Derived.Test.YthkknlnfdckdfaaGreatDoorBas
import Derived.Test.YthkknlnfdckdfaaGreatDoorTxtX
/- The reference of layer 10: Validate, at any graph. -/
namespace Go.Proofs.YthkknlnfdckdfaaGreatDoor
open Go.ChangeShapes Go.WideShapes Go.ChangeAt Go.RowKit

def okP (N : Int) (p : Int × Int) : Prop := 0 ≤ p.1 ∧ p.1 < N ∧ 0 ≤ p.2 ∧ p.2 < N
instance (N : Int) (p : Int × Int) : Decidable (okP N p) := by unfold okP; infer_instance
def ltP (p q : Int × Int) : Prop := p.1 < q.1 ∨ (p.1 = q.1 ∧ p.2 < q.2)
instance (p q : Int × Int) : Decidable (ltP p q) := by unfold ltP; infer_instance
def scanV (N : Int) : Option (Int × Int) → List (Int × Int) → Int
  | _, [] => 0
  | none, p :: r => if okP N p then scanV N (some p) r else 1
  | some q, p :: r => if okP N p then if ltP q p then scanV N (some p) r else 8 else 1
/-- what Validate returns -/
def valE (N : Int) (l : List (Int × Int)) : Int := if N < 0 ∨ 40 < N then 1 else scanV N none l
def prevO (l : List (Int × Int)) : Nat → Option (Int × Int)
  | 0 => none
  | j + 1 => l[j]?
theorem scanV_bad {N : Int} {l : List (Int × Int)} {k : Nat} (h : k < l.length) (ho : ¬ okP N l[k]) : scanV N (prevO l k) (l.drop k) = 1 := by
  rw [List.drop_eq_getElem_cons h]
  cases prevO l k <;> simp [scanV, ho]
theorem scanV_first {N : Int} {l : List (Int × Int)} {k : Nat} (hk : k = 0) (h : k < l.length) (ho : okP N l[k]) : scanV N (prevO l k) (l.drop k) = scanV N (prevO l (k + 1)) (l.drop (k + 1)) := by
  subst hk
  rw [List.drop_eq_getElem_cons h]
  simp only [prevO, scanV, if_pos ho, List.getElem?_eq_getElem h]
theorem scanV_next {N : Int} {l : List (Int × Int)} {j : Nat} (h : j + 1 < l.length) (ho : okP N l[j + 1]) (hlt : ltP (l[j]'(by omega)) l[j + 1]) : scanV N (prevO l (j + 1)) (l.drop (j + 1)) = scanV N (prevO l (j + 1 + 1)) (l.drop (j + 1 + 1)) := by
  rw [List.drop_eq_getElem_cons h]
  simp only [prevO, List.getElem?_eq_getElem h, List.getElem?_eq_getElem (show j < l.length by omega), scanV, if_pos ho, if_pos hlt]
theorem scanV_order {N : Int} {l : List (Int × Int)} {j : Nat} (h : j + 1 < l.length) (ho : okP N l[j + 1]) (hlt : ¬ ltP (l[j]'(by omega)) l[j + 1]) : scanV N (prevO l (j + 1)) (l.drop (j + 1)) = 8 := by
  rw [List.drop_eq_getElem_cons h]
  simp only [prevO, List.getElem?_eq_getElem (show j < l.length by omega), scanV, if_pos ho, if_neg hlt]

theorem int_self {j : Nat} (h : j ≤ 1000000) : IntKind.i64.wrap (j : Int) = j := IntWalk.i64_in _ (by omega)

end Go.Proofs.YthkknlnfdckdfaaGreatDoor

/- The reference of layer 10: Valid, Has, Attackers. -/
namespace Go.Proofs.YthkknlnfdckdfaaGreatDoor
open Go.ChangeShapes Go.WideShapes Go.ChangeAt Go.RowKit

/-- the graph as it is treated: the one without nodes if it is not valid -/
def nGn (N : Int) (l : List (Int × Int)) : Int := if valE N l = 0 then N else 0
def nGl (N : Int) (l : List (Int × Int)) : List (Int × Int) := if valE N l = 0 then l else []
theorem nGl_len {N : Int} {l : List (Int × Int)} {B : Nat} (h : l.length ≤ B) : (nGl N l).length ≤ B := by unfold nGl; split <;> simp [h]

/-- the call returns a graph by value -/
def RetG (N : Int) (l : List (Int × Int)) (w : World) : Ending → World → Prop := fun e w' => ∃ A c, e = .returned (.agg #[.int .i64 N, .slice A l.length c]) ∧ RP w' A l ∧ Below w.heap.size w w'
/-- the same; the pairs lie where they lay -/
def RetGA (A0 : Option Addr) (N : Int) (l : List (Int × Int)) (w : World) : Ending → World → Prop := fun e w' => ∃ A c, e = .returned (.agg #[.int .i64 N, .slice A l.length c]) ∧ RP w' A l ∧ (A = A0 ∨ l = []) ∧ Below w.heap.size w w'

/-- the pairs lie in blocks that were there at w -/
theorem RP.far2 {w : World} {A : Option Addr} {l : List (Int × Int)} {g : Nat} (h : RP w A l) (hlt : ∀ b o, A = some ⟨b, o, none⟩ → 0 < l.length → b ≠ g) (x y : Value) : RP ((w.setCell ⟨g, 0, none⟩ x).setCell ⟨g, 1, none⟩ y) A l := by
  intro k hk
  obtain ⟨b, o, hA, hc, hd⟩ := h k hk
  have hne := hlt b o hA (by omega)
  exact ⟨b, o, hA, by rw [World.cell?_setCell_other _ _ _ _ (fun e => hne (congrArg Addr.block e).symm), World.cell?_setCell_other _ _ _ _ (fun e => hne (congrArg Addr.block e).symm)]; exact hc,
    by rw [World.cell?_setCell_other _ _ _ _ (fun e => hne (congrArg Addr.block e).symm), World.cell?_setCell_other _ _ _ _ (fun e => hne (congrArg Addr.block e).symm)]; exact hd⟩
theorem RP.lt {w : World} {A : Option Addr} {l : List (Int × Int)} (h : RP w A l) {b o : Nat} (hA : A = some ⟨b, o, none⟩) (hl : 0 < l.length) : b < w.heap.size := by
  obtain ⟨b', o', hA', hc, _⟩ := h 0 hl
  rw [hA] at hA'
  injection hA' with hA'
  injection hA' with hb _ _
  have h3 : b' < w.heap.size := lt_of_cell hc
  omega

/-- an attack in a list, as a Bool that simp does not open -/
def hasB (l : List (Int × Int)) (f t : Int) : Bool := l.contains (f, t)
theorem hasB_iff {l : List (Int × Int)} {f t : Int} : hasB l f t = true ↔ (f, t) ∈ l := by simp [hasB]
theorem hasB_false {l : List (Int × Int)} {f t : Int} : hasB l f t = false ↔ (f, t) ∉ l := by rw [← hasB_iff]; simp
theorem hasB_hit {l : List (Int × Int)} {f t : Int} {k : Nat} (h : k < l.length) (h1 : l[k].1 = f) (h2 : l[k].2 = t) : hasB l f t = true := by
  rw [hasB_iff, ← h1, ← h2]; exact List.getElem_mem h
theorem hasB_next {l : List (Int × Int)} {f t : Int} {k : Nat} (h : k < l.length) (h0 : hasB (l.take k) f t = false) (hne : l[k] ≠ (f, t)) : hasB (l.take (k + 1)) f t = false := by
  rw [hasB_false] at h0 ⊢
  rw [List.take_succ_eq_append_getElem h, List.mem_append]
  rintro (h1 | h1)
  · exact h0 h1
  · rw [List.mem_singleton] at h1; exact hne h1.symm

end Go.Proofs.YthkknlnfdckdfaaGreatDoor

/- The reference of layer 10: Attackers and its mirror. -/
namespace Go.Proofs.YthkknlnfdckdfaaGreatDoor
open Go.ChangeShapes Go.WideShapes Go.ChangeAt Go.RowKit

def attackersL (l : List (Int × Int)) (i : Int) : List Int := (l.filter (fun p => p.2 == i)).map (·.1)
def attackedL (l : List (Int × Int)) (i : Int) : List Int := (l.filter (fun p => p.1 == i)).map (·.2)
theorem attackersL_hit {l : List (Int × Int)} {i : Int} {k : Nat} (h : k < l.length) (hx : l[k].2 = i) : attackersL (l.take (k + 1)) i = attackersL (l.take k) i ++ [l[k].1] := by
  unfold attackersL; rw [List.take_succ_eq_append_getElem h, List.filter_append, List.map_append]; simp [hx]
theorem attackersL_miss {l : List (Int × Int)} {i : Int} {k : Nat} (h : k < l.length) (hx : l[k].2 ≠ i) : attackersL (l.take (k + 1)) i = attackersL (l.take k) i := by
  unfold attackersL; rw [List.take_succ_eq_append_getElem h, List.filter_append]; simp [hx]
theorem attackersL_len (l : List (Int × Int)) (i : Int) : (attackersL l i).length ≤ l.length := by unfold attackersL; rw [List.length_map]; exact List.length_filter_le _ _
theorem attackedL_hit {l : List (Int × Int)} {i : Int} {k : Nat} (h : k < l.length) (hx : l[k].1 = i) : attackedL (l.take (k + 1)) i = attackedL (l.take k) i ++ [l[k].2] := by
  unfold attackedL; rw [List.take_succ_eq_append_getElem h, List.filter_append, List.map_append]; simp [hx]
theorem attackedL_miss {l : List (Int × Int)} {i : Int} {k : Nat} (h : k < l.length) (hx : l[k].1 ≠ i) : attackedL (l.take (k + 1)) i = attackedL (l.take k) i := by
  unfold attackedL; rw [List.take_succ_eq_append_getElem h, List.filter_append]; simp [hx]
theorem attackedL_len (l : List (Int × Int)) (i : Int) : (attackedL l i).length ≤ l.length := by unfold attackedL; rw [List.length_map]; exact List.length_filter_le _ _

end Go.Proofs.YthkknlnfdckdfaaGreatDoor
