/- The reference's search for naive sets: maximal, choose, Naive. -/
import Derived.Test.YtncimnfhfomddaaDoorRf14
import Derived.Test.YtncimnfhfomddaaDoorNai2
import Derived.Test.YtncimnfhfomddaaDoorPl14p
namespace Go.Proofs.YtncimnfhfomddaaDoor
open Go.ChangeShapes Go.WideShapes Go.ChangeAt Go.RowKit

def ndN (n m : Nat) : List Int := nodesB n m.testBit
theorem ndL_eq {n m : Nat} (hn : n ≤ 40) (hm : m < 2 ^ n) : ndL m = ndN n m := by
  unfold ndL ndN
  exact nodesB_more (by omega) fun i hi => by
    rw [Bool.eq_false_iff]; intro h; have := has_lt hm h; omega
theorem navL_ndL {n : Nat} (hn : n ≤ 40) (l : List (Int × Int)) : (navL n l).map ndL = (navL n l).map (ndN n) := List.map_congr_left fun _ hm => ndL_eq hn (mem_navL.1 hm).lt2
/-- no node can be added -/
def maxAt (l : List (Int × Int)) (x : List Int) (i : Int) : Bool := inB x i || hasB l i i || x.any fun k => hasB l i k || hasB l k i
def maxB (n : Nat) (l : List (Int × Int)) (x : List Int) : Bool := (List.range n).all fun (i : Nat) => maxAt l x (i : Int)

theorem inB_ndN {n s : Nat} {i : Nat} : inB (ndN n s) (i : Int) = true ↔ i < n ∧ has s i := by
  rw [inB_iff]
  unfold ndN
  rw [mem_nodesB]
  constructor
  · rintro ⟨j, hj, hp, e⟩
    have : i = j := by omega
    subst this; exact ⟨hj, hp⟩
  · rintro ⟨h1, h2⟩; exact ⟨i, h1, h2, rfl⟩
theorem max_nav {n : Nat} {l : List (Int × Int)} {s : Nat} (hs : s < 2 ^ n) (hf : ∀ a b, has s a → has s b → ¬ att l a b) : maxB n l (ndN n s) = navB n l s := by
  rw [Bool.eq_iff_iff, navB_iff hs]
  unfold maxB
  rw [List.all_eq_true]
  have hany : ∀ j : Nat, ((ndN n s).any fun k => hasB l (j : Int) k || hasB l k (j : Int)) = true ↔ ∃ k, has s k ∧ confl l j k := fun j => by
    rw [List.any_eq_true]
    constructor
    · rintro ⟨k, hk, h⟩
      obtain ⟨q, hq, hp, rfl⟩ := mem_nodesB.1 hk
      rw [Bool.or_eq_true, hasB_iff, hasB_iff] at h
      exact ⟨q, hp, h⟩
    · rintro ⟨k, hk, h⟩
      refine ⟨(k : Int), mem_nodesB.2 ⟨k, has_lt hs hk, hk, rfl⟩, ?_⟩
      rw [Bool.or_eq_true, hasB_iff, hasB_iff]
      exact h
  constructor
  · intro h
    refine ⟨fun j hj => has_lt hs hj, hf, fun j hj hs' hn => ?_⟩
    have h1 := h j (List.mem_range.2 hj)
    unfold maxAt at h1
    rw [Bool.or_eq_true, Bool.or_eq_true, hany, inB_ndN, hasB_iff] at h1
    rcases h1 with (h1 | h1) | h1
    · exact absurd h1.2 hn
    · exact absurd h1 hs'
    · exact h1
  · intro h j hj
    rw [List.mem_range] at hj
    unfold maxAt
    rw [Bool.or_eq_true, Bool.or_eq_true, hany, inB_ndN, hasB_iff]
    rcases Classical.em (has s j) with h1 | h1
    · exact .inl (.inl ⟨hj, h1⟩)
    · rcases Classical.em (att l j j) with h2 | h2
      · exact .inl (.inr h2)
      · exact .inr (h.most j hj h2 h1)
theorem cf_nodes {n : Nat} {l : List (Int × Int)} {s : Nat} (hv : InR n l) (hs : s < 2 ^ n) : cfR n l (ndN n s) = true ↔ ∀ a b, has s a → has s b → ¬ att l a b := by
  rw [cfR_eq hv]
  unfold ndN
  rw [setB_nodes, mask_nodes hs, Bool.true_and, freeB_iff hv]

end Go.Proofs.YtncimnfhfomddaaDoor
