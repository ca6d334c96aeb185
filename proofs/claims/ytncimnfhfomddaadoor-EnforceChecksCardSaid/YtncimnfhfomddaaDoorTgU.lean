import Derived.Test.YtncimnfhfomddaaDoorTgP
/- Toggling twice, and in another order: plain. -/
namespace Go.Proofs.YtncimnfhfomddaaDoor
open Go.ChangeShapes Go.WideShapes Go.ChangeAt Go.RowKit

theorem tgL_twice {G L : List (Int × Int)} (hG : G.Pairwise ltP) (hL : L.Nodup) : tgL (tgL G L) L = G := by
  have hn : G.Nodup := hG.imp fun {a b} hab e => by subst e; exact ltP_irrefl _ hab
  have hn2 : (tgL G L).Nodup := (tgL_sorted hn hL).imp fun {a b} hab e => by subst e; exact ltP_irrefl _ hab
  refine sortedP_ext _ _ (tgL_sorted hn2 hL) hG fun p => ?_
  rw [mem_tgL]
  have h := mem_tgL (G := G) (L := L) (p := p)
  by_cases h1 : p ∈ G <;> by_cases h2 : p ∈ L <;> simp [h1, h2] at h ⊢ <;> exact h
theorem tgL_order {G L M : List (Int × Int)} (hG : G.Nodup) (hL : L.Nodup) (hM : M.Nodup) (h : ∀ p, p ∈ L ↔ p ∈ M) : tgL G L = tgL G M := by
  refine sortedP_ext _ _ (tgL_sorted hG hL) (tgL_sorted hG hM) fun p => ?_
  rw [mem_tgL, mem_tgL]
  rw [show decide (p ∈ L) = decide (p ∈ M) from decide_eq_decide.2 (h p)]
end Go.Proofs.YtncimnfhfomddaaDoor
