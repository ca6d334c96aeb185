/- search.Naive. -/
import Derived.Test.YtncimnfhfomddaaDoorNai
namespace Go.Proofs.YtncimnfhfomddaaDoor
open Go.ChangeShapes Go.WideShapes Go.ChangeAt Go.RowKit

/-- the conflicts of a node, by the pairs so far -/
def cfS (i : Nat) (z : Nat) (p : Int × Int) : Nat := if p.1 = p.2 then z else if p.2.toNat = i then (if p.1.toNat = i then z ||| 1 <<< p.2.toNat else z) ||| 1 <<< p.1.toNat else if p.1.toNat = i then z ||| 1 <<< p.2.toNat else z
def cfM (l : List (Int × Int)) (i : Nat) : Nat := l.foldl (cfS i) 0
def rsS (z : Nat) (p : Int × Int) : Nat := if p.1 = p.2 then minusN z (1 <<< p.1.toNat) else z
def rsM (n : Nat) (l : List (Int × Int)) : Nat := l.foldl rsS (allN n)
theorem cfM_snoc (l : List (Int × Int)) (p : Int × Int) (i : Nat) : cfM (l ++ [p]) i = cfS i (cfM l i) p := by simp [cfM, List.foldl_append]
theorem rsM_snoc (n : Nat) (l : List (Int × Int)) (p : Int × Int) : rsM n (l ++ [p]) = rsS (rsM n l) p := by simp [rsM, List.foldl_append]
theorem lt_of_has {n m : Nat} (h : ∀ j, has m j → j < n) : m < 2 ^ n := masks_lt.1 ((mem_masks n 0 m).2 fun j hj => by have := h j hj; omega)
theorem snoc_ind {α : Type} {P : List α → Prop} (h0 : P []) (h1 : ∀ l a, P l → P (l ++ [a])) (l : List α) : P l := by
  rw [← List.reverse_reverse l]
  induction l.reverse with
  | nil => exact h0
  | cons a t ih => rw [List.reverse_cons]; exact h1 _ _ ih
section
variable {n : Nat}
theorem cfM_has : ∀ (l : List (Int × Int)), (∀ p ∈ l, 0 ≤ p.1 ∧ p.1 < n ∧ 0 ≤ p.2 ∧ p.2 < n) → ∀ i j, has (cfM l i) j ↔ i ≠ j ∧ confl l i j := fun l => by
  refine snoc_ind (P := fun l => (∀ p ∈ l, 0 ≤ p.1 ∧ p.1 < (n : Int) ∧ 0 ≤ p.2 ∧ p.2 < (n : Int)) → ∀ i j, has (cfM l i) j ↔ i ≠ j ∧ confl l i j) ?_ ?_ l
  · intro _ i j; exact ⟨fun h => absurd h has_zero, fun h => by rcases h.2 with h | h <;> cases h⟩
  · intro l p ih hl i j
    have ih := ih (fun q hq => hl q (List.mem_append_left _ hq)) i j
    have hp := hl p (List.mem_append_right _ (List.mem_singleton.2 rfl))
    obtain ⟨x, y⟩ := p
    simp only at hp
    obtain ⟨a, rfl⟩ := Int.eq_ofNat_of_zero_le hp.1
    obtain ⟨b, rfl⟩ := Int.eq_ofNat_of_zero_le hp.2.2.1
    have hc : confl (l ++ [((a : Int), (b : Int))]) i j ↔ confl l i j ∨ (i = a ∧ j = b) ∨ (j = a ∧ i = b) := by
      unfold confl att
      simp only [List.mem_append, List.mem_singleton, Prod.mk.injEq, Int.ofNat_inj]
      constructor
      · rintro ((h | h) | (h | h))
        · exact .inl (.inl h)
        · exact .inr (.inl h)
        · exact .inl (.inr h)
        · exact .inr (.inr h)
      · rintro ((h | h) | h | h)
        · exact .inl (.inl h)
        · exact .inr (.inl h)
        · exact .inl (.inr h)
        · exact .inr (.inr h)
    rw [cfM_snoc, hc]
    unfold cfS
    simp only [Int.ofNat_inj, Int.toNat_natCast]
    split
    · rename_i hab
      subst hab
      rw [ih]
      constructor
      · rintro ⟨h1, h2⟩; exact ⟨h1, .inl h2⟩
      · rintro ⟨h1, h2 | ⟨h2, h3⟩ | ⟨h2, h3⟩⟩
        · exact ⟨h1, h2⟩
        · omega
        · omega
    · rename_i hab
      split
      · rename_i hb
        rw [if_neg (by omega), has_or, ih, has_one]
        constructor
        · rintro (⟨h1, h2⟩ | h)
          · exact ⟨h1, .inl h2⟩
          · exact ⟨by omega, .inr (.inr ⟨h, hb.symm⟩)⟩
        · rintro ⟨h1, h2 | ⟨h2, h3⟩ | ⟨h2, h3⟩⟩
          · exact .inl ⟨h1, h2⟩
          · omega
          · exact .inr h2
      · rename_i hb
        split
        · rename_i ha
          rw [has_or, ih, has_one]
          constructor
          · rintro (⟨h1, h2⟩ | h)
            · exact ⟨h1, .inl h2⟩
            · exact ⟨by omega, .inr (.inl ⟨ha.symm, h⟩)⟩
          · rintro ⟨h1, h2 | ⟨h2, h3⟩ | ⟨h2, h3⟩⟩
            · exact .inl ⟨h1, h2⟩
            · exact .inr h3
            · omega
        · rename_i ha
          rw [ih]
          constructor
          · rintro ⟨h1, h2⟩; exact ⟨h1, .inl h2⟩
          · rintro ⟨h1, h2 | ⟨h2, h3⟩ | ⟨h2, h3⟩⟩
            · exact ⟨h1, h2⟩
            · omega
            · omega
theorem rsM_has (hn : n ≤ 40) : ∀ (l : List (Int × Int)), (∀ p ∈ l, 0 ≤ p.1 ∧ p.1 < n ∧ 0 ≤ p.2 ∧ p.2 < n) → ∀ j, has (rsM n l) j ↔ j < n ∧ ¬ att l j j := fun l => by
  refine snoc_ind (P := fun l => (∀ p ∈ l, 0 ≤ p.1 ∧ p.1 < (n : Int) ∧ 0 ≤ p.2 ∧ p.2 < (n : Int)) → ∀ j, has (rsM n l) j ↔ j < n ∧ ¬ att l j j) ?_ ?_ l
  · intro _ j; exact (has_allN (n := n)).trans ⟨fun h => ⟨h, fun h => by cases h⟩, fun h => h.1⟩
  · intro l p ih hl j
    have ih := ih (fun q hq => hl q (List.mem_append_left _ hq))
    have hp := hl p (List.mem_append_right _ (List.mem_singleton.2 rfl))
    obtain ⟨x, y⟩ := p
    simp only at hp
    obtain ⟨a, rfl⟩ := Int.eq_ofNat_of_zero_le hp.1
    obtain ⟨b, rfl⟩ := Int.eq_ofNat_of_zero_le hp.2.2.1
    have hc : att (l ++ [((a : Int), (b : Int))]) j j ↔ att l j j ∨ (j = a ∧ j = b) := by
      unfold att
      simp only [List.mem_append, List.mem_singleton, Prod.mk.injEq, Int.ofNat_inj]
    rw [rsM_snoc, hc]
    unfold rsS
    simp only [Int.ofNat_inj, Int.toNat_natCast]
    split
    · rename_i hab
      subst hab
      rw [has_minusN (u64_of hn (lt_of_has fun i hi => ((ih i).1 hi).1)) (by rw [Nat.one_shiftLeft]; exact two_pow_u64 (by omega)), ih, has_one]
      constructor
      · rintro ⟨⟨h1, h2⟩, h3⟩; exact ⟨h1, fun h => h.elim h2 fun h => h3 h.1⟩
      · rintro ⟨h1, h2⟩; exact ⟨⟨h1, fun h => h2 (.inl h)⟩, fun h => h2 (.inr ⟨h, h⟩)⟩
    · rename_i hab
      rw [ih]
      constructor
      · rintro ⟨h1, h2⟩; exact ⟨h1, fun h => h.elim h2 fun h => by omega⟩
      · rintro ⟨h1, h2⟩; exact ⟨h1, fun h => h2 (.inl h)⟩
end
/-- all naive sets, or an error -/
def navR (N : Int) (l : List (Int × Int)) : List (List Int) × Int := if valE N l = 0 then (if 200 < (navL N.toNat l).length then ([], 2) else ((navL N.toNat l).map ndL, 0)) else ([], valE N l)
theorem navR_bad {N : Int} {l : List (Int × Int)} (h : valE N l ≠ 0) : navR N l = ([], valE N l) := by unfold navR; rw [if_neg h]
theorem navR_ok {n : Nat} {l : List (Int × Int)} (h : valE n l = 0) : navR n l = if 200 < (navL n l).length then ([], 2) else ((navL n l).map ndL, 0) := by unfold navR; rw [if_pos h, Int.toNat_natCast]

end Go.Proofs.YtncimnfhfomddaaDoor
