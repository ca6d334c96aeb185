/- A sorted list of pairs is short. -/
import Derived.Test.YtncimnfhfomddaaDoorGenM
namespace Go.Proofs.YtncimnfhfomddaaDoor
open Go.ChangeShapes Go.WideShapes Go.ChangeAt Go.RowKit

theorem len_sorted {n : Nat} : ∀ (l : List (Int × Int)) (a : Nat), l.Pairwise ltP → (∀ q ∈ l, 0 ≤ q.1 ∧ q.1 < n ∧ 0 ≤ q.2 ∧ q.2 < n) → (∀ q ∈ l, (a : Int) ≤ q.1 * n + q.2) → l = [] ∨ l.length + a ≤ n * n
  | [], _, _, _, _ => .inl rfl
  | q :: l, a, hp, hr, ha => by
    right
    obtain ⟨h1, h2⟩ := List.pairwise_cons.1 hp
    obtain ⟨x, y⟩ := q
    have hq := hr _ (List.mem_cons_self ..)
    have haq := ha _ (List.mem_cons_self ..)
    simp only at hq haq
    obtain ⟨x, rfl⟩ := Int.eq_ofNat_of_zero_le hq.1
    obtain ⟨y, rfl⟩ := Int.eq_ofNat_of_zero_le hq.2.2.1
    have hx : x < n := by omega
    have hy : y < n := by omega
    have hxn : x * n + n ≤ n * n := by have := Nat.mul_le_mul_right n (show x + 1 ≤ n by omega); rw [Nat.succ_mul] at this; exact this
    have haq' : a ≤ x * n + y := by
      have : ((a : Nat) : Int) ≤ ((x * n + y : Nat) : Int) := by push_cast; exact haq
      omega
    have ih := len_sorted l (x * n + y + 1) h2 (fun p hp => hr p (List.mem_cons_of_mem _ hp)) (fun p hp => by
      have hl := h1 p hp
      have hpr := hr p (List.mem_cons_of_mem _ hp)
      obtain ⟨u, v⟩ := p
      simp only at hpr
      obtain ⟨u, rfl⟩ := Int.eq_ofNat_of_zero_le hpr.1
      obtain ⟨v, rfl⟩ := Int.eq_ofNat_of_zero_le hpr.2.2.1
      have hlt : x < u ∨ (x = u ∧ y < v) := by unfold ltP at hl; simp only at hl; omega
      have : x * n + y + 1 ≤ u * n + v := by
        rcases hlt with h | ⟨rfl, h⟩
        · have := Nat.mul_le_mul_right n (show x + 1 ≤ u by omega)
          rw [Nat.succ_mul] at this
          omega
        · omega
      have h3 : ((x * n + y + 1 : Nat) : Int) ≤ ((u * n + v : Nat) : Int) := by exact_mod_cast this
      push_cast at h3 ⊢
      exact h3)
    rcases ih with rfl | ih
    · simp; omega
    · simp only [List.length_cons]; omega
theorem len_vld2 {n : Nat} {l : List (Int × Int)} (h : Vld n l) : l.length ≤ n * n := by
  rcases len_sorted (n := n) l 0 h.2 (fun q hq => h.1.2.2 q hq) (fun q hq => by
    have := h.1.2.2 q hq
    have h1 : 0 ≤ q.1 * (n : Int) := Int.mul_nonneg this.1 (by omega)
    omega) with rfl | h
  · simp
  · omega

theorem len_of_vld {n : Nat} {l : List (Int × Int)} (h : Vld n l) : l.length ≤ 1600 := by
  have h1 := len_vld2 h
  have h2 := Nat.mul_le_mul h.1.1 h.1.1
  omega
end Go.Proofs.YtncimnfhfomddaaDoor
