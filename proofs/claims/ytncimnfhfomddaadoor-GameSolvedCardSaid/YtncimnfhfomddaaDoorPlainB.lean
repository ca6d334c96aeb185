/- The plain law of AdmissibleLeast: what Grow and Shrink return, against the reference's tests. -/
import Derived.Test.YtncimnfhfomddaaDoorP12
namespace Go.Proofs.YtncimnfhfomddaaDoor
open Go.ChangeShapes Go.WideShapes Go.ChangeAt Go.RowKit

/-- what the statement asks of a, e (Grow's) and b, f (Shrink's) at a set x -/
structure LeastAt (n : Nat) (l : List (Int × Int)) (x a : List Int) (e : Int) (b : List Int) (f : Int) : Prop where
  he : (e == 0) = admR n l x
  hf : (f == 0) = cfR n l x
  la : a.length ≤ 100000
  lb : b.length ≤ 100000
  ga : admR n l x = true → comR n l a = true ∧ insideB x a = true ∧ ∀ y, comR n l y = true → insideB x y = true → insideB a y = true
  gb : cfR n l x = true → admR n l b = true ∧ insideB b x = true ∧ ∀ y, insideB y x = true → admR n l y = true → insideB y b = true
  gc : admR n l x = true → cfR n l x = true

theorem least_law {n : Nat} {l : List (Int × Int)} (hv : InR n l) {x : List Int} (hx : setB n x = true) : LeastAt n l x (growL n l x).1 (growL n l x).2 (shrinkL n l x).1 (shrinkL n l x).2 := by
  have hm := (setB_mask hv.1 hx).2
  have hax : admR n l x = soundB n l (maskN x) := by rw [admR_eq hv, hx, Bool.true_and]
  have hcx : cfR n l x = freeB l (maskN x) := by rw [cfR_eq hv, hx, Bool.true_and]
  have len : ∀ m : Nat, (nodesB n m.testBit).length ≤ 100000 := fun m => by have := nodesB_length n m.testBit; have := hv.1; omega
  have ins : ∀ {y : List Int} (_ : setB n y = true) (m : Nat), m < 2 ^ n → (insideB (nodesB n m.testBit) y = true ↔ sub m (maskN y)) := fun {y} hy m hmn => by
    have := insideB_nodes (a := m) (b := maskN y) hmn
    rwa [set_nodes hy] at this
  have ins2 : ∀ {y : List Int} (_ : setB n y = true) (m : Nat), (insideB y (nodesB n m.testBit) = true ↔ sub (maskN y) m) := fun {y} hy m => by
    have := insideB_nodes (a := maskN y) (b := m) (setB_mask hv.1 hy).2
    rwa [set_nodes hy] at this
  have ins3 : ∀ {y z : List Int} (_ : setB n y = true) (_ : setB n z = true), (insideB y z = true ↔ sub (maskN y) (maskN z)) := fun {y z} hy hz => by
    have := ins2 hy (maskN z)
    rwa [set_nodes hz] at this
  unfold growL shrinkL
  rw [if_pos hx, if_pos hx]
  refine ⟨?_, ?_, ?_, ?_, fun h => ?_, fun h => ?_, fun h => ?_⟩
  · rw [hax]; cases soundB n l (maskN x) <;> rfl
  · rw [hcx]; cases freeB l (maskN x) <;> rfl
  · split
    · exact len _
    · exact Nat.zero_le _
  · split
    · exact len _
    · exact Nat.zero_le _
  · rw [hax] at h
    rw [if_pos h]
    have hg := growN_lt (n := n) (l := l) hm
    obtain ⟨h1, h2⟩ := grow_compl hv hm h
    refine ⟨?_, (ins2 hx _).2 h2, fun y hy hxy => ?_⟩
    · rw [comR_eq hv, setB_nodes, mask_nodes hg]; exact h1
    · rw [comR_eq hv, Bool.and_eq_true] at hy
      exact (ins hy.1 _ hg).2 (grow_least hv hy.2 ((ins3 hx hy.1).1 hxy))
  · rw [hcx] at h
    rw [if_pos h]
    have hg := shrinkN_lt (n := n) (l := l) hm
    obtain ⟨h1, h2⟩ := shrink_sound hv hm h
    refine ⟨?_, (ins hx _ hg).2 h2, fun y hyx hy => ?_⟩
    · rw [admR_eq hv, setB_nodes, mask_nodes hg]; exact h1
    · rw [admR_eq hv, Bool.and_eq_true] at hy
      exact (ins2 hy.1 _).2 (shrink_most hv (setB_mask hv.1 hy.1).2 hy.2 ((ins3 hy.1 hx).1 hyx))
  · rw [hax] at h
    rw [hcx]
    exact ((soundB_iff hv hm).1 h).1
end Go.Proofs.YtncimnfhfomddaaDoor
