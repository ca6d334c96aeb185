/- The plain law of AdmissibleSets: the reference's Range and IsStable. -/
import Derived.Test.YtncimnfhfomddaaDoorPlainB
import Derived.Test.YtncimnfhfomddaaDoorGenM
namespace Go.Proofs.YtncimnfhfomddaaDoor
open Go.ChangeShapes Go.WideShapes Go.ChangeAt Go.RowKit

theorem inRange_iff {n : Nat} {l : List (Int × Int)} (hv : InR n l) {x : List Int} (h : setB n x = true) (j : Nat) : inRange l x j = (maskN x ||| attN l (maskN x)).testBit j := by
  unfold inRange
  rw [Bool.eq_iff_iff, Bool.or_eq_true, inB_iff, ← has_maskS h, hitB_iff h, ← has_attN hv]
  exact has_or.symm
theorem rangeR_eq {n : Nat} {l : List (Int × Int)} (hv : InR n l) (x : List Int) : rangeR n l x = rangeL n l x := by
  unfold rangeR rangeL
  cases h : setB n x
  · rfl
  · simp only [if_true]
    exact nodesB_congr fun i _ => inRange_iff hv h i
theorem stableR_eq {n : Nat} {l : List (Int × Int)} (hv : InR n l) (x : List Int) : stableR n l x = (setB n x && stabB n l (maskN x)) := by
  unfold stableR stabB
  rw [cfR_eq hv, rangeR_eq hv]
  cases h : setB n x
  · simp
  · have hm := (setB_mask hv.1 h).2
    have hr : maskN x ||| attN l (maskN x) < 2 ^ n := or_lt hm (attN_u64 hv _)
    unfold rangeL
    rw [if_pos h, Bool.true_and, Bool.true_and]
    congr 1
    have hall : sub (maskN x ||| attN l (maskN x)) (allN n) := fun j hj => has_allN.2 (has_lt hr hj)
    obtain ⟨_, h2⟩ := nodes_len hr (allN_lt n) hall
    have h3 : (nodesB n (allN n).testBit).length = n := by
      unfold nodesB
      rw [List.length_map, List.filter_eq_self.2 (fun i hi => by rw [testBit_allN]; simpa using hi), List.length_range]
    rw [Bool.eq_iff_iff, beq_iff_eq, beq_iff_eq]
    constructor
    · intro e; exact h2 (by rw [h3]; exact e)
    · intro e; rw [e]; exact h3
end Go.Proofs.YtncimnfhfomddaaDoor
