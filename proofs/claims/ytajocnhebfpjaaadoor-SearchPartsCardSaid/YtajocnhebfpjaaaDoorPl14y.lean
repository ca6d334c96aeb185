/- law14, the plain side of SearchParts: a naive set of two graphs side by side parts into naive sets of the two. -/
import Derived.Test.YtajocnhebfpjaaaDoorInsW
import Derived.Test.YtajocnhebfpjaaaDoorPl14p
namespace Go.Proofs.YtajocnhebfpjaaaDoor

def leftL (n : Int) (x : List Int) : List Int := x.filter fun q => decide (q < n)
def rightL (n : Int) (x : List Int) : List Int := (x.filter fun q => !decide (q < n)).map fun q => q - n
theorem leftL_snoc {n : Int} {x : List Int} {q : Int} : leftL n (x ++ [q]) = leftL n x ++ if q < n then [q] else [] := by
  unfold leftL
  rw [List.filter_append]
  congr 1
  rw [List.filter_cons, List.filter_nil]
  simp only [decide_eq_true_eq]
theorem rightL_snoc {n : Int} {x : List Int} {q : Int} : rightL n (x ++ [q]) = rightL n x ++ if q < n then [] else [q - n] := by
  unfold rightL
  rw [List.filter_append, List.map_append]
  congr 1
  rw [List.filter_cons, List.filter_nil]
  by_cases h : q < n
  · simp [h]
  · simp [h]
theorem part_len {n : Int} (x : List Int) : (leftL n x).length ≤ x.length ∧ (rightL n x).length ≤ x.length := by
  unfold leftL rightL
  rw [List.length_map]
  exact ⟨List.length_filter_le .., List.length_filter_le ..⟩
theorem nodes_add2 (n m : Nat) (p : Nat → Bool) : nodesB (n + m) p = nodesB n p ++ (nodesB m fun j => p (n + j)).map fun q => (n : Int) + q := by
  unfold nodesB
  rw [List.range_add, List.filter_append, List.map_append, List.filter_map, List.map_map, List.map_map]
  congr 1
theorem left_nodes (n m : Nat) (p : Nat → Bool) : leftL n (nodesB (n + m) p) = nodesB n p := by
  unfold leftL
  rw [nodes_add2, List.filter_append, List.filter_eq_self.2, List.filter_eq_nil_iff.2, List.append_nil]
  · intro q hq
    obtain ⟨z, hz, rfl⟩ := List.mem_map.1 hq
    obtain ⟨i, _, _, rfl⟩ := mem_nodesB.1 hz
    simp
    omega
  · intro q hq
    obtain ⟨i, hi, _, rfl⟩ := mem_nodesB.1 hq
    simp
    omega
theorem right_nodes (n m : Nat) (p : Nat → Bool) : rightL n (nodesB (n + m) p) = nodesB m fun j => p (n + j) := by
  unfold rightL
  rw [nodes_add2, List.filter_append, List.filter_eq_nil_iff.2, List.nil_append, List.filter_eq_self.2, List.map_map]
  · refine (List.map_congr_left fun q _ => ?_).trans (List.map_id _)
    simp only [Function.comp, id]
    omega
  · intro q hq
    obtain ⟨z, hz, rfl⟩ := List.mem_map.1 hq
    obtain ⟨i, _, _, rfl⟩ := mem_nodesB.1 hz
    simp
    omega
  · intro q hq
    obtain ⟨i, hi, _, rfl⟩ := mem_nodesB.1 hq
    simp
    omega
theorem nodes_congr {n : Nat} {p q : Nat → Bool} (h : ∀ i, i < n → p i = q i) : nodesB n p = nodesB n q := by
  unfold nodesB
  rw [List.filter_congr fun i hi => h i (List.mem_range.1 hi)]
theorem join_parts {n m a b : Nat} (ha : a < 2 ^ n) : leftL n (ndN (n + m) (joinM n a b)) = ndN n a ∧ rightL n (ndN (n + m) (joinM n a b)) = ndN m b := by
  unfold ndN
  rw [left_nodes, right_nodes]
  refine ⟨nodes_congr fun i hi => ?_, nodes_congr fun j hj => ?_⟩
  · rw [Bool.eq_iff_iff]
    have := has_join (n := n) (a := a) (b := b) (j := i)
    exact this.trans ⟨fun h => h.elim id fun h => absurd h.1 (by omega), .inl⟩
  · rw [Bool.eq_iff_iff]
    have := has_join (n := n) (a := a) (b := b) (j := n + j)
    refine this.trans ⟨fun h => h.elim (fun h => absurd (has_lt ha h) (by omega)) fun h => ?_, fun h => .inr ⟨by omega, ?_⟩⟩
    · have h2 := h.2; rwa [Nat.add_sub_cancel_left] at h2
    · rw [Nat.add_sub_cancel_left]; exact h
theorem nav_parts {n m : Nat} {l k : List (Int × Int)} (hv : InR n l) (hw : InR m k) (hnm : n + m ≤ 40) {x : List Int} (hx : x ∈ (navL (n + m) (twoL n l k)).map ndL) :
    leftL n x ∈ (navL n l).map ndL ∧ rightL n x ∈ (navL m k).map ndL ∧ x.length ≤ 100 ∧ ∀ q ∈ x, 0 ≤ q ∧ q ≤ 100 := by
  rw [navL_ndL hnm] at hx
  rw [navL_ndL (by omega), navL_ndL (by omega)]
  obtain ⟨s, hs, rfl⟩ := List.mem_map.1 hx
  refine ⟨?_, ?_, ?_, fun q hq => ?_⟩
  · rw [two_navL hv hw] at hs
    unfold pairsL at hs
    obtain ⟨a, ha, hs⟩ := List.mem_flatMap.1 hs
    obtain ⟨b, hb, rfl⟩ := List.mem_map.1 hs
    rw [(join_parts (mem_navL.1 ha).lt2).1]
    exact List.mem_map.2 ⟨a, ha, rfl⟩
  · rw [two_navL hv hw] at hs
    unfold pairsL at hs
    obtain ⟨a, ha, hs⟩ := List.mem_flatMap.1 hs
    obtain ⟨b, hb, rfl⟩ := List.mem_map.1 hs
    rw [(join_parts (mem_navL.1 ha).lt2).2]
    exact List.mem_map.2 ⟨b, hb, rfl⟩
  · have := nodesB_length (n + m) s.testBit
    unfold ndN
    omega
  · unfold ndN at hq
    obtain ⟨i, hi, _, rfl⟩ := mem_nodesB.1 hq
    omega
theorem nav_small {n : Nat} {l : List (Int × Int)} (hn : n ≤ 40) {x : List Int} (hx : x ∈ (navL n l).map ndL) : x.length ≤ 100 := by
  rw [navL_ndL hn] at hx
  obtain ⟨s, hs, rfl⟩ := List.mem_map.1 hx
  have := nodesB_length n s.testBit
  unfold ndN
  omega
end Go.Proofs.YtajocnhebfpjaaaDoor
