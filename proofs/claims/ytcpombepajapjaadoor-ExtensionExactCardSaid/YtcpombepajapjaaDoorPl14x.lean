/- law14, the plain side of SearchExact: the naive sets by trial. -/
import Derived.Test.YtcpombepajapjaaDoorInsW
namespace Go.Proofs.YtcpombepajapjaaDoor

/-- x is conflict-free, and no larger conflict-free set of S holds it -/
def tryP (n : Nat) (l : List (Int × Int)) (x y : List Int) : Bool := decide (y.length ≤ x.length) || !cfR n l y || !insideB x y
def tryB (n : Nat) (l : List (Int × Int)) (x : List Int) : Bool := cfR n l x && (setsL n).all (tryP n l x)
theorem try_iff {n : Nat} {l : List (Int × Int)} (hv : InR n l) {m : Nat} (hm : m < 2 ^ n) : tryB n l (nodesB n m.testBit) = true ↔ Nav n l m := by
  rw [nav_try hm]
  unfold tryB
  rw [Bool.and_eq_true, List.all_eq_true]
  refine and_congr (cf_nodes hv hm) ⟨fun h y hy hf hs => ?_, fun h x hx => ?_⟩
  · have := h (nodesB n y.testBit) (by unfold setsL; exact List.mem_map.2 ⟨y, List.mem_range.2 hy, rfl⟩)
    unfold tryP at this
    have h1 : cfR n l (nodesB n y.testBit) = true := (cf_nodes hv hy).2 hf
    have h2 : insideB (nodesB n m.testBit) (nodesB n y.testBit) = true := (insideB_nodes hm).2 hs
    rw [h1, h2] at this
    simpa using this
  · unfold setsL at hx
    obtain ⟨y, hy, rfl⟩ := List.mem_map.1 hx
    have hy := List.mem_range.1 hy
    unfold tryP
    cases h1 : cfR n l (nodesB n y.testBit)
    · simp
    · cases h2 : insideB (nodesB n m.testBit) (nodesB n y.testBit)
      · simp
      · have := h y hy ((cf_nodes hv hy).1 h1) ((insideB_nodes hm).1 h2)
        simp [this]
theorem masks_nodup (n : Nat) : (masksL 0 n).Nodup := (masks_sorted n 0).imp fun h => lexM_ne h
theorem nav_nodup (n : Nat) (l : List (Int × Int)) : (navL n l).Nodup := (masks_nodup n).filter _
/-- the sets found by trial -/
def tryL (n : Nat) (l : List (Int × Int)) : List (List Int) := (setsL n).filter (tryB n l)
theorem tryL_eq (n : Nat) (l : List (Int × Int)) : tryL n l = ((List.range (2 ^ n)).filter fun m => tryB n l (nodesB n m.testBit)).map fun m => nodesB n m.testBit := by
  unfold tryL setsL
  rw [List.filter_map]
  rfl
theorem tryL_len {n : Nat} {l : List (Int × Int)} (hv : InR n l) : (tryL n l).length = (navL n l).length := by
  rw [tryL_eq, List.length_map]
  refine Nat.le_antisymm (sub_len (List.nodup_range.filter _) fun x hx => ?_) (sub_len (nav_nodup n l) fun x hx => ?_)
  · obtain ⟨h1, h2⟩ := List.mem_filter.1 hx
    exact mem_navL.2 ((try_iff hv (List.mem_range.1 h1)).1 h2)
  · have hn := mem_navL.1 hx
    exact List.mem_filter.2 ⟨List.mem_range.2 hn.lt2, (try_iff hv hn.lt2).2 hn⟩
theorem nav_tryL {n : Nat} {l : List (Int × Int)} (hv : InR n l) {x : List Int} (hx : x ∈ (navL n l).map (ndN n)) : x ∈ tryL n l := by
  obtain ⟨m, hm, rfl⟩ := List.mem_map.1 hx
  have hn := mem_navL.1 hm
  rw [tryL_eq]
  exact List.mem_map.2 ⟨m, List.mem_filter.2 ⟨List.mem_range.2 hn.lt2, (try_iff hv hn.lt2).2 hn⟩, rfl⟩
/-- what SearchExact uses of the naive sets -/
structure NavX (n : Nat) (l : List (Int × Int)) (r : List (List Int) × Int) (F : List (List Int)) : Prop where
  e : r.2 = 0
  len : r.1.length = F.length
  cmp : ∀ k (h : k + 1 < r.1.length), cmpLs r.1[k] r.1[k + 1] = -1
  small : ∀ k (h : k < r.1.length), r.1[k].length ≤ 100
  hit : ∀ k (h : k < r.1.length), (F.any fun y => eqB r.1[k] y) = true
theorem navX {n : Nat} {l : List (Int × Int)} (hv : Vld n l) (hn : n ≤ 6) : NavX n l (navR n l) (tryL n l) := by
  have hf := nav_few (n := n) (l := l) (by omega)
  rw [navR_ok hv.valE, navL_ndL hv.1.1, if_neg (by omega)]
  refine ⟨rfl, by rw [List.length_map, tryL_len hv.1], fun k h => ?_, fun k h => ?_, fun k h => ?_⟩
  · simp only [List.length_map] at h
    simp only [List.getElem_map]
    exact nav_cmp h
  · simp only [List.getElem_map]
    have := nodesB_length n ((navL n l)[k]'(by simpa using h)).testBit
    unfold ndN
    omega
  · rw [List.any_eq_true]
    exact ⟨_, nav_tryL hv.1 (List.getElem_mem h), (eqB_iff _ _).2 rfl⟩
theorem sets_len (n : Nat) : (setsL n).length = 2 ^ n := by unfold setsL; simp
theorem sets_small {n k : Nat} (h : k < (setsL n).length) : (setsL n)[k].length ≤ n := by
  simp only [setsL, List.getElem_map]
  exact nodesB_length n _
end Go.Proofs.YtcpombepajapjaaDoor
