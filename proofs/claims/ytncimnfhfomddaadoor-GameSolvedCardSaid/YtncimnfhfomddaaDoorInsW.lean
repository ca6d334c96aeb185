/- law14: insert; what SearchLarge asks of the lists. -/
import Derived.Test.YtncimnfhfomddaaDoorAwN
import Derived.Test.YtncimnfhfomddaaDoorPl14q
namespace Go.Proofs.YtncimnfhfomddaaDoor
open Go.ChangeShapes Go.WideShapes Go.ChangeAt Go.RowKit

/-- one step of the insertion -/
def insS (v : Int) (z : List Int × Bool) (y : Int) : List Int × Bool := if z.2 = false ∧ v < y then (z.1 ++ [v] ++ [y], true) else (z.1 ++ [y], z.2)
def insF (x : List Int) (v : Int) : List Int × Bool := x.foldl (insS v) ([], false)
def insL (x : List Int) (v : Int) : List Int := if (insF x v).2 then (insF x v).1 else (insF x v).1 ++ [v]
theorem insF_snoc (x : List Int) (v y : Int) : insF (x ++ [y]) v = insS v (insF x v) y := by simp [insF, List.foldl_append]
theorem insF_mem (v : Int) (x : List Int) : ∀ y, y ∈ (insF x v).1 ↔ y ∈ x ∨ ((insF x v).2 = true ∧ y = v) := by
  refine snoc_ind (P := fun x => ∀ y, y ∈ (insF x v).1 ↔ y ∈ x ∨ ((insF x v).2 = true ∧ y = v)) ?_ ?_ x
  · intro y; simp [insF]
  · intro x a ih y
    rw [insF_snoc]
    unfold insS
    split
    · rename_i h
      simp only [List.mem_append, List.mem_singleton, ih, h.1]
      constructor
      · rintro (((h1 | h1) | h1) | h1)
        · exact .inl (.inl h1)
        · cases h1.1
        · exact .inr ⟨by first | rfl | trivial, h1⟩
        · exact .inl (.inr h1)
      · rintro ((h1 | h1) | h1)
        · exact .inl (.inl (.inl h1))
        · exact .inr h1
        · exact .inl (.inr h1.2)
    · simp only [List.mem_append, List.mem_singleton, ih]
      constructor
      · rintro ((h1 | h1) | h1)
        · exact .inl (.inl h1)
        · exact .inr h1
        · exact .inl (.inr h1)
      · rintro ((h1 | h1) | h1)
        · exact .inl (.inl h1)
        · exact .inr h1
        · exact .inl (.inr h1)
theorem insL_mem (x : List Int) (v y : Int) : y ∈ insL x v ↔ y ∈ x ∨ y = v := by
  unfold insL
  split
  · rename_i h
    rw [insF_mem]
    simp [h]
  · rename_i h
    rw [List.mem_append, insF_mem, List.mem_singleton]
    have : (insF x v).2 = false := by simpa using h
    simp [this]
theorem insF_len (x : List Int) (v : Int) : (insF x v).1.length = x.length + if (insF x v).2 then 1 else 0 := by
  refine snoc_ind (P := fun x => (insF x v).1.length = x.length + if (insF x v).2 then 1 else 0) ?_ ?_ x
  · simp [insF]
  · intro x a ih
    rw [insF_snoc]
    unfold insS
    split
    · rename_i h
      rw [h.1] at ih
      simp at ih ⊢
      omega
    · simp only [List.length_append, List.length_singleton]
      rw [ih]; split <;> omega
theorem insL_len (x : List Int) (v : Int) : (insL x v).length = x.length + 1 := by
  unfold insL
  have := insF_len x v
  split
  · rename_i h; rw [h] at this; simpa using this
  · rename_i h
    have h2 : (insF x v).2 = false := by simpa using h
    rw [h2] at this
    simp at this ⊢; omega
/-- a node that is no member of a naive set is in conflict with it -/
theorem ins_no {n : Nat} {l : List (Int × Int)} (hv : InR n l) {m k : Nat} (hm : Nav n l m) (hk : k < n) (hn : ¬ has m k) : cfR n l (insL (ndN n m) (k : Int)) = false := by
  have hpos : ∀ y ∈ insL (ndN n m) (k : Int), 0 ≤ y := fun y hy => by
    rcases (insL_mem _ _ _).1 hy with h | h
    · obtain ⟨j, _, _, rfl⟩ := mem_nodesB.1 h; omega
    · omega
  have hh : ∀ j, has (maskN (insL (ndN n m) (k : Int))) j ↔ has m j ∨ j = k := fun j => by
    rw [has_maskN hpos, insL_mem]
    constructor
    · rintro (h | h)
      · obtain ⟨q, _, hp, e⟩ := mem_nodesB.1 h
        have : j = q := by omega
        subst this; exact .inl hp
      · exact .inr (by omega)
    · rintro (h | h)
      · exact .inl (mem_nodesB.2 ⟨j, hm.lt j h, h, rfl⟩)
      · exact .inr (by omega)
  rw [cfR_eq hv, Bool.and_eq_false_iff]
  right
  rw [Bool.eq_false_iff]
  intro hf
  have hf2 := (freeB_iff hv _).1 hf
  rcases Classical.em (att l k k) with h | h
  · exact hf2 k k ((hh k).2 (.inr rfl)) ((hh k).2 (.inr rfl)) h
  · obtain ⟨q, hq, hc⟩ := hm.most k hk h hn
    exact hc.elim (hf2 k q ((hh k).2 (.inr rfl)) ((hh q).2 (.inl hq))) (hf2 q k ((hh q).2 (.inl hq)) ((hh k).2 (.inr rfl)))
/-- what is known of the lists of labellings -/
structure CompOk (n : Nat) (l : List (Int × Int)) (r : List (List Int) × Int) : Prop where
  e : r.2 = 0 ∨ r.2 = 2
  pos : r.2 = 0 → 0 < r.1.length
  le : r.1.length ≤ 200
  len : ∀ k (h : k < r.1.length), r.1[k].length ≤ 100
  com : ∀ k (h : k < r.1.length), comB n l r.1[k] = true
  cmp : ∀ k (h : k + 1 < r.1.length), cmpLs r.1[k] r.1[k + 1] = -1
theorem compR_good {n : Nat} {l : List (Int × Int)} (hv : Vld n l) : CompOk n l (compR n l) := by
  rw [compR_ok hv.valE]
  have h40 := hv.1.1
  split
  · exact ⟨.inr rfl, (fun h => by cases h), by simp, (fun k h => by simp at h), (fun k h => by simp at h), fun k h => by simp at h⟩
  · refine ⟨.inl rfl, fun _ => comp_some hv.1, by simp only; omega, fun k h => ?_, fun k h => mem_comp.1 (List.getElem_mem _), fun k h => comp_cmp h⟩
    have := comp_len (List.getElem_mem (l := compL n l) (n := k) h)
    simp only; omega
structure NavOk (n : Nat) (l : List (Int × Int)) (r : List (List Int) × Int) : Prop where
  e : r.2 = 0 ∨ r.2 = 2
  pos : r.2 = 0 → 0 < r.1.length
  le : r.1.length ≤ 200
  len : ∀ k (h : k < r.1.length), r.1[k].length ≤ 100
  cf : ∀ k (h : k < r.1.length), cfR n l r.1[k] = true
  cmp : ∀ k (h : k + 1 < r.1.length), cmpLs r.1[k] r.1[k + 1] = -1
  most : ∀ k (h : k < r.1.length), ∀ i : Nat, i < n → inB r.1[k] (i : Int) = false → cfR n l (insL r.1[k] (i : Int)) = false
theorem navR_good {n : Nat} {l : List (Int × Int)} (hv : Vld n l) : NavOk n l (navR n l) := by
  rw [navR_ok hv.valE, navL_ndL hv.1.1]
  have h40 := hv.1.1
  split
  · exact ⟨.inr rfl, (fun h => by cases h), by simp, (fun k h => by simp at h), (fun k h => by simp at h), (fun k h => by simp at h), fun k h => by simp at h⟩
  · have hm : ∀ k (h : k < ((navL n l).map (ndN n)).length), ∃ h' : k < (navL n l).length, ((navL n l).map (ndN n))[k] = ndN n (navL n l)[k] := fun k h => ⟨by rw [List.length_map] at h; exact h, by simp⟩
    have hn : ∀ k (h : k < (navL n l).length), Nav n l (navL n l)[k] := fun k h => mem_navL.1 (List.getElem_mem h)
    refine ⟨.inl rfl, fun _ => ?_, ?_, fun k h => ?_, fun k h => ?_, fun k h => ?_, fun k h i hi hb => ?_⟩
    · simp only; rw [List.length_map]; exact nav_some n l
    · simp only; rw [List.length_map]; omega
    · obtain ⟨h', e⟩ := hm k h
      simp only [e]
      have := nodesB_length n ((navL n l)[k]).testBit
      unfold ndN; omega
    · obtain ⟨h', e⟩ := hm k h
      simp only [e]
      exact (cf_nodes hv.1 (hn k h').lt2).2 (hn k h').free
    · obtain ⟨h1, e1⟩ := hm k (Nat.lt_of_succ_lt h)
      obtain ⟨h2, e2⟩ := hm (k + 1) h
      simp only [e1, e2]
      exact nav_cmp h2
    · obtain ⟨h', e⟩ := hm k h
      simp only [e] at hb ⊢
      refine ins_no hv.1 (hn k h') hi fun hh => ?_
      have := (inB_ndN (n := n) (s := (navL n l)[k]) (i := i)).2 ⟨hi, hh⟩
      rw [hb] at this; cases this

end Go.Proofs.YtncimnfhfomddaaDoor
