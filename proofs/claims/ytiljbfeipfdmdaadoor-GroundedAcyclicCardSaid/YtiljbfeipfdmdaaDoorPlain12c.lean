/- The grounded labelling among the complete ones; graphs without cycles: plain words. No program in sight. -/
import Derived.Test.YtiljbfeipfdmdaaDoorPlain11c
import Derived.Test.YtiljbfeipfdmdaaDoorGnd
namespace Go.Proofs.YtiljbfeipfdmdaaDoor
open Go.ChangeShapes Go.WideShapes Go.ChangeAt Go.RowKit

theorem gr_at {n : Nat} {l : List (Int × Int)} {i : Nat} (h : i < n) : (lst n (grL n l)).getD i 0 = grL n l i := lst_getD h
theorem gr_labB {n : Nat} {l : List (Int × Int)} (hv : InR n l) : labB n (lst n (grL n l)) = true := by
  rw [labB_iff]
  refine ⟨lst_length _ _, fun v hv' => ?_⟩
  unfold lst at hv'
  obtain ⟨i, _, rfl⟩ := List.mem_map.1 hv'
  rcases (gr_inv hv).rng i with h | h | h <;> omega
theorem gr_comB {n : Nat} {l : List (Int × Int)} (hv : InR n l) : comB n l (lst n (grL n l)) = true := by
  have inv := gr_inv hv
  rw [comB_iff]
  refine ⟨gr_labB hv, fun i hi => ?_⟩
  have hat : ∀ a, att l a i → (lst n (grL n l)).getD a 0 = grL n l a := fun a ha => gr_at (att_lt hv ha).1
  rw [legB_iff hv (labB_at (gr_labB hv) hi), gr_at hi]
  rcases inv.rng i with h | h | h
  · exact .inl ⟨h, fun a ha => by rw [hat a ha]; exact (inv.isIn i h).2 a ha⟩
  · obtain ⟨a, ha, h1⟩ := inv.isOut i h
    exact .inr (.inl ⟨h, a, ha, by rw [hat a ha]; exact h1⟩)
  · refine .inr (.inr ⟨h, ?_, fun a ha e => ?_⟩)
    · rcases Classical.em (∃ a, att l a i ∧ (lst n (grL n l)).getD a 0 ≠ 2) with h1 | h1
      · exact h1
      · have := gr_rest hv i hi
        rw [(frB_iff hv).2 ⟨hi, h, fun a ha => Classical.byContradiction fun e => h1 ⟨a, ha, by rw [hat a ha]; exact e⟩⟩] at this
        cases this
    · rw [hat a ha] at e
      have := inv.outs a i e ha
      omega
theorem gr_less {n : Nat} {l : List (Int × Int)} (hv : InR n l) {y : List Int} (h : comB n l y = true) : lessB (lst n (grL n l)) y = true := by
  have hlen := (labB_iff.1 (comB_iff.1 h).1).1
  have key : ∀ r i, i < n → (stL n l r i = 1 → y.getD i 0 = 1) ∧ (stL n l r i = 2 → y.getD i 0 = 2) := by
    intro r
    induction r with
    | zero => intro i _; simp [stL]
    | succ r ih =>
      have hfree : ∀ a, frB n l (stL n l r) a = true → y.getD a 0 = 1 := fun a ha => by
        obtain ⟨han, _, ho⟩ := (frB_iff hv).1 ha
        exact (com_words hv h han).1.2 fun b hb => (ih b (att_lt hv hb).1).2 (ho b hb)
      intro i hi
      simp only [stL, nxL]
      by_cases hf : frB n l (stL n l r) i = true
      · rw [if_pos hf]
        exact ⟨fun _ => hfree i hf, fun e => by omega⟩
      · rw [if_neg hf]
        by_cases hg : gHitB n l (stL n l r) i = true
        · rw [if_pos hg]
          obtain ⟨_, _, a, ha, hfa⟩ := (gHitB_iff hv).1 hg
          exact ⟨fun e => by omega, fun _ => (com_words hv h hi).2.2 ⟨a, ha, hfree a hfa⟩⟩
        · rw [if_neg hg]; exact ih i hi
  refine lessB_iff.2 ⟨by rw [lst_length, hlen], fun i hi hor => ?_⟩
  rw [lst_length] at hi
  rw [gr_at hi] at hor ⊢
  rcases hor with e | e
  · rw [(key n i hi).1 e, e]
  · rw [(key n i hi).2 e, e]

/-- in a graph without cycles no node stays undecided -/
theorem acy_all {n : Nat} {l : List (Int × Int)} (hv : InR n l) (h : ∀ p ∈ l, p.1 < p.2) : ∀ i, i < n → grL n l i = 1 ∨ grL n l i = 2 := by
  have inv := gr_inv hv
  intro i
  induction i using Nat.strongRecOn with
  | _ i ih =>
    intro hi
    rcases inv.rng i with e | e | e
    · exact .inl e
    · exact .inr e
    · exfalso
      have := gr_rest hv i hi
      rw [(frB_iff hv).2 ⟨hi, e, fun a ha => ?_⟩] at this
      · cases this
      · have hai : a < i := by have := h _ ha; simp at this; omega
        rcases ih a hai (att_lt hv ha).1 with h1 | h1
        · have := inv.outs a i h1 ha; omega
        · exact h1
theorem acy_com {n : Nat} {l : List (Int × Int)} (hv : InR n l) (h : ∀ p ∈ l, p.1 < p.2) {y : List Int} (hy : labB n y = true) : comB n l y = eqB (lst n (grL n l)) y := by
  apply Bool.eq_iff_iff.2
  rw [eqB_iff]
  constructor
  · intro hc
    obtain ⟨_, k⟩ := lessB_iff.1 (gr_less hv hc)
    rw [list_of_getD (labB_iff.1 hy).1]
    refine lst_congr fun i hi => ?_
    have := k i (by rw [lst_length]; exact hi)
    rw [gr_at hi] at this
    exact (this (acy_all hv h i hi)).symm
  · rintro rfl; exact gr_comB hv
theorem acy_in {n : Nat} {l : List (Int × Int)} (hv : InR n l) (h : ∀ p ∈ l, p.1 < p.2) : inB (lst n (grL n l)) 3 = false := by
  cases hb : inB (lst n (grL n l)) 3
  · rfl
  · rw [inB_iff] at hb
    unfold lst at hb
    obtain ⟨i, hi, e⟩ := List.mem_map.1 hb
    rcases acy_all hv h i (List.mem_range.1 hi) with h1 | h1 <;> omega
end Go.Proofs.YtiljbfeipfdmdaaDoor
