/- Labellings in plain words: valid, legal, complete. No program in sight. -/
import Derived.Test.YtiljbfeipfdmdaaDoorWit
import Derived.Test.YtiljbfeipfdmdaaDoorGrC
namespace Go.Proofs.YtiljbfeipfdmdaaDoor
open Go.ChangeShapes Go.WideShapes Go.ChangeAt Go.RowKit

/-- a number is a label -/
def okL (v : Int) : Bool := decide (1 ≤ v) && decide (v ≤ 3)
theorem okL_iff {v : Int} : okL v = true ↔ 1 ≤ v ∧ v ≤ 3 := by unfold okL; simp
/-- a list is a labelling of n nodes -/
def labB (n : Int) (x : List Int) : Bool := x.all okL && decide ((x.length : Int) = n)
theorem labB_iff {n : Nat} {x : List Int} : labB n x = true ↔ x.length = n ∧ ∀ v ∈ x, 1 ≤ v ∧ v ≤ 3 := by
  unfold labB
  rw [Bool.and_eq_true, List.all_eq_true, decide_eq_true_iff]
  constructor
  · rintro ⟨h1, h2⟩; exact ⟨by omega, fun v hv => okL_iff.1 (h1 v hv)⟩
  · rintro ⟨h1, h2⟩; exact ⟨fun v hv => okL_iff.2 (h2 v hv), by omega⟩
theorem labB_at {n : Nat} {x : List Int} (h : labB n x = true) {i : Nat} (hi : i < n) : 1 ≤ x.getD i 0 ∧ x.getD i 0 ≤ 3 := by
  obtain ⟨h1, h2⟩ := labB_iff.1 h
  have hi' : i < x.length := by omega
  have e : x.getD i 0 = x[i] := by simp [List.getD, hi']
  rw [e]; exact h2 _ (List.getElem_mem hi')
/-- how many attackers have a label -/
def cntL (l : List (Int × Int)) (x : List Int) (i : Nat) (v : Int) : Nat := ((attackersL l i).filter fun a => x.getD a.toNat 0 == v).length
/-- a node is legal -/
def legB (l : List (Int × Int)) (x : List Int) (i : Nat) : Bool :=
  if x.getD i 0 = 1 then decide (cntL l x i 2 = (attackersL l i).length) else if x.getD i 0 = 2 then decide (0 < cntL l x i 1) else decide (cntL l x i 2 < (attackersL l i).length) && decide (cntL l x i 1 = 0)
/-- the nodes that are not legal -/
def illL (n : Nat) (l : List (Int × Int)) (x : List Int) : List Int := if labB n x then nodesB n fun i => !legB l x i else []
/-- a complete labelling -/
def comB (n : Nat) (l : List (Int × Int)) (x : List Int) : Bool := labB n x && decide ((illL n l x).length = 0)
theorem filter_len_all {p : Int → Bool} : ∀ {l : List Int}, (l.filter p).length = l.length ↔ ∀ a ∈ l, p a = true
  | [] => by simp
  | y :: l => by
    have hle := List.length_filter_le p l
    rw [List.filter_cons]
    by_cases h : p y = true
    · rw [if_pos h]; simp [filter_len_all (l := l), h]
    · rw [if_neg h]
      constructor
      · intro e; simp at e; omega
      · intro e; exact absurd (e y (List.mem_cons_self ..)) h
theorem cnt_all {l : List (Int × Int)} {x : List Int} {i : Nat} {v : Int} {n : Nat} (hv : InR n l) : cntL l x i v = (attackersL l i).length ↔ ∀ a, att l a i → x.getD a 0 = v := by
  unfold cntL
  rw [filter_len_all]
  constructor
  · intro h a ha
    have := h a (mem_attackersL.2 ha)
    simpa using this
  · intro h a ha
    obtain ⟨b, rfl, _, hb⟩ := attacker_nat hv ha
    simpa using h b hb
theorem cnt_none {l : List (Int × Int)} {x : List Int} {i : Nat} {v : Int} {n : Nat} (hv : InR n l) : cntL l x i v = 0 ↔ ∀ a, att l a i → x.getD a 0 ≠ v := by
  unfold cntL
  rw [List.length_eq_zero_iff, List.filter_eq_nil_iff]
  constructor
  · intro h a ha
    have := h a (mem_attackersL.2 ha)
    simpa using this
  · intro h a ha
    obtain ⟨b, rfl, _, hb⟩ := attacker_nat hv ha
    simpa using h b hb
theorem cnt_le (l : List (Int × Int)) (x : List Int) (i : Nat) (v : Int) : cntL l x i v ≤ (attackersL l i).length := List.length_filter_le _ _
/-- what legal means -/
theorem legB_iff {n : Nat} {l : List (Int × Int)} (hv : InR n l) {x : List Int} {i : Nat} (hx : 1 ≤ x.getD i 0 ∧ x.getD i 0 ≤ 3) : legB l x i = true ↔
    (x.getD i 0 = 1 ∧ ∀ a, att l a i → x.getD a 0 = 2) ∨ (x.getD i 0 = 2 ∧ ∃ a, att l a i ∧ x.getD a 0 = 1) ∨ (x.getD i 0 = 3 ∧ (∃ a, att l a i ∧ x.getD a 0 ≠ 2) ∧ ∀ a, att l a i → x.getD a 0 ≠ 1) := by
  have h2 : 0 < cntL l x i 1 ↔ ∃ a, att l a i ∧ x.getD a 0 = 1 := by
    rw [Nat.pos_iff_ne_zero, Ne, cnt_none hv]
    constructor
    · intro h
      rcases Classical.em (∃ a, att l a i ∧ x.getD a 0 = 1) with h1 | h1
      · exact h1
      · exact absurd (fun a ha e => h1 ⟨a, ha, e⟩) h
    · rintro ⟨a, ha, e⟩ h; exact h a ha e
  have h3 : cntL l x i 2 < (attackersL l i).length ↔ ∃ a, att l a i ∧ x.getD a 0 ≠ 2 := by
    have hle := cnt_le l x i 2
    have : cntL l x i 2 < (attackersL l i).length ↔ ¬ cntL l x i 2 = (attackersL l i).length := by omega
    rw [this, cnt_all hv]
    constructor
    · intro h
      rcases Classical.em (∃ a, att l a i ∧ x.getD a 0 ≠ 2) with h1 | h1
      · exact h1
      · exact absurd (fun a ha => Classical.byContradiction fun e => h1 ⟨a, ha, e⟩) h
    · rintro ⟨a, ha, e⟩ h; exact e (h a ha)
  unfold legB
  by_cases e1 : x.getD i 0 = 1
  · rw [if_pos e1, decide_eq_true_iff, cnt_all hv]
    constructor
    · intro h; exact .inl ⟨e1, h⟩
    · rintro (⟨_, h⟩ | ⟨h, _⟩ | ⟨h, _⟩)
      · exact h
      · omega
      · omega
  · rw [if_neg e1]
    by_cases e2 : x.getD i 0 = 2
    · rw [if_pos e2, decide_eq_true_iff, h2]
      constructor
      · intro h; exact .inr (.inl ⟨e2, h⟩)
      · rintro (⟨h, _⟩ | ⟨_, h⟩ | ⟨h, _⟩)
        · omega
        · exact h
        · omega
    · rw [if_neg e2, Bool.and_eq_true, decide_eq_true_iff, decide_eq_true_iff, h3, cnt_none hv]
      constructor
      · rintro ⟨ha, hb⟩; exact .inr (.inr ⟨by omega, ha, hb⟩)
      · rintro (⟨h, _⟩ | ⟨h, _⟩ | ⟨_, ha, hb⟩)
        · omega
        · omega
        · exact ⟨ha, hb⟩
theorem comB_iff {n : Nat} {l : List (Int × Int)} {x : List Int} : comB n l x = true ↔ labB n x = true ∧ ∀ i, i < n → legB l x i = true := by
  unfold comB illL
  rw [Bool.and_eq_true, decide_eq_true_iff]
  constructor
  · rintro ⟨h1, h2⟩
    rw [if_pos h1] at h2
    refine ⟨h1, fun i hi => ?_⟩
    cases hb : legB l x i
    · have : (i : Int) ∈ nodesB n fun i => !legB l x i := mem_nodesB.2 ⟨i, hi, by simp [hb], rfl⟩
      rw [List.eq_nil_of_length_eq_zero h2] at this; cases this
    · rfl
  · rintro ⟨h1, h2⟩
    refine ⟨h1, ?_⟩
    rw [if_pos h1]
    rw [List.length_eq_zero_iff, List.eq_nil_iff_forall_not_mem]
    intro y hy
    obtain ⟨i, hi, hb, _⟩ := mem_nodesB.1 hy
    rw [h2 i hi] at hb; cases hb
/-- in words: a labelling is complete exactly if ... -/
theorem com_words {n : Nat} {l : List (Int × Int)} (hv : InR n l) {x : List Int} (h : comB n l x = true) {i : Nat} (hi : i < n) :
    (x.getD i 0 = 1 ↔ ∀ a, att l a i → x.getD a 0 = 2) ∧ (x.getD i 0 = 2 ↔ ∃ a, att l a i ∧ x.getD a 0 = 1) := by
  obtain ⟨h1, h2⟩ := comB_iff.1 h
  have hx := labB_at h1 hi
  have hl := (legB_iff hv hx).1 (h2 i hi)
  constructor
  · constructor
    · intro e
      rcases hl with ⟨_, h⟩ | ⟨h, _⟩ | ⟨h, _⟩
      · exact h
      · omega
      · omega
    · intro hall
      rcases hl with ⟨h, _⟩ | ⟨_, a, ha, e⟩ | ⟨_, ⟨a, ha, e⟩, _⟩
      · exact h
      · have := hall a ha; omega
      · exact absurd (hall a ha) e
  · constructor
    · intro e
      rcases hl with ⟨h, _⟩ | ⟨_, h⟩ | ⟨h, _⟩
      · omega
      · exact h
      · omega
    · rintro ⟨a, ha, e⟩
      rcases hl with ⟨_, h⟩ | ⟨h, _⟩ | ⟨_, _, h⟩
      · have := h a ha; omega
      · exact h
      · exact absurd e (h a ha)
end Go.Proofs.YtiljbfeipfdmdaaDoor
