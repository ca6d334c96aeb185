/- Sets as labellings: complete and stable sets are complete labellings. Plain words, no program in sight. -/
import Derived.Test.YtncimnfhfomddaaDoorPl11
import Derived.Test.YtncimnfhfomddaaDoorPlainC
namespace Go.Proofs.YtncimnfhfomddaaDoor
open Go.ChangeShapes Go.WideShapes Go.ChangeAt Go.RowKit

/-- a member attacks node i -/
def hitS (l : List (Int × Int)) (m i : Nat) : Prop := ∃ a, att l a i ∧ has m a
theorem any_hit {n : Nat} {l : List (Int × Int)} (hv : InR n l) {x : List Int} (h : setB n x = true) {i : Nat} : ((attackersL l i).any fun a => inB x a) = true ↔ hitS l (maskN x) i := by
  rw [any_att]
  constructor
  · rintro ⟨a, ha, hx⟩
    have := hv.2.2 _ ha
    simp at this
    have e : ((a.toNat : Nat) : Int) = a := by omega
    exact ⟨a.toNat, by unfold att; rw [e]; exact ha, (has_maskS h).2 (by rw [e]; exact hx)⟩
  · rintro ⟨a, ha, hx⟩
    exact ⟨a, ha, (has_maskS h).1 hx⟩
theorem from1 {n : Nat} {l : List (Int × Int)} {x : List Int} (h : setB n x = true) {i : Nat} : fromF l x i = 1 ↔ has (maskN x) i := by
  rw [has_maskS h, ← inB_iff]
  unfold fromF
  by_cases hb : inB x i = true
  · rw [if_pos hb]; simp [hb]
  · rw [if_neg hb]
    constructor
    · intro e; split at e <;> omega
    · intro e; exact absurd e hb
theorem from2 {n : Nat} {l : List (Int × Int)} (hv : InR n l) {x : List Int} (h : setB n x = true) {i : Nat} : fromF l x i = 2 ↔ ¬ has (maskN x) i ∧ hitS l (maskN x) i := by
  rw [has_maskS h, ← inB_iff, ← any_hit hv h]
  unfold fromF
  by_cases hb : inB x i = true
  · rw [if_pos hb]; simp [hb]
  · rw [if_neg hb]
    by_cases hq : ((attackersL l i).any fun a => inB x a) = true
    · rw [if_pos hq]; simp [hb, hq]
    · rw [if_neg hq]; simp [hq]
theorem from3 {n : Nat} {l : List (Int × Int)} (hv : InR n l) {x : List Int} (h : setB n x = true) {i : Nat} : fromF l x i = 3 ↔ ¬ has (maskN x) i ∧ ¬ hitS l (maskN x) i := by
  have h1 := from1 (l := l) h (i := i)
  have h2 := from2 hv h (i := i)
  have h3 := fromF_rng l x i
  constructor
  · intro e
    refine ⟨fun k => by have := h1.2 k; omega, fun k => ?_⟩
    rcases Classical.em (has (maskN x) i) with g | g
    · have := h1.2 g; omega
    · have := h2.2 ⟨g, k⟩; omega
  · rintro ⟨a, b⟩
    have n1 : fromF l x i ≠ 1 := fun e => a (h1.1 e)
    have n2 : fromF l x i ≠ 2 := fun e => b (h2.1 e).2
    omega
/-- when the labelling of a set is complete -/
theorem from_com {n : Nat} {l : List (Int × Int)} (hv : InR n l) {x : List Int} (h : setB n x = true) : comB n l (fromL n l x) = true ↔
    (∀ i, has (maskN x) i → ∀ a, att l a i → ¬ has (maskN x) a ∧ hitS l (maskN x) a) ∧ (∀ i, i < n → ¬ has (maskN x) i → ¬ hitS l (maskN x) i → ∃ a, att l a i ∧ ¬ hitS l (maskN x) a) := by
  have hm := setB_mask hv.1 h
  have hat : ∀ i, i < n → (fromL n l x).getD i 0 = fromF l x i := fun i hi => fromL_at hi
  rw [comB_iff]
  constructor
  · rintro ⟨h1, h2⟩
    refine ⟨fun i hi a ha => ?_, fun i hi hx hh => ?_⟩
    · have hin := has_lt hm.2 hi
      have hl := (legB_iff hv (labB_at h1 hin)).1 (h2 i hin)
      rw [hat i hin, (from1 h).2 hi] at hl
      rcases hl with ⟨_, hl⟩ | ⟨e, _⟩ | ⟨e, _⟩
      · have := hl a ha
        rw [hat a (att_lt hv ha).1] at this
        exact (from2 hv h).1 this
      · omega
      · omega
    · have hl := (legB_iff hv (labB_at h1 hi)).1 (h2 i hi)
      rw [hat i hi, (from3 hv h).2 ⟨hx, hh⟩] at hl
      rcases hl with ⟨e, _⟩ | ⟨e, _⟩ | ⟨_, ⟨a, ha, hl⟩, _⟩
      · omega
      · omega
      · rw [hat a (att_lt hv ha).1] at hl
        have hna : ¬ has (maskN x) a := fun k => hh ⟨a, ha, k⟩
        exact ⟨a, ha, fun k => hl ((from2 hv h).2 ⟨hna, k⟩)⟩
  · rintro ⟨h1, h2⟩
    refine ⟨fromL_lab n l x, fun i hi => (legB_iff hv (labB_at (fromL_lab n l x) hi)).2 ?_⟩
    rw [hat i hi]
    rcases Classical.em (has (maskN x) i) with g | g
    · exact .inl ⟨(from1 h).2 g, fun a ha => by rw [hat a (att_lt hv ha).1]; exact (from2 hv h).2 (h1 i g a ha)⟩
    · rcases Classical.em (hitS l (maskN x) i) with k | k
      · obtain ⟨a, ha, hxa⟩ := k
        exact .inr (.inl ⟨(from2 hv h).2 ⟨g, a, ha, hxa⟩, a, ha, by rw [hat a (att_lt hv ha).1]; exact (from1 h).2 hxa⟩)
      · obtain ⟨a, ha, hna⟩ := h2 i hi g k
        refine .inr (.inr ⟨(from3 hv h).2 ⟨g, k⟩, ⟨a, ha, ?_⟩, fun b hb e => ?_⟩)
        · rw [hat a (att_lt hv ha).1]
          intro e
          exact hna ((from2 hv h).1 e).2
        · rw [hat b (att_lt hv hb).1] at e
          exact k ⟨b, hb, (from1 h).1 e⟩
/-- complete sets -/
theorem compl_from {n : Nat} {l : List (Int × Int)} (hv : InR n l) {x : List Int} (h : setB n x = true) : complB n l (maskN x) = comB n l (fromL n l x) := by
  have hm := setB_mask hv.1 h
  apply Bool.eq_iff_iff.2
  rw [from_com hv h, complB_iff, soundB_iff hv hm.2, freeB_iff hv]
  constructor
  · rintro ⟨⟨hf, _⟩, hs⟩
    refine ⟨fun i hi a ha => ⟨fun k => hf a i k hi ha, ?_⟩, fun i hi hx hh => ?_⟩
    · have : has (stepN n l (maskN x)) i := by rw [hs]; exact hi
      obtain ⟨b, hb, hba⟩ := ((has_stepN hv _ _).1 this).2 a ha
      exact ⟨b, hba, hb⟩
    · rcases Classical.em (∃ a, att l a i ∧ ¬ hitS l (maskN x) a) with k | k
      · exact k
      · exfalso
        apply hx
        rw [← hs]
        refine (has_stepN hv _ _).2 ⟨hi, fun a ha => ?_⟩
        rcases Classical.em (hitS l (maskN x) a) with ⟨b, hb, hxb⟩ | g
        · exact ⟨b, hxb, hb⟩
        · exact absurd ⟨a, ha, g⟩ k
  · rintro ⟨h1, h2⟩
    have hf : ∀ a b, has (maskN x) a → has (maskN x) b → ¬ att l a b := fun a b ha hb hab => (h1 b hb a hab).1 ha
    have hs : stepN n l (maskN x) = maskN x := by
      apply has_ext
      intro j
      rw [has_stepN hv]
      constructor
      · rintro ⟨hj, hd⟩
        rcases Classical.em (has (maskN x) j) with g | g
        · exact g
        · exfalso
          rcases Classical.em (hitS l (maskN x) j) with ⟨a, ha, hxa⟩ | k
          · obtain ⟨b, hb, hba⟩ := hd a ha
            exact hf b a hb hxa hba
          · obtain ⟨a, ha, hna⟩ := h2 j hj g k
            obtain ⟨b, hb, hba⟩ := hd a ha
            exact hna ⟨b, hba, hb⟩
      · intro hj
        refine ⟨has_lt hm.2 hj, fun a ha => ?_⟩
        obtain ⟨b, hb, hxb⟩ := (h1 j hj a ha).2
        exact ⟨b, hxb, hb⟩
    exact ⟨⟨hf, by rw [hs]; exact fun j hj => hj⟩, hs⟩
theorem with_from {n : Nat} {l : List (Int × Int)} {x : List Int} (h : setB n x = true) : withL (fromL n l x) 1 = x := by
  have hl : (fromL n l x).length = n := lst_length _ _
  unfold withL
  rw [hl]
  refine Eq.trans (nodesB_congr fun i hi => ?_) (set_nodes h)
  rw [fromL_at hi]
  apply Bool.eq_iff_iff.2
  rw [beq_iff_eq]
  exact from1 h
/-- stable sets -/
theorem stab_from {n : Nat} {l : List (Int × Int)} (hv : InR n l) {x : List Int} (h : setB n x = true) : stabB n l (maskN x) = (comB n l (fromL n l x) && !inB (fromL n l x) 3) := by
  have hm := setB_mask hv.1 h
  have h3 : (!inB (fromL n l x) 3) = true ↔ ∀ i, i < n → has (maskN x) i ∨ hitS l (maskN x) i := by
    rw [Bool.not_eq_true', ← Bool.not_eq_true, inB_iff]
    constructor
    · intro k i hi
      rcases Classical.em (has (maskN x) i) with g | g
      · exact .inl g
      · rcases Classical.em (hitS l (maskN x) i) with g2 | g2
        · exact .inr g2
        · refine absurd ?_ k
          unfold fromL lst
          exact List.mem_map.2 ⟨i, List.mem_range.2 hi, (from3 hv h).2 ⟨g, g2⟩⟩
    · intro k hk
      unfold fromL lst at hk
      obtain ⟨i, hi, e⟩ := List.mem_map.1 hk
      obtain ⟨g, g2⟩ := (from3 hv h).1 e
      rcases k i (List.mem_range.1 hi) with q | q
      · exact g q
      · exact g2 q
  have hs : stabB n l (maskN x) = true ↔ freeB l (maskN x) = true ∧ ∀ i, i < n → has (maskN x) i ∨ hitS l (maskN x) i := by
    unfold stabB
    rw [Bool.and_eq_true, beq_iff_eq]
    constructor
    · rintro ⟨k1, k2⟩
      refine ⟨k1, fun i hi => ?_⟩
      have : has (maskN x ||| attN l (maskN x)) i := by rw [k2]; exact has_allN.2 hi
      rcases has_or.1 this with q | q
      · exact .inl q
      · obtain ⟨a, ha, hai⟩ := (has_attN hv _ _).1 q
        exact .inr ⟨a, hai, ha⟩
    · rintro ⟨k1, k2⟩
      refine ⟨k1, has_ext fun j => ?_⟩
      rw [has_or, has_allN, has_attN hv]
      constructor
      · rintro (q | ⟨a, _, q⟩)
        · exact has_lt hm.2 q
        · exact (att_lt hv q).2
      · intro hj
        rcases k2 j hj with q | ⟨a, ha, hxa⟩
        · exact .inl q
        · exact .inr ⟨a, hxa, ha⟩
  apply Bool.eq_iff_iff.2
  rw [hs, Bool.and_eq_true, h3, from_com hv h, freeB_iff hv]
  constructor
  · rintro ⟨k1, k2⟩
    refine ⟨⟨fun i hi a ha => ?_, fun i hi hx hh => ?_⟩, k2⟩
    · have hna : ¬ has (maskN x) a := fun k => k1 a i k hi ha
      rcases k2 a (att_lt hv ha).1 with q | q
      · exact absurd q hna
      · exact ⟨hna, q⟩
    · rcases k2 i hi with q | q
      · exact absurd q hx
      · exact absurd q hh
  · rintro ⟨⟨k1, _⟩, k3⟩
    exact ⟨fun a b ha hb hab => (k1 b hb a hab).1 ha, k3⟩
end Go.Proofs.YtncimnfhfomddaaDoor
