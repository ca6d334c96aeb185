/- Sets as labellings, the order of labellings, the list of all labellings: plain words. No program in sight. -/
import Derived.Test.YtiljbfeipfdmdaaDoorPlain11
import Derived.Test.YtiljbfeipfdmdaaDoorRevA
namespace Go.Proofs.YtiljbfeipfdmdaaDoor
open Go.ChangeShapes Go.WideShapes Go.ChangeAt Go.RowKit

/-- what FromSet returns -/
def fromF (l : List (Int × Int)) (s : List Int) (i : Nat) : Int := if inB s i then 1 else if (attackersL l i).any (fun a => inB s a) then 2 else 3
def fromL (n : Nat) (l : List (Int × Int)) (s : List Int) : List Int := lst n (fromF l s)
theorem any_att {l : List (Int × Int)} {s : List Int} {i : Nat} : (attackersL l i).any (fun a => inB s a) = true ↔ ∃ a, (a, (i : Int)) ∈ l ∧ a ∈ s := by
  rw [List.any_eq_true]
  constructor
  · rintro ⟨a, ha, hs⟩; exact ⟨a, mem_attackersL.1 ha, (inB_iff _ _).1 hs⟩
  · rintro ⟨a, ha, hs⟩; exact ⟨a, mem_attackersL.2 ha, (inB_iff _ _).2 hs⟩
theorem fromF_rng (l : List (Int × Int)) (s : List Int) (i : Nat) : 1 ≤ fromF l s i ∧ fromF l s i ≤ 3 := by unfold fromF; split; omega; split <;> omega
theorem fromL_lab (n : Nat) (l : List (Int × Int)) (s : List Int) : labB n (fromL n l s) = true := by
  rw [labB_iff]
  refine ⟨lst_length _ _, fun v hv => ?_⟩
  unfold fromL lst at hv
  obtain ⟨i, _, rfl⟩ := List.mem_map.1 hv
  exact fromF_rng l s i
theorem fromL_at {n : Nat} {l : List (Int × Int)} {s : List Int} {i : Nat} (h : i < n) : (fromL n l s).getD i 0 = fromF l s i := lst_getD h
theorem mem_withL {x : List Int} {v : Int} {y : Int} : y ∈ withL x v ↔ ∃ i : Nat, i < x.length ∧ y = i ∧ x.getD i 0 = v := by
  unfold withL
  rw [mem_nodesB]
  constructor
  · rintro ⟨i, h1, h2, h3⟩; exact ⟨i, h1, h3, by simpa using h2⟩
  · rintro ⟨i, h1, h2, h3⟩; exact ⟨i, h1, by simpa using h3, h2⟩
theorem list_of_getD {n : Nat} {x : List Int} (h : x.length = n) : x = lst n fun i => x.getD i 0 := by
  apply List.ext_getElem
  · rw [lst_length]; exact h
  · intro i h1 h2
    rw [lst_get]; simp [List.getD, h1]
/-- a complete labelling comes back from its In nodes -/
theorem from_with {n : Nat} {l : List (Int × Int)} (hv : InR n l) {x : List Int} (h : comB n l x = true) : fromL n l (withL x 1) = x := by
  obtain ⟨hl, _⟩ := comB_iff.1 h
  have hlen := (labB_iff.1 hl).1
  refine Eq.trans ?_ (list_of_getD hlen).symm
  unfold fromL
  refine lst_congr fun i hi => ?_
  obtain ⟨w1, w2⟩ := com_words hv h hi
  have hin : ∀ j : Nat, j < n → (inB (withL x 1) j = true ↔ x.getD j 0 = 1) := fun j hj => by
    rw [inB_iff, mem_withL]
    constructor
    · rintro ⟨k, _, e, h⟩
      have : j = k := by omega
      subst this; exact h
    · intro h; exact ⟨j, by omega, rfl, h⟩
  unfold fromF
  by_cases h1 : x.getD i 0 = 1
  · rw [if_pos ((hin i hi).2 h1), h1]
  · rw [if_neg (fun e => h1 ((hin i hi).1 e))]
    by_cases h2 : x.getD i 0 = 2
    · rw [if_pos, h2]
      rw [any_att]
      obtain ⟨a, ha, e⟩ := w2.1 h2
      exact ⟨a, ha, (inB_iff _ _).1 ((hin a (att_lt hv ha).1).2 e)⟩
    · rw [if_neg]
      · have := labB_at hl hi; omega
      · rw [any_att]
        rintro ⟨a, ha, hs⟩
        have := hv.2.2 _ ha
        simp at this
        have e : a = ((a.toNat : Nat) : Int) := by omega
        rw [e] at ha hs
        exact h2 (w2.2 ⟨a.toNat, ha, (hin _ (by omega)).1 ((inB_iff _ _).2 hs)⟩)

/-- a is less committed than b -/
def lessB (a b : List Int) : Bool := decide (a.length = b.length) && (List.range a.length).all fun i => !(a.getD i 0 == 1 || a.getD i 0 == 2) || b.getD i 0 == a.getD i 0
theorem lessB_iff {a b : List Int} : lessB a b = true ↔ a.length = b.length ∧ ∀ i, i < a.length → (a.getD i 0 = 1 ∨ a.getD i 0 = 2) → b.getD i 0 = a.getD i 0 := by
  unfold lessB
  rw [Bool.and_eq_true, decide_eq_true_iff, List.all_eq_true]
  constructor
  · rintro ⟨h1, h2⟩
    refine ⟨h1, fun i hi hor => ?_⟩
    have := h2 i (List.mem_range.2 hi)
    simp only [Bool.or_eq_true, Bool.not_eq_true', Bool.or_eq_false_iff, beq_eq_false_iff_ne, beq_iff_eq] at this
    rcases this with ⟨h3, h4⟩ | h3
    · rcases hor with h | h
      · exact absurd h h3
      · exact absurd h h4
    · exact h3
  · rintro ⟨h1, h2⟩
    refine ⟨h1, fun i hi => ?_⟩
    simp only [Bool.or_eq_true, Bool.not_eq_true', Bool.or_eq_false_iff, beq_eq_false_iff_ne, beq_iff_eq]
    rcases Classical.em (a.getD i 0 = 1 ∨ a.getD i 0 = 2) with h | h
    · exact .inr (h2 i (List.mem_range.1 hi) h)
    · exact .inl ⟨fun e => h (.inl e), fun e => h (.inr e)⟩
/-- what two lists have in common -/
def meetF (a b : List Int) (i : Nat) : Int := if a.getD i 0 = b.getD i 0 then a.getD i 0 else 3
def meetL (a b : List Int) : List Int := lst (min a.length b.length) (meetF a b)
/-- the lexicographic order -/
def cmpLs : List Int → List Int → Int
  | [], [] => 0
  | [], _ :: _ => -1
  | _ :: _, [] => 1
  | x :: a, y :: b => if x < y then -1 else if y < x then 1 else cmpLs a b
theorem cmpLs_drop {a b : List Int} {k : Nat} (ha : k < a.length) (hb : k < b.length) : cmpLs (a.drop k) (b.drop k) = if a[k] < b[k] then -1 else if b[k] < a[k] then 1 else cmpLs (a.drop (k + 1)) (b.drop (k + 1)) := by
  rw [List.drop_eq_getElem_cons ha, List.drop_eq_getElem_cons hb, cmpLs]
theorem cmpLs_endA {a b : List Int} {k : Nat} (ha : ¬ k < a.length) (hb : k < b.length) : cmpLs (a.drop k) (b.drop k) = -1 := by
  rw [List.drop_of_length_le (by omega), List.drop_eq_getElem_cons hb, cmpLs]
theorem cmpLs_endB {a b : List Int} {k : Nat} (ha : k < a.length) (hb : ¬ k < b.length) : cmpLs (a.drop k) (b.drop k) = 1 := by
  rw [List.drop_eq_getElem_cons ha, List.drop_of_length_le (show b.length ≤ k by omega), cmpLs]
theorem cmpLs_end {a b : List Int} {k : Nat} (ha : ¬ k < a.length) (hb : ¬ k < b.length) : cmpLs (a.drop k) (b.drop k) = 0 := by
  rw [List.drop_of_length_le (by omega), List.drop_of_length_le (show b.length ≤ k by omega), cmpLs]
theorem cmpLs_neg : ∀ (a b : List Int), cmpLs b a = - cmpLs a b
  | [], [] => rfl
  | [], _ :: _ => rfl
  | _ :: _, [] => rfl
  | x :: a, y :: b => by
    rw [cmpLs, cmpLs]
    by_cases h1 : x < y
    · rw [if_neg (by omega), if_pos h1, if_pos h1]; rfl
    · by_cases h2 : y < x
      · rw [if_pos h2, if_neg h1, if_pos h2]
      · rw [if_neg h2, if_neg h1, if_neg h1, if_neg h2]; exact cmpLs_neg a b
theorem cmpLs_rng : ∀ (a b : List Int), -1 ≤ cmpLs a b ∧ cmpLs a b ≤ 1
  | [], [] => by decide
  | [], _ :: _ => by simp [cmpLs]
  | _ :: _, [] => by simp [cmpLs]
  | x :: a, y :: b => by
    rw [cmpLs]
    split
    · omega
    · split
      · omega
      · exact cmpLs_rng a b

/-- all labellings of n nodes -/
def labsL : Nat → List (List Int)
  | 0 => [[]]
  | n + 1 => (labsL n).flatMap fun x => [x ++ [1], x ++ [2], x ++ [3]]
theorem mem_labs : ∀ (n : Nat) (x : List Int), x ∈ labsL n ↔ labB n x = true
  | 0, x => by
    rw [labB_iff]
    constructor
    · intro h
      have : x = [] := by simpa [labsL] using h
      subst this; simp
    · rintro ⟨h, _⟩
      rw [List.eq_nil_of_length_eq_zero h]; simp [labsL]
  | n + 1, x => by
    rw [labsL, List.mem_flatMap]
    constructor
    · rintro ⟨y, hy, hx⟩
      obtain ⟨h1, h2⟩ := labB_iff.1 ((mem_labs n y).1 hy)
      rw [labB_iff]
      have : ∃ v : Int, 1 ≤ v ∧ v ≤ 3 ∧ x = y ++ [v] := by
        simp at hx
        rcases hx with rfl | rfl | rfl
        · exact ⟨1, by omega, by omega, rfl⟩
        · exact ⟨2, by omega, by omega, rfl⟩
        · exact ⟨3, by omega, by omega, rfl⟩
      obtain ⟨v, hv1, hv2, rfl⟩ := this
      refine ⟨by simp [h1], fun u hu => ?_⟩
      rcases List.mem_append.1 hu with hu | hu
      · exact h2 u hu
      · rw [List.mem_singleton] at hu; subst hu; exact ⟨hv1, hv2⟩
    · intro h
      obtain ⟨h1, h2⟩ := labB_iff.1 h
      have hne : x ≠ [] := fun e => by subst e; simp at h1
      refine ⟨x.dropLast, (mem_labs n _).2 (labB_iff.2 ⟨by simp [h1], fun v hv => h2 v (List.dropLast_subset _ hv)⟩), ?_⟩
      have e := List.dropLast_concat_getLast hne
      have hl := h2 _ (List.getLast_mem hne)
      generalize x.getLast hne = v at e hl
      have hv : v = 1 ∨ v = 2 ∨ v = 3 := by omega
      rw [← e]
      rcases hv with rfl | rfl | rfl <;> simp
theorem labsL_length (n : Nat) : (labsL n).length = 3 ^ n := by
  induction n with
  | zero => rfl
  | succ n ih =>
    have h3 : ∀ L : List (List Int), (L.map fun _ => 3).sum = 3 * L.length := fun L => by
      induction L with
      | nil => rfl
      | cons x L ih => rw [List.map_cons, List.sum_cons, ih, List.length_cons]; omega
    rw [labsL, List.length_flatMap]
    have e : (labsL n).map (fun x => [x ++ [(1 : Int)], x ++ [2], x ++ [3]].length) = (labsL n).map fun _ => 3 := rfl
    rw [e, h3, ih, Nat.pow_succ]; omega
end Go.Proofs.YtiljbfeipfdmdaaDoor
