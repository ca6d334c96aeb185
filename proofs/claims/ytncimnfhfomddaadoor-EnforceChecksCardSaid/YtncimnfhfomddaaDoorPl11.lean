import Derived.Test.YtncimnfhfomddaaDoorP12
import Derived.Test.YtncimnfhfomddaaDoorGenM
import Derived.Test.YtncimnfhfomddaaDoorGr
/- labelling.With; the grounded set in plain words. -/
namespace Go.Proofs.YtncimnfhfomddaaDoor
open Go.ChangeShapes Go.WideShapes Go.ChangeAt Go.RowKit

/-- the places of a label -/
def withL (l : List Int) (x : Int) : List Int := nodesB l.length fun i => l.getD i 0 == x
theorem withB_congr {l : List Int} {x : Int} {k : Nat} : nodesB (k + 1) (fun i => l.getD i 0 == x) = nodesB k (fun i => l.getD i 0 == x) ++ (if l.getD k 0 == x then [(k : Int)] else []) := nodesB_succ _ _

/-- the nodes that are In -/
def grS (n : Nat) (l : List (Int × Int)) : List Int := nodesB n fun i => grL n l i == 1
theorem with_gr (n : Nat) (l : List (Int × Int)) : withL (lst n (grL n l)) 1 = grS n l := by
  unfold withL grS
  rw [lst_length]
  exact nodesB_congr fun i hi => by rw [lst_getD hi]
theorem has_grS {n : Nat} {l : List (Int × Int)} {j : Nat} : has (maskN (grS n l)) j ↔ j < n ∧ grL n l j = 1 := by
  unfold grS; rw [mask_nodesB]; simp
/-- it is a fixed point -/
theorem gr_fix {n : Nat} {l : List (Int × Int)} (hv : InR n l) : stepN n l (maskN (grS n l)) = maskN (grS n l) := by
  have inv := gr_inv hv
  apply has_ext
  intro j
  rw [has_stepN hv, has_grS]
  constructor
  · rintro ⟨hj, hd⟩
    refine ⟨hj, ?_⟩
    have hout : ∀ a, att l a j → grL n l a = 2 := fun a ha => by
      obtain ⟨b, hb, hba⟩ := hd a ha
      exact inv.outs b a (has_grS.1 hb).2 hba
    rcases inv.rng j with h | h | h
    · exact h
    · obtain ⟨a, ha, h1⟩ := inv.isOut j h
      have := hout a ha
      omega
    · have := gr_rest hv j hj
      rw [(frB_iff hv).2 ⟨hj, h, hout⟩] at this; cases this
  · rintro ⟨hj, h1⟩
    refine ⟨hj, fun a ha => ?_⟩
    obtain ⟨b, hb, hb1⟩ := inv.isOut a ((inv.isIn j h1).2 a ha)
    exact ⟨b, has_grS.2 ⟨(att_lt hv hb).1, hb1⟩, hb⟩
/-- it is the least one -/
theorem gr_least {n : Nat} {l : List (Int × Int)} (hv : InR n l) {x : Nat} (h : stepN n l x = x) : sub (maskN (grS n l)) x := by
  have key : ∀ r j, stL n l r j = 1 → has x j := by
    intro r
    induction r with
    | zero => intro j hj; simp [stL] at hj
    | succ r ih =>
      intro j hj
      simp only [stL, nxL] at hj
      split at hj
      · rename_i hf
        obtain ⟨hjn, _, ho⟩ := (frB_iff hv).1 hf
        rw [← h, has_stepN hv]
        refine ⟨hjn, fun a ha => ?_⟩
        obtain ⟨b, hb, h1⟩ := (stL_inv hv r).isOut a (ho a ha)
        exact ⟨b, ih b h1, hb⟩
      · split at hj
        · omega
        · exact ih j hj
  exact fun j hj => key n j (has_grS.1 hj).2
theorem setB_grS (n : Nat) (l : List (Int × Int)) : setB n (grS n l) = true := setB_nodes n _
theorem step_grS {n : Nat} {l : List (Int × Int)} (hv : InR n l) : stepL n l (grS n l) = grS n l := by
  unfold stepL
  rw [if_pos (setB_grS n l), gr_fix hv]
  exact set_nodes (setB_grS n l)
theorem least_grS {n : Nat} {l : List (Int × Int)} (hv : InR n l) {x : List Int} (hx : setB n x = true) (h : stepL n l x = x) : insideB (grS n l) x = true := by
  unfold stepL at h
  rw [if_pos hx] at h
  have hm := setB_mask hv.1 hx
  have h1 : stepN n l (maskN x) = maskN x := by
    have h2 : nodesB n (stepN n l (maskN x)).testBit = nodesB n (maskN x).testBit := by rw [h, set_nodes hx]
    exact nodes_inj (stepN_lt n l _) hm.2 h2
  have h3 := gr_least hv h1
  have h4 : insideB (nodesB n (maskN (grS n l)).testBit) (nodesB n (maskN x).testBit) = true := (insideB_nodes (setB_mask hv.1 (setB_grS n l)).2).2 h3
  rwa [set_nodes (setB_grS n l), set_nodes hx] at h4
/-- the characteristic function is monotone -/
theorem step_mono {n : Nat} {l : List (Int × Int)} (hv : InR n l) {f h : Nat → Bool} (hfh : ∀ i, i < n → f i = true → h i = true) : insideB (stepL n l (nodesB n f)) (stepL n l (nodesB n h)) = true := by
  unfold stepL
  rw [if_pos (setB_nodes n f), if_pos (setB_nodes n h)]
  refine (insideB_nodes (stepN_lt n l _)).2 (stepN_mono hv fun j hj => ?_)
  rw [mask_nodesB] at hj ⊢
  exact ⟨hj.1, hfh j hj.1 hj.2⟩
end Go.Proofs.YtncimnfhfomddaaDoor

/- Labellings in plain words: valid, legal, complete. No program in sight. -/
namespace Go.Proofs.YtncimnfhfomddaaDoor
open Go.ChangeShapes Go.WideShapes Go.ChangeAt Go.RowKit

/-- a number is a label -/
def okL (v : Int) : Bool := decide (1 ≤ v) && decide (v ≤ 3)
theorem okL_iff {v : Int} : okL v = true ↔ 1 ≤ v ∧ v ≤ 3 := by unfold okL; simp
/-- a list is a labelling of n nodes -/
def labB (n : Int) (x : List Int) : Bool := x.all okL && decide ((x.length : Int) = n)
theorem labB_iff {n : Nat} {x : List Int} : labB n x = true ↔ x.length = n ∧ ∀ v ∈ x, 1 ≤ v ∧ v ≤ 3 := by
  unfold labB
  rw [Bool.and_eq_true, List.all_eq_true, decide_eq_true_iff]
  constructor
  · rintro ⟨h1, h2⟩; exact ⟨by omega, fun v hv => okL_iff.1 (h1 v hv)⟩
  · rintro ⟨h1, h2⟩; exact ⟨fun v hv => okL_iff.2 (h2 v hv), by omega⟩
theorem labB_at {n : Nat} {x : List Int} (h : labB n x = true) {i : Nat} (hi : i < n) : 1 ≤ x.getD i 0 ∧ x.getD i 0 ≤ 3 := by
  obtain ⟨h1, h2⟩ := labB_iff.1 h
  have hi' : i < x.length := by omega
  have e : x.getD i 0 = x[i] := by simp [List.getD, hi']
  rw [e]; exact h2 _ (List.getElem_mem hi')
/-- how many attackers have a label -/
def cntL (l : List (Int × Int)) (x : List Int) (i : Nat) (v : Int) : Nat := ((attackersL l i).filter fun a => x.getD a.toNat 0 == v).length
/-- a node is legal -/
def legB (l : List (Int × Int)) (x : List Int) (i : Nat) : Bool :=
  if x.getD i 0 = 1 then decide (cntL l x i 2 = (attackersL l i).length) else if x.getD i 0 = 2 then decide (0 < cntL l x i 1) else decide (cntL l x i 2 < (attackersL l i).length) && decide (cntL l x i 1 = 0)
/-- the nodes that are not legal -/
def illL (n : Nat) (l : List (Int × Int)) (x : List Int) : List Int := if labB n x then nodesB n fun i => !legB l x i else []
/-- a complete labelling -/
def comB (n : Nat) (l : List (Int × Int)) (x : List Int) : Bool := labB n x && decide ((illL n l x).length = 0)
theorem filter_len_all {p : Int → Bool} : ∀ {l : List Int}, (l.filter p).length = l.length ↔ ∀ a ∈ l, p a = true
  | [] => by simp
  | y :: l => by
    have hle := List.length_filter_le p l
    rw [List.filter_cons]
    by_cases h : p y = true
    · rw [if_pos h]; simp [filter_len_all (l := l), h]
    · rw [if_neg h]
      constructor
      · intro e; simp at e; omega
      · intro e; exact absurd (e y (List.mem_cons_self ..)) h
theorem cnt_all {l : List (Int × Int)} {x : List Int} {i : Nat} {v : Int} {n : Nat} (hv : InR n l) : cntL l x i v = (attackersL l i).length ↔ ∀ a, att l a i → x.getD a 0 = v := by
  unfold cntL
  rw [filter_len_all]
  constructor
  · intro h a ha
    have := h a (mem_attackersL.2 ha)
    simpa using this
  · intro h a ha
    obtain ⟨b, rfl, _, hb⟩ := attacker_nat hv ha
    simpa using h b hb
theorem cnt_none {l : List (Int × Int)} {x : List Int} {i : Nat} {v : Int} {n : Nat} (hv : InR n l) : cntL l x i v = 0 ↔ ∀ a, att l a i → x.getD a 0 ≠ v := by
  unfold cntL
  rw [List.length_eq_zero_iff, List.filter_eq_nil_iff]
  constructor
  · intro h a ha
    have := h a (mem_attackersL.2 ha)
    simpa using this
  · intro h a ha
    obtain ⟨b, rfl, _, hb⟩ := attacker_nat hv ha
    simpa using h b hb
theorem cnt_le (l : List (Int × Int)) (x : List Int) (i : Nat) (v : Int) : cntL l x i v ≤ (attackersL l i).length := List.length_filter_le _ _
/-- what legal means -/
theorem legB_iff {n : Nat} {l : List (Int × Int)} (hv : InR n l) {x : List Int} {i : Nat} (hx : 1 ≤ x.getD i 0 ∧ x.getD i 0 ≤ 3) : legB l x i = true ↔
    (x.getD i 0 = 1 ∧ ∀ a, att l a i → x.getD a 0 = 2) ∨ (x.getD i 0 = 2 ∧ ∃ a, att l a i ∧ x.getD a 0 = 1) ∨ (x.getD i 0 = 3 ∧ (∃ a, att l a i ∧ x.getD a 0 ≠ 2) ∧ ∀ a, att l a i → x.getD a 0 ≠ 1) := by
  have h2 : 0 < cntL l x i 1 ↔ ∃ a, att l a i ∧ x.getD a 0 = 1 := by
    rw [Nat.pos_iff_ne_zero, Ne, cnt_none hv]
    constructor
    · intro h
      rcases Classical.em (∃ a, att l a i ∧ x.getD a 0 = 1) with h1 | h1
      · exact h1
      · exact absurd (fun a ha e => h1 ⟨a, ha, e⟩) h
    · rintro ⟨a, ha, e⟩ h; exact h a ha e
  have h3 : cntL l x i 2 < (attackersL l i).length ↔ ∃ a, att l a i ∧ x.getD a 0 ≠ 2 := by
    have hle := cnt_le l x i 2
    have : cntL l x i 2 < (attackersL l i).length ↔ ¬ cntL l x i 2 = (attackersL l i).length := by omega
    rw [this, cnt_all hv]
    constructor
    · intro h
      rcases Classical.em (∃ a, att l a i ∧ x.getD a 0 ≠ 2) with h1 | h1
      · exact h1
      · exact absurd (fun a ha => Classical.byContradiction fun e => h1 ⟨a, ha, e⟩) h
    · rintro ⟨a, ha, e⟩ h; exact e (h a ha)
  unfold legB
  by_cases e1 : x.getD i 0 = 1
  · rw [if_pos e1, decide_eq_true_iff, cnt_all hv]
    constructor
    · intro h; exact .inl ⟨e1, h⟩
    · rintro (⟨_, h⟩ | ⟨h, _⟩ | ⟨h, _⟩)
      · exact h
      · omega
      · omega
  · rw [if_neg e1]
    by_cases e2 : x.getD i 0 = 2
    · rw [if_pos e2, decide_eq_true_iff, h2]
      constructor
      · intro h; exact .inr (.inl ⟨e2, h⟩)
      · rintro (⟨h, _⟩ | ⟨_, h⟩ | ⟨h, _⟩)
        · omega
        · exact h
        · omega
    · rw [if_neg e2, Bool.and_eq_true, decide_eq_true_iff, decide_eq_true_iff, h3, cnt_none hv]
      constructor
      · rintro ⟨ha, hb⟩; exact .inr (.inr ⟨by omega, ha, hb⟩)
      · rintro (⟨h, _⟩ | ⟨h, _⟩ | ⟨_, ha, hb⟩)
        · omega
        · omega
        · exact ⟨ha, hb⟩
theorem comB_iff {n : Nat} {l : List (Int × Int)} {x : List Int} : comB n l x = true ↔ labB n x = true ∧ ∀ i, i < n → legB l x i = true := by
  unfold comB illL
  rw [Bool.and_eq_true, decide_eq_true_iff]
  constructor
  · rintro ⟨h1, h2⟩
    rw [if_pos h1] at h2
    refine ⟨h1, fun i hi => ?_⟩
    cases hb : legB l x i
    · have : (i : Int) ∈ nodesB n fun i => !legB l x i := mem_nodesB.2 ⟨i, hi, by simp [hb], rfl⟩
      rw [List.eq_nil_of_length_eq_zero h2] at this; cases this
    · rfl
  · rintro ⟨h1, h2⟩
    refine ⟨h1, ?_⟩
    rw [if_pos h1]
    rw [List.length_eq_zero_iff, List.eq_nil_iff_forall_not_mem]
    intro y hy
    obtain ⟨i, hi, hb, _⟩ := mem_nodesB.1 hy
    rw [h2 i hi] at hb; cases hb
/-- in words: a labelling is complete exactly if ... -/
theorem com_words {n : Nat} {l : List (Int × Int)} (hv : InR n l) {x : List Int} (h : comB n l x = true) {i : Nat} (hi : i < n) :
    (x.getD i 0 = 1 ↔ ∀ a, att l a i → x.getD a 0 = 2) ∧ (x.getD i 0 = 2 ↔ ∃ a, att l a i ∧ x.getD a 0 = 1) := by
  obtain ⟨h1, h2⟩ := comB_iff.1 h
  have hx := labB_at h1 hi
  have hl := (legB_iff hv hx).1 (h2 i hi)
  constructor
  · constructor
    · intro e
      rcases hl with ⟨_, h⟩ | ⟨h, _⟩ | ⟨h, _⟩
      · exact h
      · omega
      · omega
    · intro hall
      rcases hl with ⟨h, _⟩ | ⟨_, a, ha, e⟩ | ⟨_, ⟨a, ha, e⟩, _⟩
      · exact h
      · have := hall a ha; omega
      · exact absurd (hall a ha) e
  · constructor
    · intro e
      rcases hl with ⟨h, _⟩ | ⟨_, h⟩ | ⟨h, _⟩
      · omega
      · exact h
      · omega
    · rintro ⟨a, ha, e⟩
      rcases hl with ⟨_, h⟩ | ⟨h, _⟩ | ⟨_, _, h⟩
      · have := h a ha; omega
      · exact h
      · exact absurd e (h a ha)
end Go.Proofs.YtncimnfhfomddaaDoor

/- Sets as labellings, the order of labellings, the list of all labellings: plain words. No program in sight. -/
namespace Go.Proofs.YtncimnfhfomddaaDoor
open Go.ChangeShapes Go.WideShapes Go.ChangeAt Go.RowKit

/-- what FromSet returns -/
def fromF (l : List (Int × Int)) (s : List Int) (i : Nat) : Int := if inB s i then 1 else if (attackersL l i).any (fun a => inB s a) then 2 else 3
def fromL (n : Nat) (l : List (Int × Int)) (s : List Int) : List Int := lst n (fromF l s)
theorem any_att {l : List (Int × Int)} {s : List Int} {i : Nat} : (attackersL l i).any (fun a => inB s a) = true ↔ ∃ a, (a, (i : Int)) ∈ l ∧ a ∈ s := by
  rw [List.any_eq_true]
  constructor
  · rintro ⟨a, ha, hs⟩; exact ⟨a, mem_attackersL.1 ha, (inB_iff _ _).1 hs⟩
  · rintro ⟨a, ha, hs⟩; exact ⟨a, mem_attackersL.2 ha, (inB_iff _ _).2 hs⟩
theorem fromF_rng (l : List (Int × Int)) (s : List Int) (i : Nat) : 1 ≤ fromF l s i ∧ fromF l s i ≤ 3 := by unfold fromF; split; omega; split <;> omega
theorem fromL_lab (n : Nat) (l : List (Int × Int)) (s : List Int) : labB n (fromL n l s) = true := by
  rw [labB_iff]
  refine ⟨lst_length _ _, fun v hv => ?_⟩
  unfold fromL lst at hv
  obtain ⟨i, _, rfl⟩ := List.mem_map.1 hv
  exact fromF_rng l s i
theorem fromL_at {n : Nat} {l : List (Int × Int)} {s : List Int} {i : Nat} (h : i < n) : (fromL n l s).getD i 0 = fromF l s i := lst_getD h
theorem mem_withL {x : List Int} {v : Int} {y : Int} : y ∈ withL x v ↔ ∃ i : Nat, i < x.length ∧ y = i ∧ x.getD i 0 = v := by
  unfold withL
  rw [mem_nodesB]
  constructor
  · rintro ⟨i, h1, h2, h3⟩; exact ⟨i, h1, h3, by simpa using h2⟩
  · rintro ⟨i, h1, h2, h3⟩; exact ⟨i, h1, by simpa using h3, h2⟩
theorem list_of_getD {n : Nat} {x : List Int} (h : x.length = n) : x = lst n fun i => x.getD i 0 := by
  apply List.ext_getElem
  · rw [lst_length]; exact h
  · intro i h1 h2
    rw [lst_get]; simp [List.getD, h1]
/-- a complete labelling comes back from its In nodes -/
theorem from_with {n : Nat} {l : List (Int × Int)} (hv : InR n l) {x : List Int} (h : comB n l x = true) : fromL n l (withL x 1) = x := by
  obtain ⟨hl, _⟩ := comB_iff.1 h
  have hlen := (labB_iff.1 hl).1
  refine Eq.trans ?_ (list_of_getD hlen).symm
  unfold fromL
  refine lst_congr fun i hi => ?_
  obtain ⟨w1, w2⟩ := com_words hv h hi
  have hin : ∀ j : Nat, j < n → (inB (withL x 1) j = true ↔ x.getD j 0 = 1) := fun j hj => by
    rw [inB_iff, mem_withL]
    constructor
    · rintro ⟨k, _, e, h⟩
      have : j = k := by omega
      subst this; exact h
    · intro h; exact ⟨j, by omega, rfl, h⟩
  unfold fromF
  by_cases h1 : x.getD i 0 = 1
  · rw [if_pos ((hin i hi).2 h1), h1]
  · rw [if_neg (fun e => h1 ((hin i hi).1 e))]
    by_cases h2 : x.getD i 0 = 2
    · rw [if_pos, h2]
      rw [any_att]
      obtain ⟨a, ha, e⟩ := w2.1 h2
      exact ⟨a, ha, (inB_iff _ _).1 ((hin a (att_lt hv ha).1).2 e)⟩
    · rw [if_neg]
      · have := labB_at hl hi; omega
      · rw [any_att]
        rintro ⟨a, ha, hs⟩
        have := hv.2.2 _ ha
        simp at this
        have e : a = ((a.toNat : Nat) : Int) := by omega
        rw [e] at ha hs
        exact h2 (w2.2 ⟨a.toNat, ha, (hin _ (by omega)).1 ((inB_iff _ _).2 hs)⟩)

/-- a is less committed than b -/
def lessB (a b : List Int) : Bool := decide (a.length = b.length) && (List.range a.length).all fun i => !(a.getD i 0 == 1 || a.getD i 0 == 2) || b.getD i 0 == a.getD i 0
theorem lessB_iff {a b : List Int} : lessB a b = true ↔ a.length = b.length ∧ ∀ i, i < a.length → (a.getD i 0 = 1 ∨ a.getD i 0 = 2) → b.getD i 0 = a.getD i 0 := by
  unfold lessB
  rw [Bool.and_eq_true, decide_eq_true_iff, List.all_eq_true]
  constructor
  · rintro ⟨h1, h2⟩
    refine ⟨h1, fun i hi hor => ?_⟩
    have := h2 i (List.mem_range.2 hi)
    simp only [Bool.or_eq_true, Bool.not_eq_true', Bool.or_eq_false_iff, beq_eq_false_iff_ne, beq_iff_eq] at this
    rcases this with ⟨h3, h4⟩ | h3
    · rcases hor with h | h
      · exact absurd h h3
      · exact absurd h h4
    · exact h3
  · rintro ⟨h1, h2⟩
    refine ⟨h1, fun i hi => ?_⟩
    simp only [Bool.or_eq_true, Bool.not_eq_true', Bool.or_eq_false_iff, beq_eq_false_iff_ne, beq_iff_eq]
    rcases Classical.em (a.getD i 0 = 1 ∨ a.getD i 0 = 2) with h | h
    · exact .inr (h2 i (List.mem_range.1 hi) h)
    · exact .inl ⟨fun e => h (.inl e), fun e => h (.inr e)⟩
/-- what two lists have in common -/
def meetF (a b : List Int) (i : Nat) : Int := if a.getD i 0 = b.getD i 0 then a.getD i 0 else 3
def meetL (a b : List Int) : List Int := lst (min a.length b.length) (meetF a b)
/-- the lexicographic order -/
def cmpLs : List Int → List Int → Int
  | [], [] => 0
  | [], _ :: _ => -1
  | _ :: _, [] => 1
  | x :: a, y :: b => if x < y then -1 else if y < x then 1 else cmpLs a b
theorem cmpLs_drop {a b : List Int} {k : Nat} (ha : k < a.length) (hb : k < b.length) : cmpLs (a.drop k) (b.drop k) = if a[k] < b[k] then -1 else if b[k] < a[k] then 1 else cmpLs (a.drop (k + 1)) (b.drop (k + 1)) := by
  rw [List.drop_eq_getElem_cons ha, List.drop_eq_getElem_cons hb, cmpLs]
theorem cmpLs_endA {a b : List Int} {k : Nat} (ha : ¬ k < a.length) (hb : k < b.length) : cmpLs (a.drop k) (b.drop k) = -1 := by
  rw [List.drop_of_length_le (by omega), List.drop_eq_getElem_cons hb, cmpLs]
theorem cmpLs_endB {a b : List Int} {k : Nat} (ha : k < a.length) (hb : ¬ k < b.length) : cmpLs (a.drop k) (b.drop k) = 1 := by
  rw [List.drop_eq_getElem_cons ha, List.drop_of_length_le (show b.length ≤ k by omega), cmpLs]
theorem cmpLs_end {a b : List Int} {k : Nat} (ha : ¬ k < a.length) (hb : ¬ k < b.length) : cmpLs (a.drop k) (b.drop k) = 0 := by
  rw [List.drop_of_length_le (by omega), List.drop_of_length_le (show b.length ≤ k by omega), cmpLs]
theorem cmpLs_neg : ∀ (a b : List Int), cmpLs b a = - cmpLs a b
  | [], [] => rfl
  | [], _ :: _ => rfl
  | _ :: _, [] => rfl
  | x :: a, y :: b => by
    rw [cmpLs, cmpLs]
    by_cases h1 : x < y
    · rw [if_neg (by omega), if_pos h1, if_pos h1]; rfl
    · by_cases h2 : y < x
      · rw [if_pos h2, if_neg h1, if_pos h2]
      · rw [if_neg h2, if_neg h1, if_neg h1, if_neg h2]; exact cmpLs_neg a b
theorem cmpLs_rng : ∀ (a b : List Int), -1 ≤ cmpLs a b ∧ cmpLs a b ≤ 1
  | [], [] => by decide
  | [], _ :: _ => by simp [cmpLs]
  | _ :: _, [] => by simp [cmpLs]
  | x :: a, y :: b => by
    rw [cmpLs]
    split
    · omega
    · split
      · omega
      · exact cmpLs_rng a b

/-- all labellings of n nodes -/
def labsL : Nat → List (List Int)
  | 0 => [[]]
  | n + 1 => (labsL n).flatMap fun x => [x ++ [1], x ++ [2], x ++ [3]]
theorem mem_labs : ∀ (n : Nat) (x : List Int), x ∈ labsL n ↔ labB n x = true
  | 0, x => by
    rw [labB_iff]
    constructor
    · intro h
      have : x = [] := by simpa [labsL] using h
      subst this; simp
    · rintro ⟨h, _⟩
      rw [List.eq_nil_of_length_eq_zero h]; simp [labsL]
  | n + 1, x => by
    rw [labsL, List.mem_flatMap]
    constructor
    · rintro ⟨y, hy, hx⟩
      obtain ⟨h1, h2⟩ := labB_iff.1 ((mem_labs n y).1 hy)
      rw [labB_iff]
      have : ∃ v : Int, 1 ≤ v ∧ v ≤ 3 ∧ x = y ++ [v] := by
        simp at hx
        rcases hx with rfl | rfl | rfl
        · exact ⟨1, by omega, by omega, rfl⟩
        · exact ⟨2, by omega, by omega, rfl⟩
        · exact ⟨3, by omega, by omega, rfl⟩
      obtain ⟨v, hv1, hv2, rfl⟩ := this
      refine ⟨by simp [h1], fun u hu => ?_⟩
      rcases List.mem_append.1 hu with hu | hu
      · exact h2 u hu
      · rw [List.mem_singleton] at hu; subst hu; exact ⟨hv1, hv2⟩
    · intro h
      obtain ⟨h1, h2⟩ := labB_iff.1 h
      have hne : x ≠ [] := fun e => by subst e; simp at h1
      refine ⟨x.dropLast, (mem_labs n _).2 (labB_iff.2 ⟨by simp [h1], fun v hv => h2 v (List.dropLast_subset _ hv)⟩), ?_⟩
      have e := List.dropLast_concat_getLast hne
      have hl := h2 _ (List.getLast_mem hne)
      generalize x.getLast hne = v at e hl
      have hv : v = 1 ∨ v = 2 ∨ v = 3 := by omega
      rw [← e]
      rcases hv with rfl | rfl | rfl <;> simp
theorem labsL_length (n : Nat) : (labsL n).length = 3 ^ n := by
  induction n with
  | zero => rfl
  | succ n ih =>
    have h3 : ∀ L : List (List Int), (L.map fun _ => 3).sum = 3 * L.length := fun L => by
      induction L with
      | nil => rfl
      | cons x L ih => rw [List.map_cons, List.sum_cons, ih, List.length_cons]; omega
    rw [labsL, List.length_flatMap]
    have e : (labsL n).map (fun x => [x ++ [(1 : Int)], x ++ [2], x ++ [3]].length) = (labsL n).map fun _ => 3 := rfl
    rw [e, h3, ih, Nat.pow_succ]; omega
end Go.Proofs.YtncimnfhfomddaaDoor

/- The order of labellings, what complete labellings say, what a node's legality hangs on: plain words. No program in sight. -/
namespace Go.Proofs.YtncimnfhfomddaaDoor
open Go.ChangeShapes Go.WideShapes Go.ChangeAt Go.RowKit

theorem lessB_refl (a : List Int) : lessB a a = true := lessB_iff.2 ⟨rfl, fun _ _ _ => rfl⟩
theorem lessB_trans {a b c : List Int} (h1 : lessB a b = true) (h2 : lessB b c = true) : lessB a c = true := by
  obtain ⟨e1, k1⟩ := lessB_iff.1 h1
  obtain ⟨e2, k2⟩ := lessB_iff.1 h2
  refine lessB_iff.2 ⟨e1.trans e2, fun i hi h => ?_⟩
  have := k1 i hi h
  rw [← this] at h
  rw [k2 i (by omega) h, this]
theorem meetL_len {a b : List Int} {n : Nat} (ha : a.length = n) (hb : b.length = n) : (meetL a b).length = n := by unfold meetL; rw [lst_length]; omega
theorem meetL_at {a b : List Int} {i : Nat} (ha : i < a.length) (hb : i < b.length) : (meetL a b).getD i 0 = meetF a b i := lst_getD (by omega)
theorem meet_left {a b : List Int} {n : Nat} (ha : a.length = n) (hb : b.length = n) : lessB (meetL a b) a = true := by
  have hl := meetL_len ha hb
  refine lessB_iff.2 ⟨by omega, fun i hi h => ?_⟩
  rw [meetL_at (by omega) (by omega)] at h ⊢
  unfold meetF at h ⊢
  by_cases e : a.getD i 0 = b.getD i 0
  · rw [if_pos e]
  · rw [if_neg e] at h; omega
theorem meet_right {a b : List Int} {n : Nat} (ha : a.length = n) (hb : b.length = n) : lessB (meetL a b) b = true := by
  have hl := meetL_len ha hb
  refine lessB_iff.2 ⟨by omega, fun i hi h => ?_⟩
  rw [meetL_at (by omega) (by omega)] at h ⊢
  unfold meetF at h ⊢
  by_cases e : a.getD i 0 = b.getD i 0
  · rw [if_pos e, e]
  · rw [if_neg e] at h; omega
theorem meet_great {a b c : List Int} (h1 : lessB c a = true) (h2 : lessB c b = true) : lessB c (meetL a b) = true := by
  obtain ⟨e1, k1⟩ := lessB_iff.1 h1
  obtain ⟨e2, k2⟩ := lessB_iff.1 h2
  refine lessB_iff.2 ⟨(meetL_len e1.symm e2.symm).symm, fun i hi h => ?_⟩
  rw [meetL_at (by omega) (by omega)]
  unfold meetF
  have p1 := k1 i hi h
  have p2 := k2 i hi h
  rw [if_pos (by rw [p1, p2]), p1]
theorem less_both {a b : List Int} {n : Nat} (ha : labB n a = true) (hb : labB n b = true) : (lessB a b && lessB b a) = eqB a b := by
  obtain ⟨la, _⟩ := labB_iff.1 ha
  obtain ⟨lb, _⟩ := labB_iff.1 hb
  apply Bool.eq_iff_iff.2
  rw [Bool.and_eq_true, eqB_iff]
  constructor
  · rintro ⟨h1, h2⟩
    obtain ⟨_, k1⟩ := lessB_iff.1 h1
    obtain ⟨_, k2⟩ := lessB_iff.1 h2
    rw [list_of_getD la, list_of_getD lb]
    refine lst_congr fun i hi => ?_
    have x1 := labB_at ha hi
    have x2 := labB_at hb hi
    have y1 := k1 i (by omega)
    have y2 := k2 i (by omega)
    by_cases e : a.getD i 0 = 1 ∨ a.getD i 0 = 2
    · exact (y1 e).symm
    · by_cases e' : b.getD i 0 = 1 ∨ b.getD i 0 = 2
      · exact y2 e'
      · omega
  · rintro rfl; exact ⟨lessB_refl _, lessB_refl _⟩
/-- a labelling's In nodes attack exactly the nodes that are Out -/
theorem com_hit {n : Nat} {l : List (Int × Int)} (hv : InR n l) {x : List Int} (h : comB n l x = true) {i : Nat} (hi : i < n) : ((attackersL l i).any fun a => inB (withL x 1) a) = (x.getD i 0 == 2) := by
  obtain ⟨hl, _⟩ := comB_iff.1 h
  have hlen := (labB_iff.1 hl).1
  obtain ⟨_, w2⟩ := com_words hv h hi
  apply Bool.eq_iff_iff.2
  rw [beq_iff_eq, w2, any_att]
  constructor
  · rintro ⟨a, ha, hs⟩
    obtain ⟨k, hk, rfl, hk1⟩ := mem_withL.1 hs
    exact ⟨k, ha, hk1⟩
  · rintro ⟨a, ha, h1⟩
    exact ⟨a, ha, mem_withL.2 ⟨a, by have := (att_lt hv ha).1; omega, rfl, h1⟩⟩
theorem cntL_congr {l : List (Int × Int)} {x y : List Int} {i : Nat} {v : Int} (h : ∀ a, a ∈ attackersL l i → y.getD a.toNat 0 = x.getD a.toNat 0) : cntL l y i v = cntL l x i v := by
  unfold cntL
  congr 1
  exact List.filter_congr fun a ha => by rw [h a ha]
/-- a node's legality hangs on its own label and those of its attackers -/
theorem leg_congr {l : List (Int × Int)} {x y : List Int} {i : Nat} (h0 : y.getD i 0 = x.getD i 0) (h : ∀ a, a ∈ attackersL l i → y.getD a.toNat 0 = x.getD a.toNat 0) : legB l y i = legB l x i := by
  unfold legB
  rw [h0, cntL_congr h, cntL_congr h]
theorem inB_ill {n : Nat} {l : List (Int × Int)} {x : List Int} (hx : labB n x = true) {i : Nat} (hi : i < n) : inB (illL n l x) i = !legB l x i := by
  unfold illL
  rw [if_pos hx]
  apply Bool.eq_iff_iff.2
  rw [inB_iff, mem_nodesB]
  constructor
  · rintro ⟨k, _, h, e⟩
    have : k = i := by omega
    subst this; exact h
  · intro h; exact ⟨i, hi, h, rfl⟩
/-- the row b with what a says at i and at the first k attackers -/
def chgF (l : List (Int × Int)) (a b : List Int) (i k j : Nat) : Int := if j = i ∨ (j : Int) ∈ (attackersL l i).take k then a.getD j 0 else b.getD j 0
theorem chgF_zero (l : List (Int × Int)) (a b : List Int) (i j : Nat) : chgF l a b i 0 j = upd (fun q => b.getD q 0) i (a.getD i 0) j := by
  unfold chgF upd
  by_cases e : j = i
  · subst e; rw [if_pos (Or.inl rfl), if_pos rfl]
  · rw [if_neg (by simp [e]), if_neg e]
theorem chgF_succ {l : List (Int × Int)} {a b : List Int} {i k : Nat} (h : k < (attackersL l i).length) {q : Nat} (hq : (attackersL l i)[k] = (q : Int)) (j : Nat) : chgF l a b i (k + 1) j = upd (chgF l a b i k) q (a.getD q 0) j := by
  unfold chgF upd
  rw [List.take_succ_eq_append_getElem h, hq]
  by_cases e : j = q
  · subst e; rw [if_pos (by simp), if_pos rfl]
  · rw [if_neg e]
    have : (j : Int) ≠ (q : Int) := by omega
    simp [this]
theorem chg_lab {n : Nat} {l : List (Int × Int)} {a b : List Int} (ha : labB n a = true) (hb : labB n b = true) (i k : Nat) : labB n (lst n (chgF l a b i k)) = true := by
  rw [labB_iff]
  refine ⟨lst_length _ _, fun v hv => ?_⟩
  unfold lst at hv
  obtain ⟨j, hj, rfl⟩ := List.mem_map.1 hv
  have hj := List.mem_range.1 hj
  unfold chgF
  split
  · exact labB_at ha hj
  · exact labB_at hb hj
theorem chg_leg {n : Nat} {l : List (Int × Int)} (hv : InR n l) {a b : List Int} {i : Nat} (hi : i < n) : legB l (lst n (chgF l a b i (attackersL l i).length)) i = legB l a i := by
  refine leg_congr ?_ fun y hy => ?_
  · rw [lst_getD hi]; unfold chgF; rw [if_pos (Or.inl rfl)]
  · obtain ⟨q, rfl, hq, _⟩ := attacker_nat hv hy
    rw [Int.toNat_natCast, lst_getD hq]; unfold chgF
    rw [if_pos (Or.inr (by rw [List.take_of_length_le (Nat.le_refl _)]; exact hy))]
end Go.Proofs.YtncimnfhfomddaaDoor
