/- Plain law: what the masks compute is what the reference's lists say. No walk. -/
import Derived.Test.YtiljbfeipfdmdaaDoorRef13b
import Derived.Test.YtiljbfeipfdmdaaDoorAdm
namespace Go.Proofs.YtiljbfeipfdmdaaDoor

theorem sorted_ext : ∀ (a b : List Int), a.Pairwise (· < ·) → b.Pairwise (· < ·) → (∀ x, x ∈ a ↔ x ∈ b) → a = b
  | [], [], _, _, _ => rfl
  | [], y :: b, _, _, h => absurd ((h y).2 (List.mem_cons_self ..)) (by simp)
  | x :: a, [], _, _, h => absurd ((h x).1 (List.mem_cons_self ..)) (by simp)
  | x :: a, y :: b, ha, hb, h => by
    obtain ⟨ha1, ha2⟩ := List.pairwise_cons.1 ha
    obtain ⟨hb1, hb2⟩ := List.pairwise_cons.1 hb
    have hxy : x = y := by
      rcases List.mem_cons.1 ((h x).1 (List.mem_cons_self ..)) with h1 | h1
      · exact h1
      · rcases List.mem_cons.1 ((h y).2 (List.mem_cons_self ..)) with h2 | h2
        · exact h2.symm
        · have := ha1 y h2; have := hb1 x h1; omega
    subst hxy
    rw [sorted_ext a b ha2 hb2 fun z => ?_]
    constructor
    · intro hz
      rcases List.mem_cons.1 ((h z).1 (List.mem_cons_of_mem _ hz)) with h1 | h1
      · have := ha1 z hz; omega
      · exact h1
    · intro hz
      rcases List.mem_cons.1 ((h z).2 (List.mem_cons_of_mem _ hz)) with h1 | h1
      · have := hb1 z hz; omega
      · exact h1

theorem nodesB_sorted (n : Nat) (p : Nat → Bool) : (nodesB n p).Pairwise (· < ·) := by
  unfold nodesB
  rw [List.pairwise_map]
  exact (List.pairwise_lt_range.filter p).imp (fun h => by show (Int.ofNat _) < Int.ofNat _; exact Int.ofNat_lt.2 h)

theorem setB_sorted {N : Int} {x : List Int} (h : setB N x = true) : x.Pairwise (· < ·) := by
  rw [setB_iff] at h
  rw [List.pairwise_iff_getElem]
  have key : ∀ d i (hi : i + d + 1 < x.length), x[i]'(by omega) < x[i + d + 1] := by
    intro d
    induction d with
    | zero =>
      intro i hi
      have := (h (i + 1) hi).2 (by omega)
      simpa [List.getD, hi, show i < x.length by omega] using this
    | succ d ih =>
      intro i hi
      have h1 := ih i (by omega)
      have h2 := (h (i + d + 1 + 1) hi).2 (by omega)
      simp [List.getD, show i + d + 1 < x.length by omega, show i + d + 1 + 1 < x.length by omega] at h2
      have e : i + (d + 1) + 1 = i + d + 1 + 1 := by omega
      simp only [e]
      omega
  intro i j hi hj hij
  obtain ⟨d, rfl⟩ := Nat.exists_eq_add_of_lt hij
  exact key d i hj

theorem setB_of_sorted {N : Int} {x : List Int} (hs : x.Pairwise (· < ·)) (hr : ∀ y ∈ x, 0 ≤ y ∧ y < N) : setB N x = true := by
  rw [setB_iff]
  intro k hk
  have e : x.getD k 0 = x[k] := by simp [List.getD, hk]
  refine ⟨by rw [e]; exact hr _ (List.getElem_mem hk), fun h0 => ?_⟩
  have hk1 : k - 1 < x.length := by omega
  have e1 : x.getD (k - 1) 0 = x[k - 1] := by simp [List.getD, hk1]
  rw [e, e1]
  exact (List.pairwise_iff_getElem.1 hs) (k - 1) k hk1 hk (by omega)

theorem setB_nodes (n : Nat) (p : Nat → Bool) : setB n (nodesB n p) = true :=
  setB_of_sorted (nodesB_sorted n p) fun y hy => by
    obtain ⟨i, hi, _, rfl⟩ := mem_nodesB.1 hy
    omega

theorem has_maskN {x : List Int} (hx : ∀ y ∈ x, 0 ≤ y) {j : Nat} : has (maskN x) j ↔ (j : Int) ∈ x := by
  unfold has
  rw [testBit_maskN, List.any_eq_true]
  constructor
  · rintro ⟨y, hy, h⟩
    have := hx y hy
    simp at h
    have e : (j : Int) = y := by omega
    rw [e]; exact hy
  · intro h
    exact ⟨j, h, by simp⟩
theorem has_maskS {n : Nat} {x : List Int} (h : setB n x = true) {j : Nat} : has (maskN x) j ↔ (j : Int) ∈ x := has_maskN fun y hy => (setB_range h y hy).1

theorem set_nodes {n : Nat} {x : List Int} (h : setB n x = true) : nodesB n (maskN x).testBit = x := by
  refine sorted_ext _ _ (nodesB_sorted _ _) (setB_sorted h) fun y => ?_
  rw [mem_nodesB]
  constructor
  · rintro ⟨i, _, hi, rfl⟩
    exact (has_maskS h).1 hi
  · intro hy
    have := setB_range h y hy
    have e : ((y.toNat : Nat) : Int) = y := by omega
    exact ⟨y.toNat, by omega, (has_maskS h).2 (by rw [e]; exact hy), e.symm⟩
theorem mask_nodes {n m : Nat} (h : m < 2 ^ n) : maskN (nodesB n m.testBit) = m := by
  apply has_ext
  intro j
  rw [has_maskS (setB_nodes n _), mem_nodesB]
  constructor
  · rintro ⟨i, _, hi, e⟩
    have : j = i := by omega
    subst this; exact hi
  · intro hj
    exact ⟨j, has_lt h hj, hj, rfl⟩
theorem nodes_inj {n a b : Nat} (ha : a < 2 ^ n) (hb : b < 2 ^ n) (h : nodesB n a.testBit = nodesB n b.testBit) : a = b := by
  rw [← mask_nodes ha, ← mask_nodes hb, h]

theorem hitB_iff {n : Nat} {l : List (Int × Int)} {x : List Int} (h : setB n x = true) (j : Nat) : hitB l x j = true ↔ ∃ a, has (maskN x) a ∧ att l a j := by
  unfold hitB att
  rw [List.any_eq_true]
  constructor
  · rintro ⟨y, hy, hh⟩
    have := setB_range h y hy
    have e : ((y.toNat : Nat) : Int) = y := by omega
    exact ⟨y.toNat, (has_maskS h).2 (by rw [e]; exact hy), by rw [e]; exact hasB_iff.1 hh⟩
  · rintro ⟨a, ha, hh⟩
    exact ⟨a, (has_maskS h).1 ha, hasB_iff.2 hh⟩
theorem mem_attackersL {l : List (Int × Int)} {i y : Int} : y ∈ attackersL l i ↔ (y, i) ∈ l := by
  unfold attackersL
  simp only [List.mem_map, List.mem_filter, beq_iff_eq]
  constructor
  · rintro ⟨p, ⟨hp, h2⟩, h1⟩
    have : p = (y, i) := by cases p; simp_all
    rw [← this]; exact hp
  · intro h; exact ⟨(y, i), ⟨h, rfl⟩, rfl⟩
theorem attackersL_nat {n : Nat} {l : List (Int × Int)} (hv : InR n l) {i y : Int} (h : y ∈ attackersL l i) : ∃ a : Nat, y = a ∧ a < n := by
  have := hv.2.2 _ (mem_attackersL.1 h)
  exact ⟨y.toNat, by simp at this; omega, by simp at this; omega⟩

theorem defR_iff {n : Nat} {l : List (Int × Int)} (hv : InR n l) {x : List Int} (h : setB n x = true) (j : Nat) : defR n l x j = true ↔ has (stepN n l (maskN x)) j := by
  rw [has_stepN hv]
  simp only [defR, h, Bool.true_and, Bool.and_eq_true, decide_eq_true_eq, List.all_eq_true]
  constructor
  · rintro ⟨⟨_, h1⟩, h2⟩
    refine ⟨by omega, fun a ha => ?_⟩
    exact (hitB_iff h a).1 (h2 a (mem_attackersL.2 ha))
  · rintro ⟨h1, h2⟩
    refine ⟨⟨by omega, by omega⟩, fun y hy => ?_⟩
    obtain ⟨a, rfl, _⟩ := attackersL_nat hv hy
    exact (hitB_iff h a).2 (h2 a (mem_attackersL.1 hy))
/-- the two answers on defence agree -/
theorem defR_eq {n : Nat} {l : List (Int × Int)} (hv : InR n l) (x : List Int) (i : Int) : defR n l x i = defB n l x i := by
  by_cases h0 : 0 ≤ i
  · obtain ⟨j, rfl⟩ := Int.eq_ofNat_of_zero_le h0
    cases hs : setB n x
    · simp [defR, defB, hs]
    · have h1 := defR_iff hv hs j
      rw [Bool.eq_iff_iff, h1]
      simp only [defB, hs, Bool.and_true, Bool.and_eq_true, decide_eq_true_eq]
      constructor
      · intro h; exact ⟨⟨h0, by have := has_lt (stepN_lt n l (maskN x)) h; omega⟩, h⟩
      · rintro ⟨_, h⟩; exact h
  · simp [defR, defB, h0]
/-- what the reference's Step returns -/
def stepR (n : Nat) (l : List (Int × Int)) (x : List Int) : List Int := nodesB n (fun j => defR n l x j)
theorem stepR_eq {n : Nat} {l : List (Int × Int)} (hv : InR n l) (x : List Int) : stepR n l x = stepL n l x := by
  unfold stepR stepL
  cases hs : setB n x
  · rw [nodesB_congr (q := fun _ => false) (fun j _ => by simp [defR, hs])]
    simp [nodesB]
  · rw [if_pos rfl]
    exact nodesB_congr fun j _ => by rw [Bool.eq_iff_iff]; exact defR_iff hv hs j
theorem noHit_iff {n : Nat} {l : List (Int × Int)} {x : List Int} (h : setB n x = true) : noHit l x x = true ↔ ∀ a b, has (maskN x) a → has (maskN x) b → ¬ att l a b := by
  unfold noHit
  simp only [List.all_eq_true, Bool.not_eq_true', hasB_false]
  constructor
  · intro h1 a b ha hb
    exact h1 a ((has_maskS h).1 ha) b ((has_maskS h).1 hb)
  · intro h1 y hy z hz
    have := setB_range h y hy; have := setB_range h z hz
    have e1 : ((y.toNat : Nat) : Int) = y := by omega
    have e2 : ((z.toNat : Nat) : Int) = z := by omega
    have := h1 y.toNat z.toNat ((has_maskS h).2 (by rw [e1]; exact hy)) ((has_maskS h).2 (by rw [e2]; exact hz))
    unfold att at this
    rwa [e1, e2] at this
theorem freeB_iff {n : Nat} {l : List (Int × Int)} (hv : InR n l) (m : Nat) : freeB l m = true ↔ ∀ a b, has m a → has m b → ¬ att l a b := by
  unfold freeB
  rw [beq_iff_eq]
  constructor
  · intro h a b ha hb hab
    have : has (attN l m &&& m) b := has_and.2 ⟨(has_attN hv m b).2 ⟨a, ha, hab⟩, hb⟩
    rw [h] at this
    exact has_zero this
  · intro h
    apply has_ext
    intro j
    constructor
    · intro hj
      obtain ⟨h1, h2⟩ := has_and.1 hj
      obtain ⟨a, ha, hab⟩ := (has_attN hv m j).1 h1
      exact absurd hab (h a j ha h2)
    · intro hj; exact absurd hj has_zero
theorem cfR_eq {n : Nat} {l : List (Int × Int)} (hv : InR n l) (x : List Int) : cfR n l x = (setB n x && freeB l (maskN x)) := by
  unfold cfR
  cases hs : setB n x
  · simp
  · rw [Bool.and_true, Bool.true_and, Bool.eq_iff_iff, noHit_iff hs, freeB_iff hv]
theorem insideB_iff {a b : List Int} : insideB a b = true ↔ ∀ x ∈ a, x ∈ b := by
  unfold insideB
  simp only [List.all_eq_true, inB_iff]
theorem insideB_nodes {n a b : Nat} (ha : a < 2 ^ n) : insideB (nodesB n a.testBit) (nodesB n b.testBit) = true ↔ sub a b := by
  rw [insideB_iff]
  constructor
  · intro h j hj
    obtain ⟨i, _, hi, e⟩ := mem_nodesB.1 (h j (mem_nodesB.2 ⟨j, has_lt ha hj, hj, rfl⟩))
    have : j = i := by omega
    subst this; exact hi
  · intro h y hy
    obtain ⟨i, hi, hb, rfl⟩ := mem_nodesB.1 hy
    exact mem_nodesB.2 ⟨i, hi, h i hb, rfl⟩
theorem sub_iff_minus {n a b : Nat} (hn : n ≤ 40) (ha : a < 2 ^ n) (hb : b < 2 ^ n) : minusN a b = 0 ↔ sub a b := by
  have hu := u64_of hn ha; have hu2 := u64_of hn hb
  constructor
  · intro h j hj
    rcases Classical.em (has b j) with h1 | h1
    · exact h1
    · have := (has_minusN hu hu2).2 ⟨hj, h1⟩
      rw [h] at this
      exact absurd this has_zero
  · intro h
    apply has_ext
    intro j
    rw [has_minusN hu hu2]
    constructor
    · rintro ⟨h1, h2⟩; exact absurd (h j h1) h2
    · intro h1; exact absurd h1 has_zero
/-- what the reference's Admissible, IsComplete return -/
def admR (n : Nat) (l : List (Int × Int)) (x : List Int) : Bool := cfR n l x && insideB x (stepR n l x)
def comR (n : Nat) (l : List (Int × Int)) (x : List Int) : Bool := admR n l x && insideB (stepR n l x) x
theorem admR_eq {n : Nat} {l : List (Int × Int)} (hv : InR n l) (x : List Int) : admR n l x = (setB n x && soundB n l (maskN x)) := by
  unfold admR soundB
  rw [cfR_eq hv]
  cases hs : setB n x
  · rfl
  · have hm := (setB_mask hv.1 hs).2
    rw [stepR_eq hv, stepL, if_pos hs]
    have e : insideB x (nodesB n (stepN n l (maskN x)).testBit) = (minusN (maskN x) (stepN n l (maskN x)) == 0) := by
      rw [Bool.eq_iff_iff, beq_iff_eq, sub_iff_minus hv.1 hm (stepN_lt n l _), ← insideB_nodes hm, set_nodes hs]
    rw [e, Bool.true_and, Bool.true_and]
theorem comR_eq {n : Nat} {l : List (Int × Int)} (hv : InR n l) (x : List Int) : comR n l x = (setB n x && complB n l (maskN x)) := by
  unfold comR complB
  rw [admR_eq hv]
  cases hs : setB n x
  · rfl
  · have hm := (setB_mask hv.1 hs).2
    rw [stepR_eq hv, stepL, if_pos hs, Bool.true_and, Bool.true_and]
    cases hsd : soundB n l (maskN x)
    · rfl
    · have h1 := sub_of_sound hv hm hsd
      have e : insideB (nodesB n (stepN n l (maskN x)).testBit) x = (stepN n l (maskN x) == maskN x) := by
        rw [Bool.eq_iff_iff, beq_iff_eq]
        constructor
        · intro h
          rw [← set_nodes hs] at h
          have h2 := (insideB_nodes (stepN_lt n l _)).1 h
          rw [mask_nodes hm] at h2
          exact sub_antisymm h2 h1
        · intro h
          rw [h, insideB_iff]
          intro y hy
          rwa [set_nodes hs] at hy
      rw [e]
end Go.Proofs.YtiljbfeipfdmdaaDoor
