import Derived.Test.YtncimnfhfomddaaDoorRef10
import Derived.Test.YtncimnfhfomddaaDoorAdm
/- The reference of layers 11 and 13: In, inside, Valid, hit, ConflictFree. -/
namespace Go.Proofs.YtncimnfhfomddaaDoor
open Go.ChangeShapes Go.WideShapes Go.ChangeAt Go.RowKit

/-- an element of x attacks i -/
def hitB (l : List (Int × Int)) (x : List Int) (i : Int) : Bool := x.any (fun a => hasB l a i)
theorem hitB_hit {l : List (Int × Int)} {x : List Int} {i : Int} {k : Nat} (h : k < x.length) (hx : hasB l x[k] i = true) : hitB l x i = true := List.any_eq_true.2 ⟨_, List.getElem_mem h, hx⟩
theorem hitB_next {l : List (Int × Int)} {x : List Int} {i : Int} {k : Nat} (h : k < x.length) (h0 : hitB l (x.take k) i = false) (hx : hasB l x[k] i = false) : hitB l (x.take (k + 1)) i = false := by
  unfold hitB at *; rw [List.take_succ_eq_append_getElem h, List.any_append, h0]; simp [hx]

end Go.Proofs.YtncimnfhfomddaaDoor

/- The reference of layer 13: ConflictFree, Defends, Step, Admissible, IsComplete. -/
namespace Go.Proofs.YtncimnfhfomddaaDoor
open Go.ChangeShapes Go.WideShapes Go.ChangeAt Go.RowKit

/-- no element of x attacks an element of y -/
def noHit (l : List (Int × Int)) (x y : List Int) : Bool := x.all (fun a => y.all (fun b => !hasB l a b))
theorem noHit_row {l : List (Int × Int)} {x y : List Int} {k : Nat} (h : k < x.length) (h0 : noHit l (x.take k) y = true) (h1 : noHit l [x[k]] y = true) : noHit l (x.take (k + 1)) y = true := by
  unfold noHit at *; rw [List.take_succ_eq_append_getElem h, List.all_append, h0]; exact h1
theorem noHit_cell {l : List (Int × Int)} {a : Int} {y : List Int} {k : Nat} (h : k < y.length) (h0 : noHit l [a] (y.take k) = true) (h1 : hasB l a y[k] = false) : noHit l [a] (y.take (k + 1)) = true := by
  unfold noHit at *; rw [List.take_succ_eq_append_getElem h]
  simp only [List.all_cons, List.all_nil, Bool.and_true, List.all_append] at *
  rw [h0]; simp [h1]
theorem noHit_bad {l : List (Int × Int)} {x y : List Int} {i k : Nat} (hi : i < x.length) (hk : k < y.length) (h1 : hasB l x[i] y[k] = true) : noHit l x y = false := by
  cases hb : noHit l x y
  · rfl
  · unfold noHit at hb
    rw [List.all_eq_true] at hb
    have h2 := hb _ (List.getElem_mem hi)
    rw [List.all_eq_true] at h2
    have h3 := h2 _ (List.getElem_mem hk)
    rw [h1] at h3; cases h3
/-- what ConflictFree returns -/
def cfR (N : Int) (l : List (Int × Int)) (x : List Int) : Bool := noHit l x x && setB N x

/-- what Defends returns -/
def defR (N : Int) (l : List (Int × Int)) (x : List Int) (i : Int) : Bool := setB N x && decide (0 ≤ i) && decide (i < N) && (attackersL l i).all (fun k => hitB l x k)
theorem defR_bad {N : Int} {l : List (Int × Int)} {x : List Int} {i : Int} {k : Nat} (h : k < (attackersL l i).length) (h1 : hitB l x (attackersL l i)[k] = false) : defR N l x i = false := by
  cases hb : defR N l x i
  · rfl
  · simp only [defR, Bool.and_eq_true, List.all_eq_true] at hb
    rw [hb.2 _ (List.getElem_mem h)] at h1; cases h1

end Go.Proofs.YtncimnfhfomddaaDoor

/- Plain law: what the masks compute is what the reference's lists say. No walk. -/
namespace Go.Proofs.YtncimnfhfomddaaDoor

theorem sorted_ext : ∀ (a b : List Int), a.Pairwise (· < ·) → b.Pairwise (· < ·) → (∀ x, x ∈ a ↔ x ∈ b) → a = b
  | [], [], _, _, _ => rfl
  | [], y :: b, _, _, h => absurd ((h y).2 (List.mem_cons_self ..)) (by simp)
  | x :: a, [], _, _, h => absurd ((h x).1 (List.mem_cons_self ..)) (by simp)
  | x :: a, y :: b, ha, hb, h => by
    obtain ⟨ha1, ha2⟩ := List.pairwise_cons.1 ha
    obtain ⟨hb1, hb2⟩ := List.pairwise_cons.1 hb
    have hxy : x = y := by
      rcases List.mem_cons.1 ((h x).1 (List.mem_cons_self ..)) with h1 | h1
      · exact h1
      · rcases List.mem_cons.1 ((h y).2 (List.mem_cons_self ..)) with h2 | h2
        · exact h2.symm
        · have := ha1 y h2; have := hb1 x h1; omega
    subst hxy
    rw [sorted_ext a b ha2 hb2 fun z => ?_]
    constructor
    · intro hz
      rcases List.mem_cons.1 ((h z).1 (List.mem_cons_of_mem _ hz)) with h1 | h1
      · have := ha1 z hz; omega
      · exact h1
    · intro hz
      rcases List.mem_cons.1 ((h z).2 (List.mem_cons_of_mem _ hz)) with h1 | h1
      · have := hb1 z hz; omega
      · exact h1

theorem nodesB_sorted (n : Nat) (p : Nat → Bool) : (nodesB n p).Pairwise (· < ·) := by
  unfold nodesB
  rw [List.pairwise_map]
  exact (List.pairwise_lt_range.filter p).imp (fun h => by show (Int.ofNat _) < Int.ofNat _; exact Int.ofNat_lt.2 h)

theorem setB_sorted {N : Int} {x : List Int} (h : setB N x = true) : x.Pairwise (· < ·) := by
  rw [setB_iff] at h
  rw [List.pairwise_iff_getElem]
  have key : ∀ d i (hi : i + d + 1 < x.length), x[i]'(by omega) < x[i + d + 1] := by
    intro d
    induction d with
    | zero =>
      intro i hi
      have := (h (i + 1) hi).2 (by omega)
      simpa [List.getD, hi, show i < x.length by omega] using this
    | succ d ih =>
      intro i hi
      have h1 := ih i (by omega)
      have h2 := (h (i + d + 1 + 1) hi).2 (by omega)
      simp [List.getD, show i + d + 1 < x.length by omega, show i + d + 1 + 1 < x.length by omega] at h2
      have e : i + (d + 1) + 1 = i + d + 1 + 1 := by omega
      simp only [e]
      omega
  intro i j hi hj hij
  obtain ⟨d, rfl⟩ := Nat.exists_eq_add_of_lt hij
  exact key d i hj

theorem setB_of_sorted {N : Int} {x : List Int} (hs : x.Pairwise (· < ·)) (hr : ∀ y ∈ x, 0 ≤ y ∧ y < N) : setB N x = true := by
  rw [setB_iff]
  intro k hk
  have e : x.getD k 0 = x[k] := by simp [List.getD, hk]
  refine ⟨by rw [e]; exact hr _ (List.getElem_mem hk), fun h0 => ?_⟩
  have hk1 : k - 1 < x.length := by omega
  have e1 : x.getD (k - 1) 0 = x[k - 1] := by simp [List.getD, hk1]
  rw [e, e1]
  exact (List.pairwise_iff_getElem.1 hs) (k - 1) k hk1 hk (by omega)

theorem setB_nodes (n : Nat) (p : Nat → Bool) : setB n (nodesB n p) = true :=
  setB_of_sorted (nodesB_sorted n p) fun y hy => by
    obtain ⟨i, hi, _, rfl⟩ := mem_nodesB.1 hy
    omega

theorem has_maskN {x : List Int} (hx : ∀ y ∈ x, 0 ≤ y) {j : Nat} : has (maskN x) j ↔ (j : Int) ∈ x := by
  unfold has
  rw [testBit_maskN, List.any_eq_true]
  constructor
  · rintro ⟨y, hy, h⟩
    have := hx y hy
    simp at h
    have e : (j : Int) = y := by omega
    rw [e]; exact hy
  · intro h
    exact ⟨j, h, by simp⟩
theorem has_maskS {n : Nat} {x : List Int} (h : setB n x = true) {j : Nat} : has (maskN x) j ↔ (j : Int) ∈ x := has_maskN fun y hy => (setB_range h y hy).1

theorem set_nodes {n : Nat} {x : List Int} (h : setB n x = true) : nodesB n (maskN x).testBit = x := by
  refine sorted_ext _ _ (nodesB_sorted _ _) (setB_sorted h) fun y => ?_
  rw [mem_nodesB]
  constructor
  · rintro ⟨i, _, hi, rfl⟩
    exact (has_maskS h).1 hi
  · intro hy
    have := setB_range h y hy
    have e : ((y.toNat : Nat) : Int) = y := by omega
    exact ⟨y.toNat, by omega, (has_maskS h).2 (by rw [e]; exact hy), e.symm⟩
theorem mask_nodes {n m : Nat} (h : m < 2 ^ n) : maskN (nodesB n m.testBit) = m := by
  apply has_ext
  intro j
  rw [has_maskS (setB_nodes n _), mem_nodesB]
  constructor
  · rintro ⟨i, _, hi, e⟩
    have : j = i := by omega
    subst this; exact hi
  · intro hj
    exact ⟨j, has_lt h hj, hj, rfl⟩
theorem nodes_inj {n a b : Nat} (ha : a < 2 ^ n) (hb : b < 2 ^ n) (h : nodesB n a.testBit = nodesB n b.testBit) : a = b := by
  rw [← mask_nodes ha, ← mask_nodes hb, h]

theorem hitB_iff {n : Nat} {l : List (Int × Int)} {x : List Int} (h : setB n x = true) (j : Nat) : hitB l x j = true ↔ ∃ a, has (maskN x) a ∧ att l a j := by
  unfold hitB att
  rw [List.any_eq_true]
  constructor
  · rintro ⟨y, hy, hh⟩
    have := setB_range h y hy
    have e : ((y.toNat : Nat) : Int) = y := by omega
    exact ⟨y.toNat, (has_maskS h).2 (by rw [e]; exact hy), by rw [e]; exact hasB_iff.1 hh⟩
  · rintro ⟨a, ha, hh⟩
    exact ⟨a, (has_maskS h).1 ha, hasB_iff.2 hh⟩
theorem mem_attackersL {l : List (Int × Int)} {i y : Int} : y ∈ attackersL l i ↔ (y, i) ∈ l := by
  unfold attackersL
  simp only [List.mem_map, List.mem_filter, beq_iff_eq]
  constructor
  · rintro ⟨p, ⟨hp, h2⟩, h1⟩
    have : p = (y, i) := by cases p; simp_all
    rw [← this]; exact hp
  · intro h; exact ⟨(y, i), ⟨h, rfl⟩, rfl⟩
theorem attackersL_nat {n : Nat} {l : List (Int × Int)} (hv : InR n l) {i y : Int} (h : y ∈ attackersL l i) : ∃ a : Nat, y = a ∧ a < n := by
  have := hv.2.2 _ (mem_attackersL.1 h)
  exact ⟨y.toNat, by simp at this; omega, by simp at this; omega⟩

theorem defR_iff {n : Nat} {l : List (Int × Int)} (hv : InR n l) {x : List Int} (h : setB n x = true) (j : Nat) : defR n l x j = true ↔ has (stepN n l (maskN x)) j := by
  rw [has_stepN hv]
  simp only [defR, h, Bool.true_and, Bool.and_eq_true, decide_eq_true_eq, List.all_eq_true]
  constructor
  · rintro ⟨⟨_, h1⟩, h2⟩
    refine ⟨by omega, fun a ha => ?_⟩
    exact (hitB_iff h a).1 (h2 a (mem_attackersL.2 ha))
  · rintro ⟨h1, h2⟩
    refine ⟨⟨by omega, by omega⟩, fun y hy => ?_⟩
    obtain ⟨a, rfl, _⟩ := attackersL_nat hv hy
    exact (hitB_iff h a).2 (h2 a (mem_attackersL.1 hy))
/-- the two answers on defence agree -/
theorem defR_eq {n : Nat} {l : List (Int × Int)} (hv : InR n l) (x : List Int) (i : Int) : defR n l x i = defB n l x i := by
  by_cases h0 : 0 ≤ i
  · obtain ⟨j, rfl⟩ := Int.eq_ofNat_of_zero_le h0
    cases hs : setB n x
    · simp [defR, defB, hs]
    · have h1 := defR_iff hv hs j
      rw [Bool.eq_iff_iff, h1]
      simp only [defB, hs, Bool.and_true, Bool.and_eq_true, decide_eq_true_eq]
      constructor
      · intro h; exact ⟨⟨h0, by have := has_lt (stepN_lt n l (maskN x)) h; omega⟩, h⟩
      · rintro ⟨_, h⟩; exact h
  · simp [defR, defB, h0]
/-- what the reference's Step returns -/
def stepR (n : Nat) (l : List (Int × Int)) (x : List Int) : List Int := nodesB n (fun j => defR n l x j)
theorem stepR_eq {n : Nat} {l : List (Int × Int)} (hv : InR n l) (x : List Int) : stepR n l x = stepL n l x := by
  unfold stepR stepL
  cases hs : setB n x
  · rw [nodesB_congr (q := fun _ => false) (fun j _ => by simp [defR, hs])]
    simp [nodesB]
  · rw [if_pos rfl]
    exact nodesB_congr fun j _ => by rw [Bool.eq_iff_iff]; exact defR_iff hv hs j
theorem noHit_iff {n : Nat} {l : List (Int × Int)} {x : List Int} (h : setB n x = true) : noHit l x x = true ↔ ∀ a b, has (maskN x) a → has (maskN x) b → ¬ att l a b := by
  unfold noHit
  simp only [List.all_eq_true, Bool.not_eq_true', hasB_false]
  constructor
  · intro h1 a b ha hb
    exact h1 a ((has_maskS h).1 ha) b ((has_maskS h).1 hb)
  · intro h1 y hy z hz
    have := setB_range h y hy; have := setB_range h z hz
    have e1 : ((y.toNat : Nat) : Int) = y := by omega
    have e2 : ((z.toNat : Nat) : Int) = z := by omega
    have := h1 y.toNat z.toNat ((has_maskS h).2 (by rw [e1]; exact hy)) ((has_maskS h).2 (by rw [e2]; exact hz))
    unfold att at this
    rwa [e1, e2] at this
theorem freeB_iff {n : Nat} {l : List (Int × Int)} (hv : InR n l) (m : Nat) : freeB l m = true ↔ ∀ a b, has m a → has m b → ¬ att l a b := by
  unfold freeB
  rw [beq_iff_eq]
  constructor
  · intro h a b ha hb hab
    have : has (attN l m &&& m) b := has_and.2 ⟨(has_attN hv m b).2 ⟨a, ha, hab⟩, hb⟩
    rw [h] at this
    exact has_zero this
  · intro h
    apply has_ext
    intro j
    constructor
    · intro hj
      obtain ⟨h1, h2⟩ := has_and.1 hj
      obtain ⟨a, ha, hab⟩ := (has_attN hv m j).1 h1
      exact absurd hab (h a j ha h2)
    · intro hj; exact absurd hj has_zero
theorem cfR_eq {n : Nat} {l : List (Int × Int)} (hv : InR n l) (x : List Int) : cfR n l x = (setB n x && freeB l (maskN x)) := by
  unfold cfR
  cases hs : setB n x
  · simp
  · rw [Bool.and_true, Bool.true_and, Bool.eq_iff_iff, noHit_iff hs, freeB_iff hv]
theorem insideB_iff {a b : List Int} : insideB a b = true ↔ ∀ x ∈ a, x ∈ b := by
  unfold insideB
  simp only [List.all_eq_true, inB_iff]
theorem insideB_nodes {n a b : Nat} (ha : a < 2 ^ n) : insideB (nodesB n a.testBit) (nodesB n b.testBit) = true ↔ sub a b := by
  rw [insideB_iff]
  constructor
  · intro h j hj
    obtain ⟨i, _, hi, e⟩ := mem_nodesB.1 (h j (mem_nodesB.2 ⟨j, has_lt ha hj, hj, rfl⟩))
    have : j = i := by omega
    subst this; exact hi
  · intro h y hy
    obtain ⟨i, hi, hb, rfl⟩ := mem_nodesB.1 hy
    exact mem_nodesB.2 ⟨i, hi, h i hb, rfl⟩
theorem sub_iff_minus {n a b : Nat} (hn : n ≤ 40) (ha : a < 2 ^ n) (hb : b < 2 ^ n) : minusN a b = 0 ↔ sub a b := by
  have hu := u64_of hn ha; have hu2 := u64_of hn hb
  constructor
  · intro h j hj
    rcases Classical.em (has b j) with h1 | h1
    · exact h1
    · have := (has_minusN hu hu2).2 ⟨hj, h1⟩
      rw [h] at this
      exact absurd this has_zero
  · intro h
    apply has_ext
    intro j
    rw [has_minusN hu hu2]
    constructor
    · rintro ⟨h1, h2⟩; exact absurd (h j h1) h2
    · intro h1; exact absurd h1 has_zero
/-- what the reference's Admissible, IsComplete return -/
def admR (n : Nat) (l : List (Int × Int)) (x : List Int) : Bool := cfR n l x && insideB x (stepR n l x)
def comR (n : Nat) (l : List (Int × Int)) (x : List Int) : Bool := admR n l x && insideB (stepR n l x) x
theorem admR_eq {n : Nat} {l : List (Int × Int)} (hv : InR n l) (x : List Int) : admR n l x = (setB n x && soundB n l (maskN x)) := by
  unfold admR soundB
  rw [cfR_eq hv]
  cases hs : setB n x
  · rfl
  · have hm := (setB_mask hv.1 hs).2
    rw [stepR_eq hv, stepL, if_pos hs]
    have e : insideB x (nodesB n (stepN n l (maskN x)).testBit) = (minusN (maskN x) (stepN n l (maskN x)) == 0) := by
      rw [Bool.eq_iff_iff, beq_iff_eq, sub_iff_minus hv.1 hm (stepN_lt n l _), ← insideB_nodes hm, set_nodes hs]
    rw [e, Bool.true_and, Bool.true_and]
theorem comR_eq {n : Nat} {l : List (Int × Int)} (hv : InR n l) (x : List Int) : comR n l x = (setB n x && complB n l (maskN x)) := by
  unfold comR complB
  rw [admR_eq hv]
  cases hs : setB n x
  · rfl
  · have hm := (setB_mask hv.1 hs).2
    rw [stepR_eq hv, stepL, if_pos hs, Bool.true_and, Bool.true_and]
    cases hsd : soundB n l (maskN x)
    · rfl
    · have h1 := sub_of_sound hv hm hsd
      have e : insideB (nodesB n (stepN n l (maskN x)).testBit) x = (stepN n l (maskN x) == maskN x) := by
        rw [Bool.eq_iff_iff, beq_iff_eq]
        constructor
        · intro h
          rw [← set_nodes hs] at h
          have h2 := (insideB_nodes (stepN_lt n l _)).1 h
          rw [mask_nodes hm] at h2
          exact sub_antisymm h2 h1
        · intro h
          rw [h, insideB_iff]
          intro y hy
          rwa [set_nodes hs] at hy
      rw [e]
end Go.Proofs.YtncimnfhfomddaaDoor

/- The reference of layer 13: Step, Admissible, IsComplete, Range, IsStable. -/
namespace Go.Proofs.YtncimnfhfomddaaDoor
open Go.ChangeShapes Go.WideShapes Go.ChangeAt Go.RowKit

theorem stepR_length (n : Nat) (l : List (Int × Int)) (x : List Int) : (stepR n l x).length ≤ n := nodesB_length _ _

/-- what the reference's Range, IsStable return -/
def inRange (l : List (Int × Int)) (x : List Int) (i : Int) : Bool := inB x i || hitB l x i
def rangeR (n : Nat) (l : List (Int × Int)) (x : List Int) : List Int := if setB n x then nodesB n (fun j => inRange l x j) else []


def stableR (n : Nat) (l : List (Int × Int)) (x : List Int) : Bool := cfR n l x && ((rangeR n l x).length == n)
end Go.Proofs.YtncimnfhfomddaaDoor

/- Layer 11's Sets: all sets of n nodes; slices of slices that the call has made. -/
namespace Go.Proofs.YtncimnfhfomddaaDoor
open Go.ChangeShapes Go.WideShapes Go.ChangeAt Go.RowKit

theorem i64_and1 (n : Int) : bits .and .i64 n 1 = n % 2 := by
  have h1 : (BitVec.ofInt 64 1).toNat = 2 ^ 1 - 1 := by decide
  have key : (BitVec.ofInt 64 n &&& BitVec.ofInt 64 1).toNat = (n % ((2 ^ 64 : Nat) : Int)).toNat % 2 ^ 1 := by
    rw [BitVec.toNat_and, BitVec.toNat_ofInt, h1, Nat.and_two_pow_sub_one_eq_mod]
  show IntKind.i64.wrap ((BitVec.ofInt 64 n &&& BitVec.ofInt 64 1).toNat : Nat) = n % 2
  rw [key, IntKind.wrap_i64]
  omega
theorem bit_of_shr (m i : Nat) : (bits .and .i64 ((m : Int) / 2 ^ i) 1 == 1) = m.testBit i := by
  rw [i64_and1, Nat.testBit_eq_decide_div_mod_eq]
  have e : ((m : Int) / 2 ^ i) % 2 = ((m / 2 ^ i % 2 : Nat) : Int) := by simp
  rw [e, Bool.eq_iff_iff]; simp; omega

/-- the values are slices of the call's own that hold the lists -/
def OwnL (w : World) (base : Nat) (xs : List Value) (ls : List (List Int)) : Prop :=
  xs.length = ls.length ∧ ∀ k, k < ls.length → ∃ A c, xs[k]? = some (.slice A (ls.getD k []).length c) ∧ OwnI w base (.slice A (ls.getD k []).length c) (ls.getD k [])
theorem OwnL.nil (w : World) (base : Nat) : OwnL w base [] [] := ⟨rfl, fun k hk => absurd hk (by simp)⟩
theorem OwnL.below {w w' : World} {base : Nat} {xs : List Value} {ls : List (List Int)} (h : OwnL w base xs ls) (hb : Below w.heap.size w w') : OwnL w' base xs ls :=
  ⟨h.1, fun k hk => by obtain ⟨A, c, h1, h2⟩ := h.2 k hk; exact ⟨A, c, h1, h2.below hb⟩⟩
theorem OwnL.snoc {w : World} {base : Nat} {xs : List Value} {ls : List (List Int)} {A : Option Addr} {l : List Int} {c : Nat} (h : OwnL w base xs ls) (hr : OwnI w base (.slice A l.length c) l) :
    OwnL w base (xs ++ [.slice A l.length c]) (ls ++ [l]) := by
  refine ⟨by simp [h.1], fun k hk => ?_⟩
  by_cases hk' : k < ls.length
  · obtain ⟨A', c', h1, h2⟩ := h.2 k hk'
    have e : (ls ++ [l]).getD k [] = ls.getD k [] := by simp only [List.getD]; rw [List.getElem?_append_left hk']
    rw [e]
    exact ⟨A', c', by rw [List.getElem?_append_left (by rw [h.1]; exact hk')]; exact h1, h2⟩
  · have hk2 : k = ls.length := by simp at hk; omega
    subst hk2
    have e : (ls ++ [l]).getD ls.length [] = l := by simp [List.getD]
    rw [e]
    exact ⟨A, c, by rw [← h.1]; simp, hr⟩
/-- a slice of numbers and a slice of slices never lie in one block -/
theorem OwnI.apart {w : World} {b b' : Nat} {v v' : Value} {l : List Int} {xs : List Value} (h : OwnI w b v l) (k : OwnS w b' v' xs) : v.ownBlock = none ∨ v.ownBlock ≠ v'.ownBlock := by
  obtain ⟨_, h2⟩ := h
  obtain ⟨_, k2⟩ := k
  rcases h2 with ⟨rfl, _⟩ | ⟨g, cap, cur, rfl, _, hg, _⟩
  · exact .inl rfl
  · rcases k2 with ⟨rfl, _⟩ | ⟨g', cap', cur', rfl, _, hg', _⟩
    · exact .inr (by simp [Value.ownBlock])
    · refine .inr fun e => ?_
      simp only [Value.ownBlock, Option.some.injEq] at e
      subst e
      rw [hg] at hg'
      simp only [Option.some.injEq, Obj.cells.injEq] at hg'
      exact absurd hg'.2.1 (by decide)
theorem OwnL.append {w w' : World} {base b' : Nat} {v : Value} {ys xs : List Value} {ls : List (List Int)} (h : OwnL w base xs ls) (hs : OwnS w b' v ys) (hg : w.grownBy w' v.ownBlock) : OwnL w' base xs ls :=
  ⟨h.1, fun k hk => by obtain ⟨A, c, h1, h2⟩ := h.2 k hk; exact ⟨A, c, h1, World.ownsRow.kept h2 hg (h2.apart hs)⟩⟩
/-- the slices that can be read from an address -/
def RSo (w : World) (A : Option Addr) (ls : List (List Int)) : Prop :=
  ∀ k (hk : k < ls.length), ∃ b o A' c', A = some ⟨b, o, none⟩ ∧ w.cell? ⟨b, o + k, none⟩ = some (.slice A' ls[k].length c') ∧ OwnI w 0 (.slice A' ls[k].length c') ls[k] ∧ RI w A' ls[k]
theorem RSo.below {w w' : World} {A : Option Addr} {ls : List (List Int)} (h : RSo w A ls) (hb : Below w.heap.size w w') : RSo w' A ls := by
  intro k hk
  obtain ⟨b, o, A', c', hA, hc, ho, hr⟩ := h k hk
  exact ⟨b, o, A', c', hA, (hb.cell (p := ⟨b, o + k, none⟩) (lt_of_cell hc)).trans hc, ho.below hb, hr.below hb⟩
theorem OwnI.ri {w : World} {b : Nat} {A : Option Addr} {l : List Int} {c : Nat} (h : OwnI w b (.slice A l.length c) l) : RI w A l := by
  obtain ⟨A', c', e, hr, _⟩ := h.form
  injection e with e1; subst e1; exact hr
theorem OwnS.forms {w : World} {b b' : Nat} {v : Value} {xs : List Value} {ls : List (List Int)} (h : OwnS w b v xs) (hl : OwnL w b' xs ls) : ∃ A c, v = .slice A ls.length c ∧ RSo w A ls := by
  have h' := h
  obtain ⟨h1, h2⟩ := h
  rcases h2 with ⟨rfl, hn⟩ | ⟨g, cap, cur, rfl, hg, r⟩
  · have : ls = [] := List.eq_nil_of_length_eq_zero (by rw [← hl.1]; exact hn)
    subst this
    exact ⟨none, 0, rfl, fun k hk => absurd hk (by simp)⟩
  · refine ⟨some ⟨g, 0, none⟩, cap, by rw [hl.1], fun k hk => ?_⟩
    obtain ⟨A', c', hx, hr⟩ := hl.2 k hk
    have e : ls.getD k [] = ls[k] := by simp [List.getD, hk]
    rw [e] at hx hr
    have c0 := h'.cells (g := g) rfl _ _ hx
    rw [show (⟨g, 0, none⟩ : Addr).add k = ⟨g, 0 + k, none⟩ by unfold Addr.add; split <;> simp_all] at c0
    exact ⟨g, 0, A', c', rfl, c0, hr.mono (Nat.zero_le _), hr.ri⟩

/-- the call returns a new slice of new slices that hold the lists -/
def RetS (ls : List (List Int)) (w : World) : Ending → World → Prop := fun e w' => ∃ A c, e = .returned (.slice A ls.length c) ∧ RSo w' A ls ∧ Below w.heap.size w w'

/-- all sets of n nodes -/
def setsL (n : Nat) : List (List Int) := (List.range (2 ^ n)).map fun m => nodesB n m.testBit

end Go.Proofs.YtncimnfhfomddaaDoor

/- The law's sanity check. -/
namespace Go.Proofs.YtncimnfhfomddaaDoor
open Go.ChangeShapes Go.WideShapes Go.ChangeAt Go.RowKit

theorem boxed4 (w : World) (t u : TypeId) (x1 x2 x3 x4 y1 y2 z1 z2 z3 z4 v1 v2 : Value) : ∃ W0, (((w.alloc (.cells #[x1, x2, x3, x4] t)).alloc (.cells #[y1, y2] u)).alloc (.cells #[z1, z2, z3, z4] t)).alloc (.cells #[v1, v2] u) = W0 ∧
    Blk W0 w.heap.size t #[x1, x2, x3, x4] ∧ Blk W0 (w.heap.size + 1) u #[y1, y2] ∧ Blk W0 (w.heap.size + 1 + 1) t #[z1, z2, z3, z4] ∧ Blk W0 (w.heap.size + 1 + 1 + 1) u #[v1, v2] ∧ Below w.heap.size w W0 := by
  refine ⟨_, rfl, (((Blk.new w t _).alloc _).alloc _).alloc _, ?_, ?_, ?_, ((((Below.refl _ _).alloc (Nat.le_refl _) _).alloc (by simp) _).alloc (by simp; omega) _).alloc (by simp; omega) _⟩
  · have := ((Blk.new (w.alloc (.cells #[x1, x2, x3, x4] t)) u #[y1, y2]).alloc (.cells #[z1, z2, z3, z4] t)).alloc (.cells #[v1, v2] u)
    simpa using this
  · have := (Blk.new ((w.alloc (.cells #[x1, x2, x3, x4] t)).alloc (.cells #[y1, y2] u)) t #[z1, z2, z3, z4]).alloc (.cells #[v1, v2] u)
    simpa using this
  · have := Blk.new (((w.alloc (.cells #[x1, x2, x3, x4] t)).alloc (.cells #[y1, y2] u)).alloc (.cells #[z1, z2, z3, z4] t)) u #[v1, v2]
    simpa using this
theorem Blk.pairs {w : World} {g : Nat} {t : TypeId} {a b c d : Int} (h : Blk w g t #[.int .i64 a, .int .i64 b, .int .i64 c, .int .i64 d]) : RP w (some ⟨g, 0, none⟩) [(a, b), (c, d)] := by
  intro k hk
  refine ⟨g, 0, rfl, ?_⟩
  rw [h.cell, h.cell]
  match k, hk with
  | 0, _ => exact ⟨rfl, rfl⟩
  | 1, _ => exact ⟨rfl, rfl⟩
theorem new_ri1 (w : World) (t : TypeId) (a : Int) : RI (w.alloc (.cells #[.int .i64 a] t)) (some ⟨w.heap.size, 0, none⟩) [a] := by
  intro k hk
  refine ⟨w.heap.size, 0, rfl, ?_⟩
  rw [(Blk.new w t #[.int .i64 a]).cell]
  match k, hk with
  | 0, _ => rfl
theorem new_ri2 (w : World) (t : TypeId) (a b : Int) : RI (w.alloc (.cells #[.int .i64 a, .int .i64 b] t)) (some ⟨w.heap.size, 0, none⟩) [a, b] := by
  intro k hk
  refine ⟨w.heap.size, 0, rfl, ?_⟩
  rw [(Blk.new w t #[.int .i64 a, .int .i64 b]).cell]
  match k, hk with
  | 0, _ => rfl
  | 1, _ => rfl
/-- four cells stay -/
theorem keep4 {wa wb : World} {a b c d : Addr} {x y z t : Value} (h : wa.cell? a = some x ∧ wa.cell? b = some y ∧ wa.cell? c = some z ∧ wa.cell? d = some t) (hb : Below wa.heap.size wa wb) :
    wb.cell? a = some x ∧ wb.cell? b = some y ∧ wb.cell? c = some z ∧ wb.cell? d = some t :=
  ⟨(hb.cell (lt_of_cell h.1)).trans h.1, (hb.cell (lt_of_cell h.2.1)).trans h.2.1, (hb.cell (lt_of_cell h.2.2.1)).trans h.2.2.1, (hb.cell (lt_of_cell h.2.2.2)).trans h.2.2.2⟩
theorem newB (w : World) (o : Obj) : Below w.heap.size w (w.alloc o) := (Below.refl _ _).alloc (Nat.le_refl _) _
theorem thenB {a b c : World} (h : Below a.heap.size a b) (k : Below b.heap.size b c) : Below a.heap.size a c := endB h k

def chainG : List (Int × Int) := [(0, 1), (1, 2)]
def pairG : List (Int × Int) := [(0, 1), (1, 0)]
theorem chain_in : InR 3 chainG := ⟨by omega, by decide, by decide⟩
theorem pair_in : InR 2 pairG := ⟨by omega, by decide, by decide⟩
theorem k1 : growL 3 chainG [] = ([0, 2], 0) := by kernel_rfl
theorem k2 : eqB [0, 2] [0, 2] = true := by decide
theorem k3 : defB 3 chainG [0] 2 = true := by decide
theorem k4 : defB 3 chainG [] 2 = false := by decide
theorem k5 : (setB (2 : Nat) [0] && stabB 2 pairG (maskN [0])) = true := by decide
theorem k6 : (setB (2 : Nat) [0] && complB 2 pairG (maskN [0])) = true := by decide
theorem k7 : (setB (2 : Nat) [0, 1] && soundB 2 pairG (maskN [0, 1])) = false := by decide

end Go.Proofs.YtncimnfhfomddaaDoor
