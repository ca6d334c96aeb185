import Derived.Laws.BitsAllLaws
import Derived.Laws.Bits64
import Derived.IntWalk
import Derived.Lib.TrailingZeros
/- Plain facts on numbers of 64 bits as sets. Nothing of the program. -/
namespace Go.Proofs.YtncimnfhfomddaaDoor

theorem two_pow_u64 {k : Nat} (h : k < 64) : 2 ^ k < 18446744073709551616 := by
  have h2 : 2 ^ k < 2 ^ 64 := Nat.pow_lt_pow_right (by omega) h
  omega
theorem u64_shl_wrap (a k : Nat) (h : a * 2 ^ k < 18446744073709551616) : IntKind.u64.wrap ((a : Int) * 2 ^ k) = ((a <<< k : Nat) : Int) := by
  rw [Nat.shiftLeft_eq]
  have e : ((a : Int) * 2 ^ k) = ((a * 2 ^ k : Nat) : Int) := by simp
  rw [e, IntKind.wrap_u64]; omega
theorem u64_one_shl (k : Nat) (h : k < 64) : IntKind.u64.wrap (1 * 2 ^ k) = ((1 <<< k : Nat) : Int) := by
  have h2 : 2 ^ k < 18446744073709551616 := two_pow_u64 h
  have := u64_shl_wrap 1 k (by omega)
  simpa using this
theorem u64_shr (a k : Nat) : ((a : Int) / 2 ^ k) = ((a >>> k : Nat) : Int) := by
  rw [Nat.shiftRight_eq_div_pow]; simp
theorem u64_and_one (a k : Nat) : bits .and .u64 ((a >>> k : Nat) : Int) 1 = (((a >>> k) &&& 1 : Nat) : Int) ∨ 18446744073709551616 ≤ a := by
  by_cases h : a < 18446744073709551616
  · left
    have h2 : a >>> k < 18446744073709551616 := Nat.lt_of_le_of_lt (by rw [Nat.shiftRight_eq_div_pow]; exact Nat.div_le_self _ _) h
    exact u64_and_nat (a >>> k) 1 h2 (by omega)
  · right; omega
theorem shr_and_one (m a : Nat) : (m >>> a) &&& 1 = if m.testBit a then 1 else 0 := by
  rw [Nat.testBit_eq_decide_div_mod_eq, Nat.shiftRight_eq_div_pow, Nat.and_one_is_mod]
  have := Nat.mod_two_eq_zero_or_one (m / 2 ^ a)
  split <;> rename_i h <;> simp at h <;> omega

/-- one attack: what p adds -/
def attBit (m : Nat) (p : Int × Int) : Nat := if m.testBit p.1.toNat then 1 <<< p.2.toNat else 0
theorem attBit_lt (m : Nat) (p : Int × Int) (h : p.2.toNat < 64) : attBit m p < 18446744073709551616 := by
  unfold attBit
  split
  · rw [Nat.shiftLeft_eq]
    have h2 : 2 ^ p.2.toNat < 18446744073709551616 := two_pow_u64 h
    omega
  · omega
theorem att_step (z m : Nat) (p : Int × Int) (hz : z < 18446744073709551616) (hm : m < 18446744073709551616) (hb : p.2.toNat < 64) :
    bits BinOp.or IntKind.u64 (z : Int) (IntKind.u64.wrap (bits BinOp.and IntKind.u64 ((m : Int) / 2 ^ p.1.toNat) 1 * 2 ^ p.2.toNat)) = ((z ||| attBit m p : Nat) : Int) := by
  have h2 : 2 ^ p.2.toNat < 18446744073709551616 := two_pow_u64 hb
  have e1 : bits BinOp.and IntKind.u64 ((m : Int) / 2 ^ p.1.toNat) 1 = ((if m.testBit p.1.toNat then 1 else 0 : Nat) : Int) := by
    rw [u64_shr, ← shr_and_one]
    rcases u64_and_one (k := p.1.toNat) m with h | h
    · exact h
    · omega
  have e2 : IntKind.u64.wrap (bits BinOp.and IntKind.u64 ((m : Int) / 2 ^ p.1.toNat) 1 * 2 ^ p.2.toNat) = ((attBit m p : Nat) : Int) := by
    rw [e1, u64_shl_wrap _ _ (by split <;> omega)]
    unfold attBit
    split <;> simp
  rw [e2, u64_or_nat _ _ hz (attBit_lt m p hb)]

/-- the nodes that a set attacks -/
def attN (l : List (Int × Int)) (m : Nat) : Nat := l.foldl (fun z p => z ||| attBit m p) 0
theorem attN_snoc (l : List (Int × Int)) (p : Int × Int) (m : Nat) : attN (l ++ [p]) m = attN l m ||| attBit m p := by simp [attN, List.foldl_append]
theorem testBit_attBit (m : Nat) (p : Int × Int) (j : Nat) : (attBit m p).testBit j = (m.testBit p.1.toNat && decide (p.2.toNat = j)) := by
  unfold attBit
  by_cases h : m.testBit p.1.toNat
  · rw [if_pos h, h, Nat.one_shiftLeft, Nat.testBit_two_pow]; simp
  · rw [if_neg h]; simp at h; simp [h]
theorem testBit_attN (l : List (Int × Int)) (m j : Nat) : (attN l m).testBit j = l.any (fun p => m.testBit p.1.toNat && decide (p.2.toNat = j)) := by
  suffices h : ∀ z, (l.foldl (fun z p => z ||| attBit m p) z).testBit j = (z.testBit j || l.any (fun p => m.testBit p.1.toNat && decide (p.2.toNat = j))) by
    have := h 0; simpa [attN] using this
  induction l with
  | nil => intro z; simp
  | cons p l ih => intro z; simp only [List.foldl_cons, List.any_cons, ih, Nat.testBit_or, testBit_attBit, Bool.or_assoc]
theorem attN_lt_pow (l : List (Int × Int)) (m n : Nat) (h : ∀ p ∈ l, p.2.toNat < n) : attN l m < 2 ^ n := by
  apply Nat.lt_pow_two_of_testBit
  intro j hj
  rw [testBit_attN]
  rw [List.any_eq_false]
  intro p hp
  have := h p hp
  simp; intro _; omega

/-- all nodes of n -/
def allN (n : Nat) : Nat := 2 ^ n - 1
theorem testBit_allN (n j : Nat) : (allN n).testBit j = decide (j < n) := by unfold allN; rw [Nat.testBit_two_pow_sub_one]
theorem allN_lt (n : Nat) : allN n < 2 ^ n := by unfold allN; have := Nat.two_pow_pos n; omega
theorem allN_u64 (n : Nat) (h : n ≤ 63) : IntKind.u64.wrap (IntKind.u64.wrap (1 * 2 ^ n) - 1) = ((allN n : Nat) : Int) := by
  rw [u64_one_shl n (by omega), Nat.one_shiftLeft, IntKind.wrap_u64]
  have h2 : 2 ^ n < 18446744073709551616 := two_pow_u64 (by omega)
  have := Nat.two_pow_pos n
  unfold allN; omega
theorem pow_le_u64 {n : Nat} (h : n ≤ 64) : 2 ^ n ≤ 18446744073709551616 := by have := Nat.pow_le_pow_right (n := 2) (by omega) h; omega

/-- a without b -/
def minusN (a b : Nat) : Nat := a &&& (18446744073709551615 - b)
theorem testBit_minusN (a b j : Nat) (hb : b < 18446744073709551616) (ha : a < 18446744073709551616) : (minusN a b).testBit j = (a.testBit j && !b.testBit j) := by
  unfold minusN
  rw [Nat.testBit_and]
  have e : 18446744073709551615 - b = 2 ^ 64 - (b + 1) := by omega
  rw [e, Nat.testBit_two_pow_sub_succ (by omega)]
  by_cases h : j < 64
  · simp [h]
  · have : a.testBit j = false := Nat.testBit_lt_two_pow (Nat.lt_of_lt_of_le ha (by
      have : 2 ^ 64 ≤ 2 ^ j := Nat.pow_le_pow_right (n := 2) (by omega) (by omega)
      omega))
    simp [this]
theorem minusN_le (a b : Nat) : minusN a b ≤ a := Nat.and_le_left
theorem u64_minus (a b : Nat) (ha : a < 18446744073709551616) (hb : b < 18446744073709551616) : bits .andNot .u64 (a : Int) (b : Int) = ((minusN a b : Nat) : Int) := u64_andNot_nat a b ha hb

/-- the nodes that a set defends, in a graph of n nodes -/
def stepN (n : Nat) (l : List (Int × Int)) (m : Nat) : Nat := minusN (allN n) (attN l (minusN (allN n) (attN l m)))

/-- the numbers below n with a property, ascending -/
def nodesB (n : Nat) (p : Nat → Bool) : List Int := ((List.range n).filter p).map Int.ofNat
theorem nodesB_congr {n : Nat} {p q : Nat → Bool} (h : ∀ i, i < n → p i = q i) : nodesB n p = nodesB n q := by
  unfold nodesB
  rw [List.filter_congr fun i hi => h i (List.mem_range.1 hi)]
theorem mem_nodesB {n : Nat} {p : Nat → Bool} {x : Int} : x ∈ nodesB n p ↔ ∃ i : Nat, i < n ∧ p i = true ∧ x = i := by
  simp only [nodesB, List.mem_map, List.mem_filter, List.mem_range]
  constructor
  · rintro ⟨i, ⟨h1, h2⟩, rfl⟩; exact ⟨i, h1, h2, rfl⟩
  · rintro ⟨i, h1, h2, rfl⟩; exact ⟨i, ⟨h1, h2⟩, rfl⟩
theorem nodesB_length (n : Nat) (p : Nat → Bool) : (nodesB n p).length ≤ n := by
  unfold nodesB; rw [List.length_map]; have := List.length_filter_le p (List.range n); simp at this; exact this
theorem nodesB_more {n N : Nat} (h : n ≤ N) {p : Nat → Bool} (hp : ∀ i, n ≤ i → p i = false) : nodesB N p = nodesB n p := by
  unfold nodesB
  obtain ⟨d, rfl⟩ := Nat.exists_eq_add_of_le h
  rw [List.range_add, List.filter_append]
  have : List.filter p (List.map (fun x => n + x) (List.range d)) = [] := by
    rw [List.filter_eq_nil_iff]
    intro a ha
    obtain ⟨i, _, rfl⟩ := List.mem_map.1 ha
    simp [hp (n + i) (by omega)]
  rw [this, List.append_nil]
theorem nodesB_succ (n : Nat) (p : Nat → Bool) : nodesB (n + 1) p = nodesB n p ++ (if p n then [(n : Int)] else []) := by
  unfold nodesB
  rw [List.range_succ, List.filter_append, List.map_append]
  by_cases h : p n <;> simp [h]

theorem lowest_form (x : Nat) (h0 : x ≠ 0) (h : x < 18446744073709551616) : ∃ m, x = 2 ^ Lib.ctz 64 x * (2 * m + 1) ∧ Lib.ctz 64 x < 64 := by
  unfold Lib.ctz
  rw [if_neg h0]
  exact Lib.ctzFrom_spec 64 x (by omega) (by omega)
/-- the set without its lowest element -/
def dropLow (x : Nat) : Nat := x &&& (x - 1)
theorem dropLow_lt (x : Nat) (h0 : x ≠ 0) : dropLow x < x := by
  have : dropLow x ≤ x - 1 := Nat.and_le_right
  omega
theorem testBit_of_form (t m j : Nat) : (2 ^ t * (2 * m + 1)).testBit j = if j < t then false else if j = t then true else m.testBit (j - (t + 1)) := by
  rw [Nat.testBit_two_pow_mul]
  by_cases h1 : j < t
  · simp [h1]; intro h; omega
  · by_cases h2 : j = t
    · subst h2; simp [Nat.testBit_zero]
    · rw [if_neg h1, if_neg h2]
      have e : j - t = (j - (t + 1)) + 1 := by omega
      rw [e, Nat.testBit_succ]
      have : (2 * m + 1) / 2 = m := by omega
      rw [this]; simp; intro _; omega
theorem testBit_dropLow (x j : Nat) (h0 : x ≠ 0) (h : x < 18446744073709551616) : (dropLow x).testBit j = (x.testBit j && decide (j ≠ Lib.ctz 64 x)) := by
  obtain ⟨m, hx, hk⟩ := lowest_form x h0 h
  generalize Lib.ctz 64 x = t at *
  have hp := Nat.two_pow_pos t
  have e1 : x = 2 ^ (t + 1) * m + 2 ^ t := by rw [hx, Nat.pow_succ, Nat.mul_add, Nat.mul_one, ← Nat.mul_assoc]
  have e2 : x - 1 = 2 ^ (t + 1) * m + (2 ^ t - 1) := by omega
  unfold dropLow
  rw [Nat.testBit_and, e2, Nat.testBit_two_pow_mul_add _ (by rw [Nat.pow_succ]; omega), hx, testBit_of_form]
  by_cases h1 : j < t
  · simp [h1]
  · by_cases h2 : j = t
    · subst h2; simp [Nat.testBit_two_pow_sub_one]
    · simp [h1, h2, show ¬ j < t + 1 by omega]
theorem low_bit (x : Nat) (h0 : x ≠ 0) (h : x < 18446744073709551616) : Lib.ctz 64 x < 64 ∧ x.testBit (Lib.ctz 64 x) = true ∧ ∀ j, j < Lib.ctz 64 x → x.testBit j = false := by
  obtain ⟨m, hx, hk⟩ := lowest_form x h0 h
  generalize Lib.ctz 64 x = t at *
  refine ⟨hk, ?_, fun j hj => ?_⟩
  · rw [hx, testBit_of_form]; simp
  · rw [hx, testBit_of_form]; simp [hj]
theorem nodesB_low (x : Nat) (h0 : x ≠ 0) (h : x < 18446744073709551616) : nodesB 64 x.testBit = (Lib.ctz 64 x : Int) :: nodesB 64 (dropLow x).testBit := by
  obtain ⟨h1, h2, h3⟩ := low_bit x h0 h
  have hd := fun j => testBit_dropLow x j h0 h
  generalize Lib.ctz 64 x = t at *
  unfold nodesB
  obtain ⟨d, hd'⟩ := Nat.exists_eq_add_of_le (show t + 1 ≤ 64 by omega)
  rw [hd', List.range_add, List.range_succ]
  simp only [List.filter_append, List.map_append]
  have a1 : List.filter x.testBit (List.range t) = [] := by
    rw [List.filter_eq_nil_iff]; intro a ha; simp [h3 a (List.mem_range.1 ha)]
  have a2 : List.filter (dropLow x).testBit (List.range t) = [] := by
    rw [List.filter_eq_nil_iff]; intro a ha; simp [hd, h3 a (List.mem_range.1 ha)]
  have a3 : List.filter (dropLow x).testBit (List.map (fun i => t + 1 + i) (List.range d)) = List.filter x.testBit (List.map (fun i => t + 1 + i) (List.range d)) := by
    apply List.filter_congr
    intro a ha
    obtain ⟨i, _, rfl⟩ := List.mem_map.1 ha
    rw [hd]; simp; intro _; omega
  rw [a1, a2, a3]
  simp [h2, hd]
theorem nodesB_zero : nodesB 64 (0 : Nat).testBit = [] := by
  unfold nodesB
  rw [List.filter_eq_nil_iff.2 (fun a _ => by simp)]
  rfl
end Go.Proofs.YtncimnfhfomddaaDoor

/- Attack graphs as relations on small numbers; what the masks mean. Nothing of the program. -/
namespace Go.Proofs.YtncimnfhfomddaaDoor

/-- the pairs lie among the nodes below n -/
def InR (n : Nat) (l : List (Int × Int)) : Prop := n ≤ 40 ∧ l.length ≤ 100000 ∧ ∀ p ∈ l, 0 ≤ p.1 ∧ p.1 < n ∧ 0 ≤ p.2 ∧ p.2 < n
theorem attN_u64 {n : Nat} {l : List (Int × Int)} (h : InR n l) (m : Nat) : attN l m < 2 ^ n := attN_lt_pow l m n fun p hp => by have := h.2.2 p hp; omega
theorem u64_of {n m : Nat} (hn : n ≤ 40) (h : m < 2 ^ n) : m < 18446744073709551616 := Nat.lt_of_lt_of_le h (pow_le_u64 (by omega))


/-- a attacks b -/
def att (l : List (Int × Int)) (a b : Nat) : Prop := ((a : Int), (b : Int)) ∈ l
instance (l : List (Int × Int)) (a b : Nat) : Decidable (att l a b) := by unfold att; infer_instance
/-- a set of numbers: those whose bit is set -/
def has (m j : Nat) : Prop := m.testBit j = true
instance (m j : Nat) : Decidable (has m j) := by unfold has; infer_instance
theorem not_has {m j : Nat} : ¬ has m j ↔ m.testBit j = false := by unfold has; cases m.testBit j <;> simp
theorem has_ext {m k : Nat} (h : ∀ j, has m j ↔ has k j) : m = k := by
  apply Nat.eq_of_testBit_eq
  intro j
  have := h j
  unfold has at this
  rw [Bool.eq_iff_iff]; exact this
theorem has_lt {n m j : Nat} (hm : m < 2 ^ n) (h : has m j) : j < n := by
  rcases Nat.lt_or_ge j n with hlt | hge
  · exact hlt
  · unfold has at h
    rw [Nat.testBit_lt_two_pow (Nat.lt_of_lt_of_le hm (Nat.pow_le_pow_right (by omega) hge))] at h; cases h

theorem att_lt {n : Nat} {l : List (Int × Int)} (hv : InR n l) {a b : Nat} (h : att l a b) : a < n ∧ b < n := by
  have := hv.2.2 _ h; simp at this; omega
theorem has_attN {n : Nat} {l : List (Int × Int)} (hv : InR n l) (m j : Nat) : has (attN l m) j ↔ ∃ a, has m a ∧ att l a j := by
  unfold has
  rw [testBit_attN, List.any_eq_true]
  constructor
  · rintro ⟨p, hp, h⟩
    simp only [Bool.and_eq_true, decide_eq_true_eq] at h
    have h1 := hv.2.2 p hp
    refine ⟨p.1.toNat, h.1, ?_⟩
    have e1 : ((p.1.toNat : Nat) : Int) = p.1 := by omega
    have e2 : ((j : Nat) : Int) = p.2 := by omega
    unfold att; rw [e1, e2]; exact hp
  · rintro ⟨a, ha, h⟩
    exact ⟨_, h, by simp [ha]⟩
theorem has_allN {n j : Nat} : has (allN n) j ↔ j < n := by unfold has; rw [testBit_allN]; simp
theorem has_minusN {a b j : Nat} (ha : a < 18446744073709551616) (hb : b < 18446744073709551616) : has (minusN a b) j ↔ has a j ∧ ¬ has b j := by
  unfold has; rw [testBit_minusN a b j hb ha]; simp
theorem has_and {a b j : Nat} : has (a &&& b) j ↔ has a j ∧ has b j := by unfold has; rw [Nat.testBit_and]; simp
theorem has_or {a b j : Nat} : has (a ||| b) j ↔ has a j ∨ has b j := by unfold has; rw [Nat.testBit_or]; simp
theorem has_zero {j : Nat} : ¬ has 0 j := by unfold has; simp
theorem stepN_lt (n : Nat) (l : List (Int × Int)) (m : Nat) : stepN n l m < 2 ^ n := Nat.lt_of_le_of_lt (minusN_le _ _) (allN_lt n)

/-- the set defends j -/
def defends (l : List (Int × Int)) (m j : Nat) : Prop := ∀ a, att l a j → ∃ b, has m b ∧ att l b a
theorem has_stepN {n : Nat} {l : List (Int × Int)} (hv : InR n l) (m j : Nat) : has (stepN n l m) j ↔ j < n ∧ defends l m j := by
  have hn := hv.1
  have hal := u64_of hn (allN_lt n)
  have ha1 := u64_of hn (attN_u64 hv m)
  have ha2 := u64_of hn (attN_u64 hv (minusN (allN n) (attN l m)))
  unfold stepN
  rw [has_minusN hal ha2, has_allN, has_attN hv]
  constructor
  · rintro ⟨h1, h2⟩
    refine ⟨h1, fun a ha => ?_⟩
    rcases Classical.em (has (attN l m) a) with h3 | h3
    · exact (has_attN hv m a).1 h3
    · exact absurd ⟨a, (has_minusN hal ha1).2 ⟨has_allN.2 (att_lt hv ha).1, h3⟩, ha⟩ h2
  · rintro ⟨h1, h2⟩
    refine ⟨h1, ?_⟩
    rintro ⟨a, h3, h4⟩
    obtain ⟨h5, h6⟩ := (has_minusN hal ha1).1 h3
    exact h6 ((has_attN hv m a).2 (h2 a h4))

def sub (a b : Nat) : Prop := ∀ j, has a j → has b j
theorem sub_le {a b : Nat} (h : sub a b) : a ≤ b := by
  have : a &&& b = a := by
    apply has_ext
    intro j
    rw [has_and]
    exact ⟨fun h => h.1, fun h' => ⟨h', h j h'⟩⟩
  rw [← this]; exact Nat.and_le_right
theorem sub_antisymm {a b : Nat} (h : sub a b) (k : sub b a) : a = b := has_ext fun j => ⟨h j, k j⟩
theorem defends_mono {l : List (Int × Int)} {a b j : Nat} (h : sub a b) (hd : defends l a j) : defends l b j := fun c hc => by
  obtain ⟨d, h1, h2⟩ := hd c hc
  exact ⟨d, h _ h1, h2⟩
theorem stepN_mono {n : Nat} {l : List (Int × Int)} (hv : InR n l) {a b : Nat} (h : sub a b) : sub (stepN n l a) (stepN n l b) := fun j hj => by
  rw [has_stepN hv] at hj ⊢
  exact ⟨hj.1, defends_mono h hj.2⟩

/-- a function applied k times -/
def itN (f : Nat → Nat) : Nat → Nat → Nat
  | 0, m => m
  | k + 1, m => f (itN f k m)
theorem itN_fix {f : Nat → Nat} {k m : Nat} (h : f (itN f k m) = itN f k m) : ∀ d, itN f (k + d) m = itN f k m
  | 0 => rfl
  | d + 1 => by rw [← Nat.add_assoc]; show f (itN f (k + d) m) = _; rw [itN_fix h d, h]
theorem itN_at {f : Nat → Nat} {k m K : Nat} (h : f (itN f k m) = itN f k m) (hk : k ≤ K) : itN f K m = itN f k m := by
  obtain ⟨d, rfl⟩ := Nat.exists_eq_add_of_le hk
  exact itN_fix h d
/-- what Grow and Shrink come to -/
def growN (n : Nat) (l : List (Int × Int)) (m : Nat) : Nat := itN (stepN n l) (2 ^ n) m
def shrinkN (n : Nat) (l : List (Int × Int)) (m : Nat) : Nat := itN (fun m => m &&& stepN n l m) (2 ^ n) m
end Go.Proofs.YtncimnfhfomddaaDoor
